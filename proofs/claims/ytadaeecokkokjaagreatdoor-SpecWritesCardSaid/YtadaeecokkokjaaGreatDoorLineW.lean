/-
  The walk of layer 17 (quoting): Line: texts as words. Conditions: at most 1000 texts of at most 20000 bytes; the library's variable MaxLen holds some number.
-/
import Derived.Test.YtadaeecokkokjaaGreatDoorBackPlain
import Derived.Test.YtadaeecokkokjaaGreatDoorLinePlain
import Derived.Test.YtadaeecokkokjaaGreatDoorQuoA
import Derived.Test.YtadaeecokkokjaaGreatDoorShelfB
set_option linter.unusedSimpArgs false
set_option linter.unusedVariables false
/-
  The line of a spec as the document puts it together, piece by piece. No program in sight.
-/
namespace Go.Proofs.YtadaeecokkokjaaGreatDoor.Spc
open Cls Md Mc Pa Li Lx Quo
set_option linter.unusedSimpArgs false
set_option linter.unusedVariables false
set_option maxRecDepth 100000
theorem joinB_flat (w : List UInt8) : ∀ r : List (List UInt8), joinB (w :: r) = w ++ r.flatMap fun t => 32 :: t
  | [] => by simp [joinB]
  | q :: r => by
    rw [joinB_cons, joinB_flat q r, List.flatMap_cons]
    simp
/-- An option and its text, as the document writes them. -/
def refO (o t : List UInt8) : List UInt8 := if t = [] then [] else 32 :: (o ++ 32 :: shortL t)
/-- The document's line. -/
def refW (n : List UInt8) (x : Sp) : List UInt8 :=
  cmpl ++ ((x.a.flatMap fun a => [32, 45, 65, 32] ++ actNm a.toNat) ++ ((if x.w = [] then [] else [32, 45, 87, 32] ++ shortL (lineL x.w)) ++ (refO [45, 71] x.g ++ (refO [45, 88] x.x ++ (refO [45, 80] x.p ++ (refO [45, 83] x.s ++ 32 :: n))))))
theorem optW_ref (o t : List UInt8) : ((optW o t).map (·.1)).flatMap (fun t => 32 :: t) = refO o t := by
  unfold optW refO
  split
  · rfl
  · simp
theorem write_ref (n : List UInt8) (x : Sp) : writeL n x = refW n x := by
  unfold writeL wordsOf refW
  rw [List.map_cons, joinB_flat]
  have h1 : ∀ l : List Int, ((l.flatMap fun a => [(([45, 65] : List UInt8), ([45, 65] : List UInt8)), (actNm a.toNat, actNm a.toNat)]).map (·.1)).flatMap (fun t => 32 :: t) = l.flatMap fun a => [32, 45, 65, 32] ++ actNm a.toNat := by
    intro l
    induction l with
    | nil => rfl
    | cons a r ih =>
      rw [List.flatMap_cons, List.map_append, List.flatMap_append, ih, List.flatMap_cons]
      simp
  have h2 : ((if x.w = [] then [] else [(([45, 87] : List UInt8), ([45, 87] : List UInt8)), (shortL (lineL x.w), lineL x.w)]).map (·.1)).flatMap (fun t => 32 :: t) = if x.w = [] then [] else [32, 45, 87, 32] ++ shortL (lineL x.w) := by
    split
    · rfl
    · simp
  simp only [List.map_append, List.flatMap_append, h1, h2, optW_ref]
  simp
/-- How long a spec's line is. -/
theorem write_len (n : List UInt8) (x : Sp) (hn : n.length ≤ 100) (ha : x.a.length ≤ 20) (hw : x.w.length ≤ 20) (hg : x.g.length ≤ 60) (hx : x.x.length ≤ 60) (hp : x.p.length ≤ 60) (hs : x.s.length ≤ 60) (ht : ∀ t ∈ x.w, t.length ≤ 60) (hl : (lineL x.w).length ≤ x.w.length * (4 * 60 + 5)) : (writeL n x).length ≤ 22500 := by
  have hact : ∀ k : Nat, (actNm k).length ≤ 8 := by
    intro k
    unfold actNm
    rcases Nat.lt_or_ge k 8 with h | h
    · exact (by decide +kernel : ∀ j : Fin 8, (actN.getD j.val []).length ≤ 8) ⟨k, h⟩
    · rw [List.getD_eq_getElem?_getD, List.getElem?_eq_none (by simpa [actN] using h)]; simp
  have h1 : ∀ l : List Int, (l.flatMap fun a => [32, 45, 65, 32] ++ actNm a.toNat).length ≤ l.length * 12 := by
    intro l
    induction l with
    | nil => simp
    | cons a r ih =>
      have h := hact a.toNat
      have e : ([32, 45, 65, 32] ++ actNm a.toNat).length = 4 + (actNm a.toNat).length := by rw [List.length_append]; rfl
      rw [List.flatMap_cons, List.length_append, List.length_cons, e]
      omega
  have ho : ∀ (o t : List UInt8), o.length = 2 → t.length ≤ 60 → (refO o t).length ≤ 248 := by
    intro o t h1 h2
    unfold refO
    have := short_len t
    split
    · simp
    · rw [List.length_cons, List.length_append, List.length_cons]
      omega
  have hsl := short_len (lineL x.w)
  have hmul : x.w.length * (4 * 60 + 5) ≤ 20 * 245 := Nat.mul_le_mul hw (by omega)
  have hw2 : (if x.w = [] then ([] : List UInt8) else [32, 45, 87, 32] ++ shortL (lineL x.w)).length ≤ 4 + (4 * 4900 + 4) := by
    split
    · simp
    · rw [List.length_append]
      have e : ([32, 45, 87, 32] : List UInt8).length = 4 := rfl
      omega
  have a1 := h1 x.a
  have o1 := ho [45, 71] x.g rfl hg
  have o2 := ho [45, 88] x.x rfl hx
  have o3 := ho [45, 80] x.p rfl hp
  have o4 := ho [45, 83] x.s rfl hs
  have hc : cmpl.length = 8 := rfl
  rw [write_ref]
  unfold refW
  simp only [List.length_append, List.length_cons]
  omega
theorem words_short {n : List UInt8} {x : Sp} (hn : n.length ≤ 30000) (hg : x.g.length ≤ 60) (hx : x.x.length ≤ 60) (hpp : x.p.length ≤ 60) (hs : x.s.length ≤ 60) (hl : (lineL x.w).length ≤ 30000) : ∀ p ∈ wordsOf n x, p.2.length ≤ 30000 := by
  have hact : ∀ k : Nat, (actNm k).length ≤ 8 := by
    intro k
    unfold actNm
    rcases Nat.lt_or_ge k 8 with h | h
    · exact (by decide +kernel : ∀ j : Fin 8, (actN.getD j.val []).length ≤ 8) ⟨k, h⟩
    · rw [List.getD_eq_getElem?_getD, List.getElem?_eq_none (by simpa [actN] using h)]; simp
  have ho : ∀ (o t : List UInt8), o.length = 2 → t.length ≤ 60 → ∀ p ∈ optW o t, p.2.length ≤ 30000 := by
    intro o t h1 h2 p hp
    unfold optW at hp
    split at hp
    · cases hp
    · rcases List.mem_cons.1 hp with rfl | hp
      · show o.length ≤ 30000; omega
      · rw [List.mem_singleton] at hp
        subst hp
        show t.length ≤ 30000; omega
  intro p hp
  unfold wordsOf at hp
  simp only [List.mem_cons, List.mem_append] at hp
  rcases hp with rfl | h | h | h | h | h | h | h
  · decide
  · obtain ⟨a, ha, h⟩ := List.mem_flatMap.1 h
    rcases List.mem_cons.1 h with rfl | h
    · show (2 : Nat) ≤ 30000; omega
    · rw [List.mem_singleton] at h
      subst h
      have := hact a.toNat
      show (actNm a.toNat).length ≤ 30000; omega
  · split at h
    · cases h
    · rcases List.mem_cons.1 h with rfl | h
      · show (2 : Nat) ≤ 30000; omega
      · rw [List.mem_singleton] at h
        subst h
        exact hl
  · exact ho _ _ rfl hg p h
  · exact ho _ _ rfl hx p h
  · exact ho _ _ rfl hpp p h
  · exact ho _ _ rfl hs p h
  · rcases h with rfl | h
    · exact hn
    · cases h
end Go.Proofs.YtadaeecokkokjaaGreatDoor.Spc
namespace Go.Proofs.YtadaeecokkokjaaGreatDoor.Quo
open Go.ChangeShapes Go.WideShapes Go.Deep Go.RowKit Cls Md Mc Pa Li Pat
set_option linter.unusedSimpArgs false
set_option linter.unusedVariables false
set_option maxRecDepth 100000
theorem B_dataL (l : List UInt8) : (B l).data.toList = l := by simp [B]
theorem B_datas (ts : List (List UInt8)) : (ts.map B).map (·.data.toList) = ts := by
  rw [List.map_map]
  have : ((fun x : ByteArray => x.data.toList) ∘ B) = id := by funext l; exact B_dataL l
  rw [this, List.map_id]
/-- strings.Join of an own row of texts. -/
theorem strJoin_b (w : World) (b0 : Nat) (o : Value) (ts : List (List UInt8)) (sep : List UInt8) (h : Own w b0 1 o ts.length (ts.flatMap strC)) (hN : ts.length ≤ 1099511627776) (hlen : (Lib.join ts sep).length ≤ 140737488355328) :
    Calls Tryz.prog 17 #[o, .string (B sep)] w fun e w' => e = .returned (.string (B (Lib.join ts sep))) ∧ Below w.heap.size w w' := by
  by_cases h0 : ts = []
  · subst h0
    obtain ⟨A, c, rfl, _⟩ := h.form0
    refine (Tryz.strings_Join_none A c (B sep) w).mono fun e w' k => ⟨?_, by rw [k.2]; exact Below.refl _ _⟩
    rw [k.1]; rfl
  · obtain ⟨g, off, c, rfl, _, hg, hc, _⟩ := h.form' (List.length_pos_iff.2 h0)
    obtain ⟨A, c', e, _, _, _, h4⟩ := h.sl strC_len rfl
    obtain ⟨b, o, e2, _, hcell⟩ := h4 (List.length_pos_iff.2 h0)
    subst e2
    injection e with e _ _
    injection e with e
    cases e
    have := Tryz.strings_Join g off c (ts.map B) (B sep) w (fun j x hx => by
      rw [List.getElem?_map] at hx
      cases ht : ts[j]? with
      | none => rw [ht] at hx; cases hx
      | some t =>
        rw [ht] at hx
        cases hx
        have := hcell j t ht 0 _ rfl
        simpa using this) hg (by simp; omega) (by simpa using hc) (by rw [B_datas, B_dataL]; exact hlen)
    rw [B_datas, B_dataL, List.length_map] at this
    exact this
theorem joinB_is : ∀ ws : List (List UInt8), joinB ws = Lib.join ws [32]
  | [] => rfl
  | [w] => (Lib.join_one w [32]).symm
  | w :: q :: r => by
    rw [joinB_cons, joinB_is (q :: r), Lib.join_cons, Lib.join_cons]
    simp [Lib.joinTail]
theorem joinB_len : ∀ (ws : List (List UInt8)) (m : Nat), (∀ x ∈ ws, x.length ≤ m) → (joinB ws).length ≤ ws.length * (m + 1)
  | [], m, _ => Nat.zero_le _
  | [w], m, h => by have := h w (by simp); simp [joinB]; omega
  | w :: q :: r, m, h => by
    have h1 := h w (by simp)
    have h2 := joinB_len (q :: r) m (fun x hx => h x (List.mem_cons_of_mem _ hx))
    rw [joinB_cons, List.length_append, List.length_cons, List.length_cons, Nat.add_mul]
    omega
theorem lineL_len (l : List (List UInt8)) (m : Nat) (h : ∀ x ∈ l, x.length ≤ m) : (lineL l).length ≤ l.length * (4 * m + 5) := by
  have := joinB_len (l.map shortL) (4 * m + 4) (fun x hx => by
    obtain ⟨s, hs, rfl⟩ := List.mem_map.1 hx
    have := h s hs
    have := short_len s
    omega)
  rw [List.length_map] at this
  exact this
theorem line_any (l : List (List UInt8)) (v : Value) (w : World) (h : Sl w strC 1 v l) (hm : MaxL w) (hl : l.length ≤ 1000) (hn : ∀ s ∈ l, s.length ≤ 20000) : Calls Tryz.prog 16 #[v] w fun e w' => e = .returned (.string (B (lineL l))) ∧ Below w.heap.size w w' := by
  obtain ⟨i0, hi0, hz00, hz01, hz02⟩ := info_parts info_str
  have HS := Lib.hid fun k (hk : k < l.length) W (hb : Below w.heap.size w W) => shortest_any l[k] W (hm.below hb) (by have := hn l[k] (List.getElem_mem hk); omega)
  have HJ := Lib.hid fun W (o : Value) (ho : Own W w.heap.size 1 o (l.map shortL).length ((l.map shortL).flatMap strC)) => (joinB_is (l.map shortL)).symm ▸ strJoin_b W w.heap.size o (l.map shortL) [32] ho (by rw [List.length_map]; omega) (by
    rw [← joinB_is]
    have h1 := lineL_len l 20000 hn
    have h2 : l.length * (4 * 20000 + 5) ≤ 1000 * 80005 := Nat.mul_le_mul hl (by omega)
    show (lineL l).length ≤ _
    omega)
  obtain ⟨A, c, rfl, hc1, hc2, hn0, hA⟩ := h
  have HA := Lib.hid hA
  clear hA hn0 hm
  go_enter Tryz.func16, Tryz.ntmps16
  go_wp2_with (at_make; refine wpList_make_own _ rfl _ _ 23 rfl w.heap.size 9 i0 (.string ByteArray.empty) 1 Tryz.underlying23 hi0 hz00 hz01 .i64 .i64 _ l.length rfl rfl rfl (by rw [hz02]; omega) (by unfold maxLen; omega) (Nat.le_refl _) ?_; intro w0 hown0 hgrow0; have HO0 := Lib.hid (Own.of_row hown0 (Nat.le_refl _)); have HB0 : Hid (Below w.heap.size w w0) := ⟨hgrow0.os, hgrow0.tape, hgrow0.output, hgrow0.size, fun k hk => hgrow0.block k hk (fun e => by cases e)⟩; clear hown0 hgrow0)
  go_loopw [3, 11] (fun o1 i wr => ∃ (k : Nat) (o : Value), k ≤ l.length ∧ o = o1 ∧ i = .int .i64 k ∧ Hid (Own wr w.heap.size 1 o k (((l.take k).map shortL).flatMap strC)) ∧ Hid (Below w.heap.size w wr)) (fun _ i _ => l.length - (intOf i).toNat)
  case atStart => exact ⟨0, _, by omega, rfl, rfl, HO0.out, HB0.out⟩
  case round =>
    obtain ⟨k, o, hk, rfl, rfl, HO, HB⟩ := hrel
    clear HO0 HB0
    have hwz := HB.out.size
    by_cases hlt : k < l.length
    · obtain ⟨b, off, rfl, hb, hc⟩ := HA.out (by omega)
      have e0 : wr.cell? ⟨b, off + k, none⟩ = some (.string (B l[k])) := by
        have := (HB.out.cell (p := ⟨b, off + k * 1 + 0, none⟩) hb).trans (hc k _ (List.getElem?_eq_getElem hlt) 0 _ rfl)
        simpa using this
      have k0 : (0 : Int) ≤ (k : Int) := by omega
      have k1 : (k : Int) < (l.length : Int) := by omega
      have HSK := Lib.hid (HS.out k hlt wr HB.out)
      have HT := Lib.hid (show ((l.take (k + 1)).map shortL).flatMap strC = ((l.take k).map shortL).flatMap strC ++ [.string (B (shortL l[k]))] by rw [List.take_succ_eq_append_getElem hlt, List.map_append, List.flatMap_append]; rfl)
      clear hc
      generalize shortL l[k] = q at *
      go_wp2_with (first
        | (go_at_call 15; refine HSK.out.mono ?_; rintro e w2 ⟨rfl, hb2⟩; have HB2 := Lib.hid (below_then HB.out hb2); have HO2 := Lib.hid (HO.out.below hb2); have hwz2 := HB2.out.size; clear hb2)
        | ((at_builtin; refine wpList_append_src _ rfl (.tmp 15) (.tmp 18) _ rfl w.heap.size 9 i0 _ 1 16 Tryz.underlying23 hi0 hz00 hz01 hz02 rfl (by decide) _ k (((l.take k).map shortL).flatMap strC) rfl (HO2.out.below (below_alloc (Below.refl _ _) _)) _ 1 [.string (B q)] rfl rfl (Src.one _ _ _ _) (by simp [Value.oneCell']) (by unfold maxLen; omega) (by omega) (by first | (simp; done) | omega | (simp; omega)) ?_; intro v1 w1 hown1 hg1 hat1 hty1; have HTY1 := Lib.hid hty1; clear hty1); have HB3 := Lib.hid (below_keeps (below_alloc HB2.out _) hg1 (fun k q => q.2)); have HO3 := Lib.hid hown1; clear hown1 hg1 hat1))
      go_roundw
      case rel => exact ⟨k + 1, v1, by omega, rfl, by go_num, by rw [HT.out]; exact HO3, HB3⟩
      case measure => simp [intOf]; omega
    · have hk' : k = l.length := by omega
      have ho := HO.out
      rw [hk', List.take_length] at ho
      have HJK := Lib.hid (HJ.out wr o (by rw [List.length_map]; exact ho.mono (Nat.le_refl _)))
      have HLL := Lib.hid (show Lib.join (l.map shortL) [32] = lineL l from (joinB_is _).symm)
      clear ho hk'
      go_wp2_with (go_at_call 17; refine HJK.out.mono ?_; rintro e w2 ⟨rfl, hb2⟩; have HB2 := Lib.hid (below_then HB.out hb2); clear hb2)
      go_ret
      exact ⟨by first | rfl | (rw [← HLL.out]; rfl), HB2.out⟩
end Go.Proofs.YtadaeecokkokjaaGreatDoor.Quo
