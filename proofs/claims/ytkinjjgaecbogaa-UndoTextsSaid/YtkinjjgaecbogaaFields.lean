/-
  The walks of layer 26 (fields): the iterator over units. Conditions: few enough pieces (2^32), of at most 2^32 bytes each.
-/
import Derived.Test.YtkinjjgaecbogaaFieldsPlain
import Derived.Test.YtkinjjgaecbogaaTailIn
namespace Go.Proofs.Ytkinjjgaecbogaa
open Go.ChangeShapes Go.WideShapes Go.Deep Go.RowKit Go.Shelf
attribute [local go_sem] Oper.semAt_some
set_option maxRecDepth 100000
theorem take_snoc1 {α : Type} {l : List α} {k : Nat} {x : α} (h : l[k]? = some x) : l.take (k + 1) = l.take k ++ [x] := by
  obtain ⟨h1, rfl⟩ := List.getElem?_eq_some_iff.1 h
  exact List.take_succ_eq_append_getElem h1
def encU (u : Un) : Array Value := #[u.val]
theorem unitsOf_snoc (l : List Piece) (k : Nat) (p : Piece) (h : l[k]? = some p) : unitsOf (l.take (k + 1)) = unitsOf (l.take k) ++ unitsP p := by
  obtain ⟨h1, rfl⟩ := List.getElem?_eq_some_iff.1 h
  unfold unitsOf
  rw [List.take_succ_eq_append_getElem h1, List.flatMap_append]
  simp only [List.flatMap_cons, List.flatMap_nil, List.append_nil]
theorem unitsOf_pre (l : List Piece) (k : Nat) : unitsOf (l.take k) <+: unitsOf l := by
  refine ⟨unitsOf (l.drop k), ?_⟩
  unfold unitsOf
  rw [← List.flatMap_append, List.take_append_drop]
def keepU (b1 : Nat) (v : Value) : World → World → Prop := KeepT (fun k => k = b1 ∨ v.ownBlock = some k) (fun t => t = 51)
/-- The box of a piece. -/
structure PBox (W : World) (pb : Nat) (p : Piece) : Prop where
  ty : tyOf W pb = some 51
  c0 : W.cell? ⟨pb, 0, none⟩ = some (.bool p.ex)
  c1 : W.cell? ⟨pb, 1, none⟩ = some (.bool p.q)
  c2 : W.cell? ⟨pb, 2, none⟩ = some (.string (B p.text))
theorem PBox.keep {W W' : World} {pb b1 : Nat} {p : Piece} {v : Value} (h : PBox W pb p) (hk : keepU b1 v W W') : PBox W' pb p := by
  have hb := hk.t pb _ h.ty rfl
  exact ⟨(tyOf_of_block hb).trans h.ty, (World.cell?_of_block (w := W) hb).trans h.c0, (World.cell?_of_block (w := W) hb).trans h.c1, (World.cell?_of_block (w := W) hb).trans h.c2⟩
/-- What a round has answered. -/
def Told (J Jx : List Un → World → Prop) (Kp : World → World → Prop) (pre : List Un) (W : World) (e : Ending) (W' : World) : Prop := ∃ b : Bool, e = .returned (.bool b) ∧ (b = true → J pre W' ∧ Kp W W') ∧ (b = false → Jx pre W')
theorem told_of {J Jx : List Un → World → Prop} {Kp : World → World → Prop} {pre : List Un} {W W' : World} {e : Ending} (h : (e = .returned (.bool true) ∧ J pre W' ∧ Kp W W') ∨ (e = .returned (.bool false) ∧ Jx pre W')) : Told J Jx Kp pre W e W' := by
  rcases h with ⟨rfl, h1, h2⟩ | ⟨rfl, h1⟩
  · exact ⟨true, rfl, fun _ => ⟨h1, h2⟩, fun h => by cases h⟩
  · exact ⟨false, rfl, (fun h => by cases h), fun _ => h1⟩
theorem heap_grow_lt (w : World) (g : GrowOf w) (b : Nat) (h : b < w.heap.size) : (grow w g).heap[b]? = w.heap[b]? := g.2.block b h
theorem PBox.grow {W : World} {pb : Nat} {p : Piece} (h : PBox W pb p) (g : GrowOf W) : PBox (grow W g) pb p := by
  have hb := heap_grow_lt W g pb (tyOf_lt h.ty)
  exact ⟨(tyOf_of_block hb).trans h.ty, (World.cell?_of_block (w := W) hb).trans h.c0, (World.cell?_of_block (w := W) hb).trans h.c1, (World.cell?_of_block (w := W) hb).trans h.c2⟩
set_option maxHeartbeats 2000000 in
theorem units1 (n : Nat) (hn : 1 ≤ n) (lab b1 : Nat) (v vk : Value) (l : List Piece) (hvk : l ≠ [] → vk = v) (hl : l.length ≤ 4294967296) (hlt : ∀ p ∈ l, p.text.length ≤ 4294967296) (J Jx : List Un → World → Prop)
    (hY : ∀ pre x W, J pre W → pre.length < (unitsOf l).length → YieldAt Fence.wide (n - 1) Try.prog lab #[x.val] W fun e W' =>
      (e = .returned (.bool true) ∧ J (pre ++ [x]) W' ∧ keepU b1 vk W W') ∨ (e = .returned (.bool false) ∧ Jx (pre ++ [x]) W'))
    (W : World) (hJ : ∀ s A A', J s A → Below A.heap.size A A' → J s A') (h1 : W.cell? ⟨b1, 0, none⟩ = some v) (hv : Sl W Piece.cells 3 v l) (h0 : J [] W) :
    CallsIn Fence.wide n Try.prog 91 #[.func (.yield lab) #[] #[], .pointer (some ⟨b1, 0, none⟩)] W fun e W' => (∃ v, e = .returned v) ∧
      ((∃ ys, ys = unitsOf l ∧ J ys W') ∨ (∃ pre, pre <+: unitsOf l ∧ Jx pre W')) := by
  have HY := Lib.hid hY
  have HJA := Lib.hid hJ
  obtain ⟨A, c, rfl, hc1, hc2, hn0, hA⟩ := hv
  have HA := Lib.hid hA
  have HVK := Lib.hid hvk
  clear hY hJ hA hn0 hvk
  refine callsIn_of_wp Try.func91 rfl trivial ?_ rfl
  simp only [Try.ntmps91, List.size_toArray, List.length_cons, List.length_nil, Nat.reduceAdd, Nat.reduceSub, Array.replicate_succ, Array.replicate_zero, List.push_toArray, List.append_toArray, List.nil_append, List.cons_append]
  gi_wp2
  gi_loopw [8] (fun i wr => ∃ k : Nat, k ≤ l.length ∧ i = .int .i64 k ∧ Hid (J (unitsOf (l.take k)) wr) ∧ Hid (∀ b, A = some b → wr.heap[b.block]? = W.heap[b.block]?) ∧ W.heap.size ≤ wr.heap.size) (fun i _ => l.length - (intOf i).toNat)
  case atStart => exact ⟨0, by omega, rfl, h0, fun _ _ => rfl, Nat.le_refl _⟩
  case round =>
    clear h0 h1
    obtain ⟨k, hk, rfl, HJ, HB, hsz⟩ := hrel
    by_cases hltk : k < l.length
    · obtain ⟨b, off, rfl, hb, hc⟩ := HA.out (by omega)
      have HV1 : Hid (vk.ownBlock = some b) := by show _ = _; rw [HVK.out (by intro e; rw [e] at hltk; simp at hltk)]; rfl
      obtain ⟨p, hp⟩ := get_some hltk
      have hblk : wr.heap[b]? = W.heap[b]? := HB.out _ rfl
      have e0 : wr.cell? ⟨b, off + k * 3, none⟩ = some (.bool p.ex) := (World.cell?_of_block (w := W) hblk).trans (hc k _ hp 0 _ rfl)
      have e1 : wr.cell? ⟨b, off + k * 3 + 1, none⟩ = some (.bool p.q) := (World.cell?_of_block (w := W) hblk).trans (hc k _ hp 1 _ rfl)
      have e2 : wr.cell? ⟨b, off + k * 3 + 2, none⟩ = some (.string (B p.text)) := (World.cell?_of_block (w := W) hblk).trans (hc k _ hp 2 _ rfl)
      have hpt := hlt p (List.mem_of_getElem? hp)
      have HS := Lib.hid (unitsOf_snoc l k p hp)
      have HP := Lib.hid (unitsOf_pre l (k + 1))
      clear hblk hc hp
      obtain ⟨ex, q, text⟩ := p
      simp only at e0 e1 e2 hpt
      by_cases htn : text = []
      · subst htn
        have hHU : unitsP ⟨ex, q, []⟩ = if q then [⟨0, true, true, false⟩] else [] := by unfold unitsP headU; cases q <;> rfl
        have HHU := Lib.hid hHU
        have HXV : Hid ((⟨0, true, true, false⟩ : Un).val = .agg #[.int .u8 0, .bool true, .bool true, .bool false]) := rfl
        have HJ0 : ∀ cs : Array Value, Hid (J (unitsOf (l.take k)) (wr.alloc (.cells cs 51))) := fun cs => HJA.out _ _ _ HJ.out (below_alloc (Below.refl _ _) _)
        have HB0 : ∀ cs : Array Value, Hid ((wr.alloc (.cells cs 51)).heap[b]? = W.heap[b]?) := fun cs => (heap_alloc_lt _ _ _ (by omega)).trans (HB.out _ rfl)
        have HJ0 := Lib.hid HJ0
        have HB0 := Lib.hid HB0
        clear hHU HJ HB
        cases q
        · gi_wp2
          gi_loopw [28] (fun i wr => i = .int .i64 0 ∧ Hid (J (unitsOf (l.take (k + 1))) wr) ∧ Hid (wr.heap[b]? = W.heap[b]?) ∧ W.heap.size ≤ wr.heap.size) (fun _ _ => 0)
          case atStart => exact ⟨rfl, by show J _ _; rw [HS.out, HHU.out]; simpa using (HJ0.out _).out, HB0.out _, by simp; omega⟩
          case round =>
            clear HJ0 HB0
            obtain ⟨rfl, HJ, HB, hsz1⟩ := hrel
            gi_wp2
            go_roundw
            case rel => exact ⟨k + 1, by omega, by go_num, HJ.out, fun b' e => by cases e; exact HB.out, hsz1⟩
            case measure => simp [intOf]; omega
        · have hlen : (unitsOf (l.take k)).length < (unitsOf l).length := by
            have h1 := HP.out.length_le
            rw [HS.out, HHU.out] at h1
            simp at h1
            omega
          obtain ⟨fn, tmps, assign, body, hy, hR⟩ := HY.out _ ⟨0, true, true, false⟩ _ (HJ0.out #[.bool ex, .bool true, .string (B [])]).out hlen
          rw [HXV.out] at hy
          gi_wp2
          refine hR.mono ?_
          rintro e W3 (⟨rfl, hJ3, hk3⟩ | ⟨rfl, hJx3⟩)
          · have hb3 := (hk3.g b (.inr HV1.out)).trans (HB0.out _).out
            have HB3 := Lib.hid hb3
            have hs3 := hk3.size
            simp only [World.size_alloc] at hs3
            have c2 := (World.cell?_of_block (w := _) (hk3.t wr.heap.size _ (tyOf_alloc _ _ _) rfl)).trans (show World.cell? (wr.alloc (.cells #[.bool ex, .bool true, .string (B [])] 51)) ⟨wr.heap.size, 2, none⟩ = some (.string (B [])) by go_simp)
            have HJ3 := Lib.hid hJ3
            clear hJ3 hk3 hb3
            gi_wp2
            gi_loopw [28] (fun i wr => i = .int .i64 0 ∧ Hid (J (unitsOf (l.take (k + 1))) wr) ∧ Hid (wr.heap[b]? = W.heap[b]?) ∧ W.heap.size ≤ wr.heap.size) (fun _ _ => 0)
            case atStart => exact ⟨rfl, by show J _ _; rw [HS.out, HHU.out]; exact HJ3.out, HB3.out, by omega⟩
            case round =>
              clear HJ0 HB0
              obtain ⟨rfl, HJ, HB, hsz1⟩ := hrel
              gi_wp2
              go_roundw
              case rel => exact ⟨k + 1, by omega, by go_num, HJ.out, fun b' e => by cases e; exact HB.out, hsz1⟩
              case measure => simp [intOf]; omega
          · have HJ3 := Lib.hid hJx3
            clear hJx3
            gi_wp2
            refine bodyPost_ret (results_none rfl _ _ _) rfl ?_
            refine ⟨⟨_, rfl⟩, .inr ⟨_, ?_, HJ3.out⟩⟩
            have h1 := HP.out
            rw [HS.out, HHU.out] at h1
            exact h1
      · have ht1 : (text == []) = false := by simpa using htn
        have ht2 : text.isEmpty = false := by simpa using htn
        gi_wp2
        have hHU : unitsP ⟨ex, q, text⟩ = text.map (byteU ⟨ex, q, text⟩) := by unfold unitsP headU; rw [if_neg (by simp [htn])]; rfl
        have HHU := Lib.hid hHU
        clear hHU htn ht1 ht2 e0 e1 e2
        obtain ⟨wo, hwo⟩ : ∃ wo, wo = wr.alloc (.cells #[.bool ex, .bool q, .string (B text)] 51) := ⟨_, rfl⟩
        have HPB : Hid (PBox wo wr.heap.size ⟨ex, q, text⟩) := by rw [hwo]; exact ⟨tyOf_alloc _ _ _, by go_simp, by go_simp, by go_simp⟩
        have HJ0 : Hid (J (unitsOf (l.take k)) wo) := by rw [hwo]; exact HJA.out _ _ _ HJ.out (below_alloc (Below.refl _ _) _)
        have HB0 : Hid (wo.heap[b]? = W.heap[b]?) := by rw [hwo]; exact (heap_alloc_lt _ _ _ (by omega)).trans (HB.out _ rfl)
        have hsz0 : W.heap.size ≤ wo.heap.size := by rw [hwo]; simp; omega
        have hpb : wr.heap.size < wo.heap.size := by rw [hwo]; simp
        rw [← hwo]
        clear hwo
        generalize wr.heap.size = pb at *
        gi_loopw [28] (fun i wr => ∃ j : Nat, j ≤ text.length ∧ i = .int .i64 j ∧ Hid (J (unitsOf (l.take k) ++ (text.take j).map (byteU ⟨ex, q, text⟩)) wr) ∧ Hid (PBox wr pb ⟨ex, q, text⟩) ∧ Hid (wr.heap[b]? = W.heap[b]?) ∧ W.heap.size ≤ wr.heap.size) (fun i _ => text.length - (intOf i).toNat)
        case atStart => exact ⟨0, by omega, rfl, by show J _ _; simpa using HJ0.out, HPB.out, HB0.out, hsz0⟩
        case round =>
          clear HPB HJ0 HB0 hsz0 hpb HJ HB
          obtain ⟨j, hj, rfl, HJ, HPB, HB, hsz1⟩ := hrel
          have c0 := HPB.out.c0
          have c1 := HPB.out.c1
          have c2 := HPB.out.c2
          by_cases hlj : j < text.length
          · have hx : text[j]? = some text[j] := List.getElem?_eq_getElem hlj
            have HT := Lib.hid (take_snoc1 hx)
            have hlen : (unitsOf (l.take k) ++ (text.take j).map (byteU ⟨ex, q, text⟩)).length < (unitsOf l).length := by
              have h1 := HP.out.length_le
              rw [HS.out, HHU.out] at h1
              simp only [List.length_append, List.length_map, List.length_take] at h1 ⊢
              omega
            have HL := Lib.hid hlen
            clear hx hlen
            haveI : Old wr pb := ⟨tyOf_lt HPB.out.ty⟩
            have hj0 : (0 : Int) ≤ (j : Int) := by omega
            have hj1 : (j : Int) < (text.length : Int) := by omega
            obtain ⟨x, hx⟩ : ∃ x, x = byteU ⟨ex, q, text⟩ text[j] := ⟨_, rfl⟩
            have HXV : Hid (x.val = .agg #[.int .u8 text[j].toNat, .bool false, .bool q, .bool (ex && !q)]) := by show _ = _; rw [hx]; rfl
            have HT2 : Hid ((text.take (j + 1)).map (byteU ⟨ex, q, text⟩) = (text.take j).map (byteU ⟨ex, q, text⟩) ++ [x]) := by show _ = _; rw [HT.out, List.map_append, hx]; rfl
            clear hx
            cases ex
            all_goals
              gi_wp2
              (refine wpIn_region_grow_tail 15 (lax_wide) (by kernel_rfl) (by kernel_rfl) (by kernel_rfl) ?_; simp only [List.take_succ_cons, List.take_zero, List.drop_succ_cons, List.drop_zero]; (repeat (go_big_quiet_step (fail))); refine wpQuiet_nil ?_; intro _ hw'; obtain ⟨gq, hw''⟩ := hw'; subst hw'')
              have HJg := Lib.hid (HJA.out _ _ _ HJ.out (grow_below wr gq))
              obtain ⟨fn, tmps, assign, body, hy, hR⟩ := HY.out _ x _ HJg.out HL.out
              rw [HXV.out] at hy
              simp only [Bool.false_and, Bool.true_and] at hy
              have HPg := Lib.hid (HPB.out.grow gq)
              gi_wp2
              refine hR.mono ?_
              rintro e W3 (⟨rfl, hJ3, hk3⟩ | ⟨rfl, hJx3⟩)
              · have HP3 := Lib.hid (HPg.out.keep hk3)
                have HJ3 := Lib.hid hJ3
                have hb3 := (hk3.g b (.inr HV1.out)).trans ((heap_grow_lt wr gq b (by omega)).trans HB.out)
                have HB3 := Lib.hid hb3
                have hs3 := hk3.size
                clear hJ3 hk3 hb3
                gi_wp2
                go_roundw
                case rel => exact ⟨j + 1, by omega, by go_num, by show J _ _; rw [HT2.out, ← List.append_assoc]; exact HJ3.out, HP3.out, HB3.out, by have := le_grow wr gq _ hsz1; omega⟩
                case measure => simp [intOf]; omega
              · have HJ3 := Lib.hid hJx3
                clear hJx3
                gi_wp2
                refine bodyPost_ret (results_none rfl _ _ _) rfl ?_
                refine ⟨⟨_, rfl⟩, .inr ⟨_, ?_, HJ3.out⟩⟩
                have h1 := HP.out
                rw [HS.out, HHU.out] at h1
                refine List.IsPrefix.trans ?_ h1
                rw [List.append_assoc, List.prefix_append_right_inj]
                rw [← HT2.out]
                exact (List.take_prefix _ _).map _
          · have hje : j = text.length := by omega
            have h3 : Hid (J (unitsOf (l.take (k + 1))) wr) := by show J _ _; rw [HS.out, HHU.out]; have := HJ.out; rw [hje, List.take_length] at this; exact this
            clear hje HJ HPB c0 c1 c2
            gi_wp2
            go_roundw
            case rel => exact ⟨k + 1, by omega, by go_num, h3.out, fun b' e => by cases e; exact HB.out, hsz1⟩
            case measure => simp [intOf]; omega
    · have hkl : k = l.length := by omega
      have h3 := HJ.out
      rw [hkl, List.take_length] at h3
      have H3 := Lib.hid h3
      clear h3 HJ hkl
      gi_wp2
      go_end0
      exact ⟨⟨_, rfl⟩, .inl ⟨_, rfl, H3.out⟩⟩
/-- fields.units: the iterator, and where its variable lies. -/
theorem units_any (v : Value) (w : World) (A : Option Addr) (n c : Nat) (hv : v = .slice A n c) :
    Calls Try.prog 68 #[v] w fun e w' => e = .returned (.func (.func 91) #[] #[.pointer (some ⟨w.heap.size, 0, none⟩)]) ∧ w' = w.alloc (.cells #[v] 44) := by
  subst hv
  go_enter Try.func68, Try.ntmps68
  go_wp2
  go_ret
  exact ⟨rfl, rfl⟩
/-- The slice that a loop over pieces reads, if it reads at all. -/
def readV (v : Value) (l : List Piece) : Value := if l = [] then .slice none 0 0 else v
theorem readV_lt {w : World} {v : Value} {l : List Piece} (h : Sl w Piece.cells 3 v l) : ∀ k, (readV v l).ownBlock = some k → k < w.heap.size := by
  intro k hk
  unfold readV at hk
  split at hk
  · cases hk
  · next hl =>
    obtain ⟨A, c, rfl, h2, h3, hn, h4⟩ := h
    obtain ⟨b, off, rfl, hb, _⟩ := h4 (List.length_pos_iff.2 hl)
    cases hk
    exact hb
theorem units_gives (v : Value) (l : List Piece) (w : World) (hv : Sl w Piece.cells 3 v l) (hl : l.length ≤ 4294967296) (hlt : ∀ p ∈ l, p.text.length ≤ 4294967296) :
    GivesK Try.prog 91 #[.pointer (some ⟨w.heap.size, 0, none⟩)] encU (keepU w.heap.size (readV v l)) (unitsOf l) (w.alloc (.cells #[v] 44)) := by
  intro n hn lab J Jx W hW hJ _ hY h0
  refine units1 n hn lab _ v (readV v l) l (fun h => if_neg h) hl hlt J Jx hY W (fun s A A' h hb => hJ s A A' none h (grownBy_below hb none) (fun r e => by cases e)) ?_ (hv.below (below_then (below_alloc (Below.refl _ _) _) hW)) h0
  rw [hW.cell (by simp)]; simp [go_sem]
end Go.Proofs.Ytkinjjgaecbogaa
