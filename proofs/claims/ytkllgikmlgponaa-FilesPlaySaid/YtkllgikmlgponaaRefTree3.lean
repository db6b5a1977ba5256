/-
  The reference's rows of files, on: Names, Remove; the law's same. Conditions: paths of at most 2^30 bytes; at most 2^20 files.
-/
import Derived.Test.YtkllgikmlgponaaRefTree2
namespace Go.Proofs.Ytkllgikmlgponaa.Fil
open Go.ChangeShapes Go.WideShapes Go.Deep Go.RowKit Pat
set_option maxRecDepth 100000
theorem namesR_snoc (x : List Fl) (p : List UInt8) (k : Nat) (f : Fl) (h : x[k]? = some f) : namesR (x.take (k + 1)) p = if dirL f.path = p then putL (namesR (x.take k) p) (lastN f.path) else namesR (x.take k) p := by
  obtain ⟨h1, rfl⟩ := List.getElem?_eq_some_iff.1 h
  unfold namesR lastsL
  rw [List.take_succ_eq_append_getElem h1, List.filter_append, List.map_append, List.foldl_append]
  by_cases q : dirL x[k].path = p
  · rw [if_pos q, List.filter_cons_of_pos (by simpa using q)]; rfl
  · rw [if_neg q, List.filter_cons_of_neg (by simpa using q)]; rfl
theorem putL_len (s : List UInt8) : ∀ l : List (List UInt8), (putL l s).length ≤ l.length + 1
  | [] => by simp [putL]
  | a :: r => by
    unfold putL
    split
    · split <;> simp
    · have := putL_len s r; simp; omega
theorem namesR_len (x : List Fl) (p : List UInt8) : ∀ k, (namesR (x.take k) p).length ≤ k
  | 0 => by simp [namesR, lastsL]
  | k + 1 => by
    have ih := namesR_len x p k
    cases h : x[k]? with
    | none => rw [List.take_of_length_le (by have := List.getElem?_eq_none_iff.1 h; omega)] at *; omega
    | some f =>
      rw [namesR_snoc x p k f h]
      have := putL_len (lastN f.path) (namesR (x.take k) p)
      split <;> omega
theorem lastN_len (s : List UInt8) : (lastN s).length ≤ s.length := by
  have h := partsL_len s
  unfold lastN
  rw [List.getLastD_eq_getLast?]
  cases h1 : (partsL s).getLast? with
  | none => simp
  | some y =>
    have := (partsL_mem (List.mem_of_getLast? h1)).2
    simpa using this
set_option maxHeartbeats 3200000 in
theorem refNames_any (x : List Fl) (v : Value) (p : List UInt8) (w : World) (h : Sl w flC 2 v x) (hx : x.length ≤ 1000000) (hxl : ∀ f ∈ x, f.path.length ≤ 1073741824) : Calls Try.prog 44 #[v, .string (B p)] w (StrP (namesR x p) w) := by
  obtain ⟨A, c, rfl, hc1, hc2, hn, hA⟩ := h
  have HA := Lib.hid hA
  have HDR := Lib.hid refDir_any
  have HNA := Lib.hid refName_any
  have HPU := Lib.hid refPut_any
  have HX := Lib.hid hxl
  clear hA hn hc1 hc2 hxl
  go_enter Try.func44, Try.ntmps44
  go_wp2
  go_loopw [5, 6] (fun o i w' => ∃ (k : Nat) (u : Value), u = o ∧ k ≤ x.length ∧ i = .int .i64 k ∧ Hid (Own w' w.heap.size 1 u (namesR (x.take k) p).length ((namesR (x.take k) p).flatMap strC)) ∧ Hid (Below w.heap.size w w')) (fun _ i _ => x.length - (intOf i).toNat)
  case atStart => exact ⟨0, _, rfl, by omega, rfl, Own.nil _ _ _, Below.refl _ _⟩
  case round =>
    obtain ⟨k, u, rfl, hk, rfl, HO, HB⟩ := hrel
    have hbs := HB.out.size
    by_cases hlt : k < x.length
    · obtain ⟨g, off, rfl, hb, hc⟩ := HA.out (by omega)
      obtain ⟨f, hfm⟩ := get_some hlt
      have e0 : wr.cell? ⟨g, off + k * 2, none⟩ = some (.string (B f.path)) := (HB.out.cell (p := ⟨g, off + k * 2, none⟩) hb).trans (by have := hc k _ hfm 0 _ rfl; simpa using this)
      haveI : Old wr g := ⟨World.block_lt_of_cell? _ _ e0⟩
      have k0 : (0 : Int) ≤ (k : Int) := by omega
      have k1 : (k : Int) < (x.length : Int) := by omega
      have hfl := HX.out f (List.mem_of_getElem? hfm)
      have HSN := Lib.hid (namesR_snoc x p k f hfm)
      have HD := Lib.hid fun W => HDR.out f.path W hfl
      clear hc hfm
      by_cases q : dirL f.path = p
      · have HE : Hid (namesR (x.take (k + 1)) p = putL (namesR (x.take k) p) (lastN f.path)) := by show _ = _; rw [HSN.out, if_pos q]
        have q1 : (dirL f.path == p) = true := by simpa using q
        have HN := Lib.hid fun W => HNA.out f.path W hfl
        have HP := Lib.hid fun W (hW : Below wr.heap.size wr W) => HPU.out (namesR (x.take k) p) u (lastN f.path) W (((HO.out.below hW).sl strC_len rfl)) (by have := namesR_len x p k; omega)
        clear q
        go_wp2_with (first
          | (go_at_call 28; refine (HD.out _).mono ?_; rintro e w2 ⟨rfl, rfl⟩)
          | (go_at_call 29; refine (HN.out _).mono ?_; rintro e w2 ⟨rfl, hb2⟩; have HB2 := Lib.hid hb2; clear hb2)
          | (go_at_call 66; refine (HP.out _ HB2.out).mono ?_; rintro e w3 ⟨v3, rfl, ho3, hb3⟩; have HO3 := Lib.hid (ho3.mono (by have := (below_then HB.out HB2.out).size; omega) : Own w3 w.heap.size 1 v3 _ _); have HB3 := Lib.hid (below_then (below_then HB.out HB2.out) hb3); clear ho3 hb3))
        go_roundw
        case rel => exact ⟨k + 1, v3, rfl, by omega, by go_num, by show Own _ _ _ _ _ _; rw [HE.out]; exact HO3.out, HB3.out⟩
        case measure => simp [intOf]; omega
      · have HE : Hid (namesR (x.take (k + 1)) p = namesR (x.take k) p) := by show _ = _; rw [HSN.out, if_neg q]
        have q1 : (dirL f.path == p) = false := by simpa using q
        clear q
        go_wp2_with (go_at_call 28; refine (HD.out _).mono ?_; rintro e w2 ⟨rfl, rfl⟩)
        go_roundw
        case rel => exact ⟨k + 1, u, rfl, by omega, by go_num, by show Own _ _ _ _ _ _; rw [HE.out]; exact HO.out, HB.out⟩
        case measure => simp [intOf]; omega
    · have hk2 : k = x.length := by omega
      subst hk2
      have d0 := no hlt
      have ho := HO.out
      rw [List.take_length] at ho
      have HO2 := Lib.hid ho
      clear hlt ho
      go_wp2
      go_ret
      exact ⟨u, rfl, HO2.out, HB.out⟩
set_option maxHeartbeats 1600000 in
theorem same18 (xs ys : List (List UInt8)) (u v : Value) (w : World) (hu : Sl w strC 1 u xs) (hv : Sl w strC 1 v ys) :
    Calls Try.prog 43 #[u, v] w fun e w' => e = .returned (.bool (xs == ys)) ∧ Below w.heap.size w w' := by
  obtain ⟨A, c, rfl, hc1, hc2, hn, hA⟩ := hu
  obtain ⟨A', c', rfl, hc1', hc2', hn', hA'⟩ := hv
  have HA := Lib.hid hA
  have HA' := Lib.hid hA'
  clear hA hA' hn hn'
  by_cases hl : xs.length = ys.length
  · have Hl := Lib.hid hl
    have hl1 : ((xs.length : Int) != (ys.length : Int)) = false := by simp [hl]
    clear hl
    go_enter Try.func43, Try.ntmps43
    go_wp2
    clear hl1
    go_loopw [5] (fun i w' => ∃ k : Nat, k ≤ xs.length ∧ i = .int .i64 k ∧ Hid (xs.take k = ys.take k) ∧ Drew w w') (fun i _ => xs.length - (intOf i).toNat)
    case atStart => exact ⟨0, by omega, rfl, rfl, .refl _⟩
    case round =>
      obtain ⟨k, hk, rfl, Heq, m, rfl⟩ := hrel
      by_cases hlt : k < xs.length
      · have hlt' : k < ys.length := by have := Hl.out; omega
        obtain ⟨b, off, rfl, hb, hc⟩ := HA.out (by omega)
        obtain ⟨b', off', rfl, hb', hc'⟩ := HA'.out (by omega)
        have e0 : w.cell? ⟨b, off + k, none⟩ = some (.string (B xs[k])) := by have := hc k _ (List.getElem?_eq_getElem hlt) 0 _ rfl; simpa using this
        have e1 : w.cell? ⟨b', off' + k, none⟩ = some (.string (B ys[k])) := by have := hc' k _ (List.getElem?_eq_getElem hlt') 0 _ rfl; simpa using this
        clear hc hc'
        have ht1 : xs.take (k + 1) = xs.take k ++ [xs[k]] := by rw [List.take_succ_eq_append_getElem hlt]
        have ht2 : ys.take (k + 1) = ys.take k ++ [ys[k]] := by rw [List.take_succ_eq_append_getElem hlt']
        have HT := Lib.hid (And.intro ht1 ht2)
        clear ht1 ht2
        have hi0 : (0 : Int) ≤ (k : Int) := by omega
        have hi1 : (k : Int) < (xs.length : Int) := by omega
        have hi2 : (k : Int) < (ys.length : Int) := by omega
        by_cases hx : xs[k] = ys[k]
        · have Hx := Lib.hid hx
          have hx' : (xs[k] == ys[k]) = true := by simpa using hx
          clear hx
          go_wp2
          go_quiet (fail)
          go_wp2
          go_roundw
          case rel => exact ⟨k + 1, by omega, by go_num, by have h := HT.out; show _ = _; rw [h.1, h.2, Heq.out, Hx.out], m + nq, rfl⟩
          case measure => simp [intOf]; omega
        · have hx' : (xs[k] == ys[k]) = false := by simpa using hx
          have Hx := Lib.hid hx
          clear hx
          go_wp2
          go_quiet (fail)
          go_wp2
          go_ret
          refine ⟨?_, by (repeat (first | exact Below.refl _ _ | assumption | with_reducible refine below_alloc ?_ _ | with_reducible refine below_grow ?_ _ | with_reducible refine below_drewN ?_ _ | with_reducible refine below_drew ?_ | with_reducible refine below_setCell ?_ (by first | (dsimp only; omega) | (simp; done) | (simp; omega)) _))⟩
          have : (xs == ys) = false := by
            rw [beq_eq_false_iff_ne]
            intro e
            subst e
            exact Hx.out rfl
          rw [this]; rfl
      · have hk' : k = xs.length := by omega
        have HK := Lib.hid hk'
        clear hk'
        go_wp2
        go_ret
        refine ⟨?_, by (repeat (first | exact Below.refl _ _ | assumption | with_reducible refine below_alloc ?_ _ | with_reducible refine below_grow ?_ _ | with_reducible refine below_drewN ?_ _ | with_reducible refine below_drew ?_ | with_reducible refine below_setCell ?_ (by first | (dsimp only; omega) | (simp; done) | (simp; omega)) _))⟩
        have h1 := Heq.out
        rw [HK.out, List.take_length, Hl.out, List.take_length] at h1
        have : (xs == ys) = true := by rw [h1]; simp
        rw [this]; rfl
  · have hl1 : ((xs.length : Int) != (ys.length : Int)) = true := by simp; omega
    have : (xs == ys) = false := by
      rw [beq_eq_false_iff_ne]
      intro e
      exact hl (by rw [e])
    rw [this]
    clear hl this
    go_enter Try.func43, Try.ntmps43
    go_wp2
    go_ret
    exact ⟨rfl, by (repeat (first | exact Below.refl _ _ | assumption | with_reducible refine below_alloc ?_ _ | with_reducible refine below_grow ?_ _ | with_reducible refine below_drewN ?_ _ | with_reducible refine below_drew ?_ | with_reducible refine below_setCell ?_ (by first | (dsimp only; omega) | (simp; done) | (simp; omega)) _))⟩
end Go.Proofs.Ytkllgikmlgponaa.Fil
