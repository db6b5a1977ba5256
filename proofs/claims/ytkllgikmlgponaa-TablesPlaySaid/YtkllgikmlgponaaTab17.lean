/-
  The walks of layer 19 (tables), on: Set of any name, Of; the reference's Of. Conditions: names of at most 2^30 bytes, values of at most 65536, fewer than 10000 entries.
-/
import Derived.Test.YtkllgikmlgponaaTab16
import Derived.Deep.RegionWith
namespace Go.Proofs.Ytkllgikmlgponaa.Tab
open Go.ChangeShapes Go.WideShapes Go.Deep Go.RowKit
set_option maxRecDepth 100000
theorem there_lt {xs : List Ent} {s : List UInt8} (ht : there xs s = true) : place xs s < xs.length := by
  rcases Nat.lt_or_ge (place xs s) xs.length with h | h
  · exact h
  · unfold there at ht; rw [List.getElem?_eq_none h] at ht; cases ht
theorem rises_setL {xs : List Ent} (h : Rises xs) (s v : List UInt8) : Rises (setL xs s v) := by
  unfold setL
  cases ht : there xs s with
  | false => rw [if_neg (by simp)]; exact rises_ins h s v ht
  | true =>
    rw [if_pos rfl]
    obtain ⟨x, hxm⟩ := get_some (there_lt ht)
    have hxn : x.name = s := by unfold there at ht; rw [hxm] at ht; simpa using ht
    have := rises_set h (place xs s) x v hxm
    rwa [hxn] at this
theorem setL_len (xs : List Ent) (s v : List UInt8) : (setL xs s v).length ≤ xs.length + 1 := by
  unfold setL
  split
  · rw [List.length_set]; omega
  · rw [List.length_append, List.length_cons, List.length_take, List.length_drop]; omega
/-- The row behind a Set, whatever the name. -/
def setE (kind : Int) (xs : List Ent) (s v : List UInt8) : List Ent := if Cls.mayB kind s = true then setL xs s v else xs
theorem setE_rises {kind : Int} {xs : List Ent} (h : Rises xs) (s v : List UInt8) : Rises (setE kind xs s v) := by
  unfold setE
  split
  · exact rises_setL h s v
  · exact h
theorem setE_len (kind : Int) (xs : List Ent) (s v : List UInt8) : (setE kind xs s v).length ≤ xs.length + 1 := by
  unfold setE
  split
  · exact setL_len xs s v
  · omega
/-- The row of some entries, set one by one. -/
def ofL (kind : Int) (l : List Ent) : List Ent := l.foldl (fun xs e => setE kind xs e.name e.val) []
theorem ofL_snoc (kind : Int) (l : List Ent) (k : Nat) (x : Ent) (h : l[k]? = some x) : ofL kind (l.take (k + 1)) = setE kind (ofL kind (l.take k)) x.name x.val := by
  obtain ⟨h1, rfl⟩ := List.getElem?_eq_some_iff.1 h
  unfold ofL
  rw [List.take_succ_eq_append_getElem h1, List.foldl_append]
  rfl
theorem ofL_gen (kind : Int) : ∀ (l xs : List Ent), Rises xs → Rises (l.foldl (fun xs e => setE kind xs e.name e.val) xs) ∧ (l.foldl (fun xs e => setE kind xs e.name e.val) xs).length ≤ xs.length + l.length
  | [], xs, h => ⟨h, by simp⟩
  | e :: r, xs, h => by
    have := ofL_gen kind r (setE kind xs e.name e.val) (setE_rises h _ _)
    have h2 := setE_len kind xs e.name e.val
    simp only [List.foldl_cons, List.length_cons]
    exact ⟨this.1, by omega⟩
theorem ofL_rises (kind : Int) (l : List Ent) : Rises (ofL kind l) := (ofL_gen kind l [] List.Pairwise.nil).1
theorem ofL_len (kind : Int) (l : List Ent) : (ofL kind l).length ≤ l.length := by simpa [ofL] using (ofL_gen kind l [] List.Pairwise.nil).2
/-- What Set leaves. -/
structure SetAll (b0 tb : Nat) (lv : Value) (kind : Int) (ys : List Ent) (r : Int) (w : World) (e : Ending) (w' : World) : Prop where
  e : e = .returned (.int .i64 r)
  h : ∃ lv', TabAt w' b0 tb lv' kind ys ∧ (lv'.ownBlock = lv.ownBlock ∨ ∀ k, lv'.ownBlock = some k → w.heap.size ≤ k)
  k : Keeps (fun k => k = tb ∨ (lv.ownBlock = some k ∧ b0 ≤ k)) w w'
def setN (kind : Int) (s : List UInt8) : Int := if Cls.mayB kind s = true then 0 else 5
theorem set_all (w : World) (b0 tb : Nat) (lv : Value) (kind : Int) (xs : List Ent) (s v : List UInt8) (h : TabAt w b0 tb lv kind xs) (hs : s.length ≤ 1073741824) (hv : v.length ≤ 65536) (hx : xs.length < 10000) :
    Calls Try.prog 20 #[.pointer (some ⟨tb, 0, none⟩), .string (B s), .string (B v)] w (SetAll b0 tb lv kind (setE kind xs s v) (setN kind s) w) := by
  unfold setE setN
  cases hm : Cls.mayB kind s with
  | false =>
    rw [if_neg (by simp), if_neg (by simp)]
    refine (set_bad w b0 tb lv kind xs s v h hm hs).mono ?_
    rintro e w' ⟨rfl, rfl⟩
    exact ⟨rfl, ⟨lv, h, .inl rfl⟩, Keeps.refl _ _⟩
  | true =>
    rw [if_pos rfl, if_pos rfl]
    unfold setL
    cases ht : there xs s with
    | false =>
      rw [if_neg (by simp)]
      exact (set_new w b0 tb lv kind xs s v h hm hs hv hx ht).mono fun e w' h => ⟨h.e, h.h, h.k⟩
    | true =>
      rw [if_pos rfl]
      exact (set_there w b0 tb lv kind xs s v h hm hs hv (by omega) ht).mono fun e w' h => ⟨h.e, h.h, h.k⟩
theorem of_bad (kind : Int) (u : Value) (w : World) (h : kind < 1 ∨ 4 < kind) : Calls Try.prog 11 #[.int .i64 kind, u] w fun e w' => e = .returned (.pointer none) ∧ w = w' := by
  have HN := Lib.hid fun w => new_bad kind w h
  clear h
  go_enter Try.func11, Try.ntmps11
  go_wp2_with (go_at_call 18; refine (HN.out _).mono ?_; rintro e w' ⟨rfl, rfl⟩)
  go_ret
  exact ⟨rfl, rfl⟩
def OfP (kind : Int) (ys : List Ent) (w : World) (e : Ending) (w' : World) : Prop := e = .returned (.pointer (some ⟨w.heap.size, 0, none⟩)) ∧ (∃ lv, TabAt w' w.heap.size w.heap.size lv kind ys) ∧ Below w.heap.size w w'
set_option maxHeartbeats 1600000 in
theorem of_ok (kind : Int) (l : List Ent) (u : Value) (w : World) (h1 : 1 ≤ kind) (h2 : kind ≤ 4) (hu : Sl w Ent.cells 2 u l) (hl : l.length < 10000) (hn : ∀ e ∈ l, e.name.length ≤ 1073741824 ∧ e.val.length ≤ 65536) :
    Calls Try.prog 11 #[.int .i64 kind, u] w (OfP kind (ofL kind l) w) := by
  have HN := Lib.hid fun w => new_ok kind w h1 h2
  obtain ⟨A, c, rfl, hc1, hc2, hn0, hA⟩ := hu
  have HA := Lib.hid hA
  have HNL := Lib.hid hn
  clear hA hn hn0 h1 h2
  go_enter Try.func11, Try.ntmps11
  go_wp2_with (go_at_call 18; refine (HN.out _).mono ?_; rintro e w1 ⟨rfl, ht, hb⟩; have HT := Lib.hid ht; have HB := Lib.hid hb; clear ht hb)
  go_loopw [14] (fun i w' => ∃ (k : Nat) (lv : Value), k ≤ l.length ∧ i = .int .i64 k ∧ Hid (TabAt w' w.heap.size w.heap.size lv kind (ofL kind (l.take k))) ∧ Hid (Below w.heap.size w w')) (fun i _ => l.length - (intOf i).toNat)
  case atStart => exact ⟨0, _, by omega, rfl, HT.out, HB.out⟩
  case round =>
    clear HT HB
    obtain ⟨k, lv, hk, rfl, HT, HB⟩ := hrel
    have hbs := HB.out.size
    by_cases hlt : k < l.length
    · obtain ⟨b, off, rfl, hb, hc⟩ := HA.out (by omega)
      obtain ⟨x, hxm⟩ := get_some hlt
      have e0 := (HB.out.cell (p := ⟨b, off + k * 2, none⟩) hb).trans (by have := hc k _ hxm 0 _ rfl; simpa using this)
      have e1 := (HB.out.cell (p := ⟨b, off + k * 2 + 1, none⟩) hb).trans (hc k _ hxm 1 _ rfl)
      haveI : Old wr b := ⟨by omega⟩
      have k0 : (0 : Int) ≤ (k : Int) := by omega
      have k1 : (k : Int) < (l.length : Int) := by omega
      have hxl := HNL.out x (List.mem_of_getElem? hxm)
      have hle := ofL_len kind (l.take k)
      rw [List.length_take] at hle
      have HS := Lib.hid fun W (hW : Below wr.heap.size wr W) => set_all W w.heap.size w.heap.size lv kind (ofL kind (l.take k)) x.name x.val (HT.out.below hW) hxl.1 hxl.2 (by omega)
      rw [← ofL_snoc kind l k x hxm] at HS
      clear hc hxm hle
      go_wp2_with (go_at_call 20; refine (HS.out _ (by (repeat (first | with_reducible exact Below.refl _ _ | with_reducible assumption | with_reducible refine below_alloc ?_ _ | with_reducible refine below_grow ?_ _ | with_reducible refine below_drewN ?_ _ | with_reducible refine below_drew ?_ | with_reducible refine below_setCell ?_ (by first | (dsimp only; omega) | (simp; done) | (simp; omega)) _)))).mono ?_; rintro e w4 ⟨rfl, ⟨lv2, ht2, -⟩, hk2⟩; have HT2 := Lib.hid ht2; have HB2 := Lib.hid (below_keeps (below_alloc HB.out _) hk2 (fun k hk => hk.elim (fun e => by omega) (·.2))); clear ht2 hk2)
      go_roundw
      case rel => exact ⟨k + 1, lv2, by omega, by go_num, HT2.out, HB2.out⟩
      case measure => simp [intOf]; omega
    · have hk2 : k = l.length := by omega
      subst hk2
      have ht := HT.out
      rw [List.take_length] at ht
      have HT2 := Lib.hid ht
      have d0 := no hlt
      clear hlt ht
      go_wp2
      go_ret
      exact ⟨rfl, ⟨lv, HT2.out⟩, HB.out⟩
set_option maxHeartbeats 3200000 in
theorem refOf_any (kind : Int) (l : List Ent) (u : Value) (w : World) (hu : Sl w Ent.cells 2 u l) (hl : l.length < 10000) (hn : ∀ e ∈ l, e.name.length ≤ 1073741824 ∧ e.val.length ≤ 65536) :
    Calls Try.prog 12 #[.int .i64 kind, u] w (RowP (ofL kind l) w) := by
  obtain ⟨A, c, rfl, hc1, hc2, hn0, hA⟩ := hu
  have HA := Lib.hid hA
  have HNL := Lib.hid hn
  clear hA hn hn0
  go_enter Try.func12, Try.ntmps12
  go_wp2
  go_loopw [5, 6] (fun o i w' => ∃ (v : Value) (k : Nat), v = o ∧ k ≤ l.length ∧ i = .int .i64 k ∧ Hid (Own w' w.heap.size 2 v (ofL kind (l.take k)).length ((ofL kind (l.take k)).flatMap Ent.cells)) ∧ Hid (Below w.heap.size w w')) (fun _ i _ => l.length - (intOf i).toNat)
  case atStart => exact ⟨_, 0, rfl, by omega, rfl, Own.nil _ _ _, Below.refl _ _⟩
  case round =>
    obtain ⟨v, k, rfl, hk, rfl, HO, HB⟩ := hrel
    have hbs := HB.out.size
    by_cases hlt : k < l.length
    · obtain ⟨b, off, rfl, hb, hc⟩ := HA.out (by omega)
      obtain ⟨x, hxm⟩ := get_some hlt
      have e0 := (HB.out.cell (p := ⟨b, off + k * 2, none⟩) hb).trans (by have := hc k _ hxm 0 _ rfl; simpa using this)
      have e1 := (HB.out.cell (p := ⟨b, off + k * 2 + 1, none⟩) hb).trans (hc k _ hxm 1 _ rfl)
      haveI : Old wr b := ⟨by omega⟩
      have k0 : (0 : Int) ≤ (k : Int) := by omega
      have k1 : (k : Int) < (l.length : Int) := by omega
      have hxl := HNL.out x (List.mem_of_getElem? hxm)
      have hle := ofL_len kind (l.take k)
      rw [List.length_take] at hle
      have hsn := ofL_snoc kind l k x hxm
      have HSN := Lib.hid hsn
      have hr := ofL_rises kind (l.take k)
      have HX := Lib.hid hxl
      have HR := Lib.hid hr
      generalize hys : ofL kind (l.take k) = ys at *
      clear hc hxm hsn hr hxl
      cases hm : Cls.mayB kind x.name with
      | false =>
        have HSB := Lib.hid fun W => refSet_bad kind v x.name x.val W hm HX.out.1
        have HE : Hid (setE kind ys x.name x.val = ys) := by show _ = _; unfold setE; rw [hm, if_neg (by simp)]
        clear hm
        go_wp2_with fail
        go_region_with (go_at_call 19; refine (HSB.out _).mono ?_; rintro e w4 ⟨rfl, rfl⟩)
        all_goals
          go_wp2
          go_roundw
          case rel => exact ⟨_, k + 1, rfl, by omega, by go_num, by show Own _ _ _ _ _ _; rw [HSN.out, HE.out]; exact HO.out.below (by (repeat (first | exact Below.refl _ _ | assumption | with_reducible refine below_alloc ?_ _ | with_reducible refine below_grow ?_ _ | with_reducible refine below_drewN ?_ _ | with_reducible refine below_drew ?_ | with_reducible refine below_setCell ?_ (by first | (dsimp only; omega) | (simp; done) | (simp; omega)) _))), below_then HB.out (by (repeat (first | exact Below.refl _ _ | assumption | with_reducible refine below_alloc ?_ _ | with_reducible refine below_grow ?_ _ | with_reducible refine below_drewN ?_ _ | with_reducible refine below_drew ?_ | with_reducible refine below_setCell ?_ (by first | (dsimp only; omega) | (simp; done) | (simp; omega)) _)))⟩
          case measure => simp [intOf]; omega
      | true =>
        have HSO := Lib.hid fun W (hW : Below wr.heap.size wr W) => refSet_ok kind ys v x.name x.val W ((HO.out.below hW).sl ent_len rfl) HR.out (by omega) hm HX.out.1 HX.out.2
        have HE : Hid (setE kind ys x.name x.val = setL ys x.name x.val) := by show _ = _; unfold setE; rw [hm, if_pos rfl]
        clear hm
        go_wp2_with fail
        go_region_with (go_at_call 19; refine (HSO.out _ (by (repeat (first | exact Below.refl _ _ | assumption | with_reducible refine below_alloc ?_ _ | with_reducible refine below_grow ?_ _ | with_reducible refine below_drewN ?_ _ | with_reducible refine below_drew ?_ | with_reducible refine below_setCell ?_ (by first | (dsimp only; omega) | (simp; done) | (simp; omega)) _)))).mono ?_; rintro e w4 ⟨v4, rfl, ho4, hb4⟩; have HO4 := Lib.hid ho4; have HB4 := Lib.hid hb4; clear ho4 hb4)
        all_goals
          go_wp2
          go_roundw
          case rel => exact ⟨v4, k + 1, rfl, by omega, by go_num, by show Own _ _ _ _ _ _; rw [HSN.out, HE.out]; exact HO4.out.mono (by simp; omega), below_then HB.out (below_then (by (repeat (first | exact Below.refl _ _ | assumption | with_reducible refine below_alloc ?_ _ | with_reducible refine below_grow ?_ _ | with_reducible refine below_drewN ?_ _ | with_reducible refine below_drew ?_ | with_reducible refine below_setCell ?_ (by first | (dsimp only; omega) | (simp; done) | (simp; omega)) _))) HB4.out)⟩
          case measure => simp [intOf]; omega
    · have hk2 : k = l.length := by omega
      subst hk2
      have ho := HO.out
      rw [List.take_length] at ho
      have HO2 := Lib.hid ho
      have d0 := no hlt
      clear hlt ho
      go_wp2
      go_ret
      exact ⟨v, rfl, HO2.out, HB.out⟩
end Go.Proofs.Ytkllgikmlgponaa.Tab
