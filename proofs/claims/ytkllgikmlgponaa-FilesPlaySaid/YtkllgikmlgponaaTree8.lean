/-
  Trees of files, on: All. Conditions: paths of at most 2^30 bytes; at most 2^20 files.
-/
import Derived.Test.YtkllgikmlgponaaTree7
import Derived.Test.YtkllgikmlgponaaOrd
import Derived.Test.YtkllgikmlgponaaShelfB
import Derived.Shelf.SlSortCmp.NoneTotal
namespace Go.Proofs.Ytkllgikmlgponaa.Fil
open Go.ChangeShapes Go.WideShapes Go.Deep Go.RowKit Pat
set_option maxRecDepth 100000
instance : Inhabited Fl := ⟨⟨[], 0⟩⟩
theorem flat_at {α : Type} {en : α → List Value} {sz : Nat} : ∀ (xs : List α) (_ : ∀ x ∈ xs, (en x).length = sz) (k : Nat) (x : α), xs[k]? = some x → ∀ j u, (en x)[j]? = some u → (xs.flatMap en)[k * sz + j]? = some u
  | [], _, k, x, hk => by simp at hk
  | y :: ys, hen, 0, x, hk => fun j u hj => by
    simp only [List.getElem?_cons_zero, Option.some.injEq] at hk
    subst hk
    have hjl : j < (en y).length := (List.getElem?_eq_some_iff.1 hj).1
    rw [List.flatMap_cons, List.getElem?_append_left (by omega), Nat.zero_mul, Nat.zero_add]; exact hj
  | y :: ys, hen, k + 1, x, hk => fun j u hj => by
    have hy := hen y (by simp)
    have e : (k + 1) * sz + j = sz + (k * sz + j) := by rw [Nat.add_mul]; omega
    rw [List.flatMap_cons, List.getElem?_append_right (by omega), e, hy, Nat.add_sub_cancel_left]
    exact flat_at ys (fun x hx => hen x (by simp [hx])) k x (by simpa using hk) j u hj
theorem flatK_list (d : Array Fl) : (Go.Sort.flatK flC 2 d).toList = d.toList.flatMap flC := by
  apply List.ext_getElem?
  intro t
  by_cases ht : t < d.size * 2
  · have h1 : t / 2 < d.size := by omega
    have e := flat_at (sz := 2) d.toList flC_len (t / 2) d[t / 2] (by rw [Array.getElem?_toList, Array.getElem?_eq_getElem h1]) (t % 2) ((flC d[t / 2])[t % 2]'(by show t % 2 < 2; omega)) (List.getElem?_eq_getElem _)
    rw [show t / 2 * 2 + t % 2 = t by omega] at e
    rw [e, Array.getElem?_toList, Array.getElem?_eq_getElem (by simpa using ht)]
    have := Go.Sort.get_flatK flC 2 d t ht
    rw [getElem!_pos _ t (by simpa using ht), getElem!_pos d _ h1] at this
    rw [this]
    congr 1
    exact getElem!_pos _ _ _
  · rw [List.getElem?_eq_none (by simp; omega), List.getElem?_eq_none (by rw [flC_flat]; simp; omega)]
/-- strings.Compare of two files' paths. -/
theorem cmp_any (x y : Fl) (W : World) : Calls Try.prog 62 #[.agg (flC x).toArray, .agg (flC y).toArray] W fun e w' => e = .returned (.int .i64 (Lib.compareBytes x.path y.path)) ∧ ∃ q os', w' = Go.Sort.grow (W.drewN q) os' := by
  have HC := Lib.hid fun w => (Try.strings_Compare (B x.path) (B y.path) w).mono fun r w' ⟨h1, h2⟩ => (show r = Ending.returned (.int .i64 (Lib.compareBytes x.path y.path)) ∧ w = w' from ⟨by rw [h1, B_data, B_data], h2.symm⟩)
  unfold flC
  generalize Lib.compareBytes x.path y.path = c at *
  go_enter Try.func62, Try.ntmps62
  go_wp2_with (go_at_call 63; refine (HC.out _).mono ?_; rintro e w' ⟨rfl, rfl⟩)
  go_ret
  exact ⟨rfl, 0, _, by rw [Go.Sort.alloc_eq_grow, Go.Sort.alloc_eq_grow, Go.Sort.grow_grow]; rfl⟩
theorem swoP : Go.Sort.SWO (Go.Proofs.ltOf fun x y : Fl => Lib.compareBytes x.path y.path) := by
  have e : ∀ x y : Fl, Go.Proofs.ltOf (fun x y : Fl => Lib.compareBytes x.path y.path) x y = decide (x.path < y.path) := fun x y => by
    unfold Go.Proofs.ltOf
    rw [Bool.eq_iff_iff, decide_eq_true_eq, decide_eq_true_eq]
    exact cmp_lt _ _
  refine ⟨fun x => ?_, fun x y z h1 h2 => ?_, fun x y z h1 h2 => ?_⟩
  · rw [e]; simp
  · rw [e] at *
    rw [decide_eq_true_eq] at *
    exact List.lt_trans h1 h2
  · rw [e] at *
    rw [decide_eq_false_iff_not, List.not_lt] at *
    exact List.le_trans h2 h1
/-- slices.SortFunc at files. -/
theorem sort_files (xs : List Fl) (b0 : Nat) (v : Value) (w : World) (h : Own w b0 2 v xs.length (xs.flatMap flC)) (hl : xs.length ≤ 1099511627776) :
    Calls Try.prog 61 #[v, .func (.func 62) #[] #[]] w fun e w' => e = .returned (.tuple #[]) ∧ ∃ ys : List Fl, ys.Perm xs ∧ (ys.Pairwise fun a b => ¬ b.path < a.path) ∧ Own w' b0 2 v ys.length (ys.flatMap flC) ∧ Keeps (fun k => v.ownBlock = some k ∧ b0 ≤ k) w w' := by
  rcases Nat.eq_zero_or_pos xs.length with h0 | h0
  · obtain rfl := List.eq_nil_of_length_eq_zero h0
    obtain ⟨A, c, rfl, _⟩ := h.form0
    refine (AnyF.slices_SortFunc_none Try.sortFile A c _ w).mono ?_
    rintro e w' ⟨rfl, rfl⟩
    exact ⟨rfl, [], List.Perm.refl _, List.Pairwise.nil, by simpa using h, Keeps.refl _ _⟩
  · obtain ⟨g, off, c, rfl, hb, hg, hc, hc2⟩ := h.form' h0
    have h' : Own w b0 2 (.slice (some ⟨g, off, none⟩) xs.length c) xs.length ((Go.Sort.flatK flC 2 xs.toArray).toList.map id) := by rw [List.map_id, flatK_list]; exact h
    obtain ⟨hH, _, _⟩ := own_holds id h' h0
    have eg : ∀ args w, (callFunc 62 args).run Try.prog w = .ok (.enter 62 args) w := enters_of Try.func62 (by kernel_rfl) rfl
    refine (AnyQ.slices_SortFunc Try.sortFile 2 (fun w => by kernel_rfl) (fun w => by kernel_rfl) flC (fun _ => rfl) (fun x u hu => by simp [flC] at hu; rcases hu with rfl | rfl <;> rfl) (fun x y : Fl => Lib.compareBytes x.path y.path) swoP 62 #[] g off c xs.toArray w eg (fun m os dk _ x y => cmp_any x y _) hH hg (by simp; omega)).mono ?_
    rintro e w' ⟨rfl, d', m, os, hp, hs, rfl⟩
    have hsz : d'.size = xs.length := by simpa using hp.1
    refine ⟨rfl, d'.toList, ?_, ?_, ?_, (keeps_put _ _ _ _ _ _ _).mono fun k _ e => by subst e; exact ⟨rfl, hb⟩⟩
    · have := hp.2.2
      rw [Array.toList_extract, Array.toList_extract] at this
      simp only [List.extract_eq_take_drop, List.drop_zero, Nat.sub_zero] at this
      rwa [List.take_of_length_le (by simp [hsz]), List.take_of_length_le (by simp)] at this
    · rw [List.pairwise_iff_getElem]
      intro i j hi hj hij
      have := hs i j (Nat.zero_le _) hij (by simpa [hsz] using hj)
      rw [getElem!_pos d' j (by simpa using hj), getElem!_pos d' i (by simpa using hi)] at this
      unfold Go.Proofs.ltOf at this
      rw [decide_eq_false_iff_not, cmp_lt] at this
      simpa using this
    · have := own_put id (d := Go.Sort.flatK flC 2 d') h' h0 (by simp [hsz]) m os
      rw [List.map_id, flatK_list] at this
      rw [show d'.toList.length = xs.length by simpa using hsz]
      exact this
/-- What All returns. -/
def FilesP (x : List Fl) (w : World) (e : Ending) (w' : World) : Prop := ∃ v ls, e = .returned v ∧ List.Perm ls x ∧ (ls.Pairwise fun a b => a.path < b.path) ∧ Own w' w.heap.size 2 v ls.length (ls.flatMap flC) ∧ Below w.heap.size w w'
theorem all_any (w : World) (b0 tb : Nat) (x : List Fl) (nb : List (List UInt8) → Nat) (mp : List (List UInt8) → Option Nat) (h : TreeAt w b0 tb x nb mp) (hx : x.length ≤ 1048576) (hxl : ∀ f ∈ x, f.path.length ≤ 1073741824) :
    Calls Try.prog 35 #[.pointer (some ⟨tb, 0, none⟩)] w (FilesP x w) := by
  have hbn := below_nil h.ok
  have HA := Lib.hid (all_ind b0 tb x nb mp hx hxl (x.length + 1) [] w w.heap.size (.slice none 0 0) 0 [] (by rw [hbn]; omega) rfl h (Own.nil _ _ _) (fun k hk => by cases hk) (Nat.le_refl _) (by rw [hbn]; omega))
  rw [show joinN [] = [] from rfl] at HA
  have t0 := h.t0
  haveI : Old w tb := ⟨h.lt⟩
  have HS := Lib.hid fun ls v W => sort_files ls w.heap.size v W
  have HD := Lib.hid h.ok.d
  have HBN := Lib.hid hbn
  clear h hbn
  go_enter Try.func35, Try.ntmps35
  go_wp2_with (first
    | (go_at_call 60; refine HA.out.mono ?_; rintro e w1 ⟨v1, add, rfl, hp1, ho1, hk1, hf1⟩; have HP1 := Lib.hid hp1; have HO1 : Hid (Own w1 w.heap.size 2 v1 add.length (add.flatMap flC)) := (by show Own _ _ _ _ _ _; simpa using ho1); have HK1 := Lib.hid hk1; clear hp1 ho1 hk1 hf1)
    | (go_at_call 61; refine (HS.out add v1 w1 HO1.out (by have := HP1.out.length_eq; rw [HBN.out] at this; omega)).mono ?_; rintro e w2 ⟨rfl, ys, hp2, hs2, ho2, hk2⟩; have HP2 := Lib.hid hp2; have HS2 := Lib.hid hs2; have HO2 := Lib.hid ho2; have HK2 := Lib.hid hk2; clear hp2 hs2 ho2 hk2))
  go_ret
  have hpp : List.Perm ys x := HP2.out.trans (by have := HP1.out; rwa [HBN.out] at this)
  refine ⟨_, ys, rfl, hpp, ?_, HO2.out, ((Below.refl _ _).trans (HK1.out.below (Nat.le_refl _) (fun k hk => hk.2))).trans (HK2.out.below (by have := HK1.out.size; omega) (fun k hk => hk.2))⟩
  have hd : ys.Pairwise fun a b => a.path ≠ b.path := (hpp.pairwise_iff (fun {a b} q e => q e.symm)).2 HD.out
  exact (HS2.out.and hd).imp fun {a b} q => by
    rcases List.le_iff_lt_or_eq.1 (List.not_lt.1 q.1) with r | r
    · exact r
    · exact absurd r q.2
end Go.Proofs.Ytkllgikmlgponaa.Fil
