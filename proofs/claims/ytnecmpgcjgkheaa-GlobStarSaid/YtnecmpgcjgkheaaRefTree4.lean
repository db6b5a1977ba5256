/-
  The reference's rows of files, on: Remove. Conditions: paths of at most 2^30 bytes; at most 2^20 files.
-/
import Derived.Test.YtnecmpgcjgkheaaOrd
import Derived.Test.YtnecmpgcjgkheaaShelfB
import Derived.Test.YtnecmpgcjgkheaaFil6
set_option linter.unusedSimpArgs false
set_option linter.unusedVariables false
namespace Go.Proofs.Ytnecmpgcjgkheaa.Fil
open Go.ChangeShapes Go.WideShapes Go.Deep Go.RowKit Pat
set_option maxRecDepth 100000
instance : Inhabited Fl := ⟨⟨[], 0⟩⟩
theorem flat_at {α : Type} {en : α → List Value} {sz : Nat} : ∀ (xs : List α) (_ : ∀ x ∈ xs, (en x).length = sz) (k : Nat) (x : α), xs[k]? = some x → ∀ j u, (en x)[j]? = some u → (xs.flatMap en)[k * sz + j]? = some u
  | [], _, k, x, hk => by simp at hk
  | y :: ys, hen, 0, x, hk => fun j u hj => by
    simp only [List.getElem?_cons_zero, Option.some.injEq] at hk
    subst hk
    have hjl : j < (en y).length := (List.getElem?_eq_some_iff.1 hj).1
    rw [List.flatMap_cons, List.getElem?_append_left (by omega), Nat.zero_mul, Nat.zero_add]; exact hj
  | y :: ys, hen, k + 1, x, hk => fun j u hj => by
    have hy := hen y (by simp)
    have e : (k + 1) * sz + j = sz + (k * sz + j) := by rw [Nat.add_mul]; omega
    rw [List.flatMap_cons, List.getElem?_append_right (by omega), e, hy, Nat.add_sub_cancel_left]
    exact flat_at ys (fun x hx => hen x (by simp [hx])) k x (by simpa using hk) j u hj
theorem make_any (w : World) (b0 tb : Nat) (x : List Fl) (nb : List (List UInt8) → Nat) (mp : List (List UInt8) → Option Nat) (p : List UInt8) (k : Int) (h : TreeAt w b0 tb x nb mp) (hm : MaxL w) (hl : p.length ≤ 1073741824) (hx : x.length < 10000) (hb0 : b0 ≤ w.heap.size) :
    Calls Try.prog 18 #[.pointer (some ⟨tb, 0, none⟩), .string (B p), .int .i64 k] w (MakeP b0 tb x (makeL x p k) nb mp (makeN x p k) w) := by
  by_cases hn : makeN x p k = 0
  · have := make_yes w b0 tb x nb mp p k h hm hl hx hb0 hn
    unfold makeL
    rw [if_pos hn, hn]
    exact this
  · have := make_no w b0 tb x nb mp p k h hm hl hx hn
    unfold makeL
    rw [if_neg hn]
    exact this
/-- The row of a tree of any files. -/
def ofF (l : List Fl) : List Fl := l.foldl (fun x f => makeL x f.path f.kind) []
theorem ofF_snoc (l : List Fl) (k : Nat) (f : Fl) (h : l[k]? = some f) : ofF (l.take (k + 1)) = makeL (ofF (l.take k)) f.path f.kind := by
  obtain ⟨h1, rfl⟩ := List.getElem?_eq_some_iff.1 h
  unfold ofF
  rw [List.take_succ_eq_append_getElem h1, List.foldl_append]
  rfl
theorem makeL_len (x : List Fl) (p : List UInt8) (k : Int) : (makeL x p k).length ≤ x.length + 1 := by
  unfold makeL
  split
  · simp
  · omega
theorem makeL_mem {x : List Fl} {p : List UInt8} {k : Int} {f : Fl} (h : f ∈ makeL x p k) : f ∈ x ∨ f = ⟨p, k⟩ := by
  unfold makeL at h
  split at h
  · simpa using h
  · exact .inl h
theorem ofF_len : ∀ (k : Nat) (l : List Fl), (ofF (l.take k)).length ≤ k
  | 0, l => by simp [ofF]
  | k + 1, l => by
    have ih := ofF_len k l
    cases h : l[k]? with
    | none => rw [List.take_of_length_le (by have := List.getElem?_eq_none_iff.1 h; omega)] at *; omega
    | some f => rw [ofF_snoc l k f h]; have := makeL_len (ofF (l.take k)) f.path f.kind; omega
theorem ofF_mem : ∀ (k : Nat) (l : List Fl), ∀ f ∈ ofF (l.take k), f ∈ l
  | 0, l => by simp [ofF]
  | k + 1, l => by
    have ih := ofF_mem k l
    cases h : l[k]? with
    | none =>
      have hl := List.getElem?_eq_none_iff.1 h
      rw [List.take_of_length_le (by omega)] at *
      exact ih
    | some g =>
      intro f hf
      rw [ofF_snoc l k g h] at hf
      rcases makeL_mem hf with q | q
      · exact ih f q
      · rw [q]; exact List.mem_of_getElem? h
/-- What files.Of leaves. -/
def OfP (l : List Fl) (w : World) (e : Ending) (w' : World) : Prop := e = .returned (.pointer (some ⟨w.heap.size + 1, 0, none⟩)) ∧ (∃ nb mp, TreeAt w' w.heap.size (w.heap.size + 1) (ofF l) nb mp) ∧ Below w.heap.size w w'
set_option maxHeartbeats 1600000 in
theorem of_any (l : List Fl) (v : Value) (w : World) (h : Sl w flC 2 v l) (hm : MaxL w) (hl : l.length ≤ 9000) (hn : ∀ f ∈ l, f.path.length ≤ 1073741824) : Calls Try.prog 11 #[v] w (OfP l w) := by
  obtain ⟨A, c, rfl, h1, h2, hn0, hA⟩ := h
  have HN := Lib.hid fun W => newTree_any W
  have HA := Lib.hid hA
  have HNL := Lib.hid hn
  have HM := Lib.hid hm
  clear hA hn hn0 h1 h2 hm
  go_enter Try.func11, Try.ntmps11
  go_wp2_with (go_at_call 17; refine (HN.out _).mono ?_; rintro e w1 ⟨rfl, ht, hb⟩; have HT := Lib.hid ht; have HB := Lib.hid hb; clear ht hb)
  go_loopw [9] (fun i w' => ∃ (k : Nat) (nb : List (List UInt8) → Nat) (mp : List (List UInt8) → Option Nat), k ≤ l.length ∧ i = .int .i64 k ∧ Hid (TreeAt w' w.heap.size (w.heap.size + 1) (ofF (l.take k)) nb mp) ∧ Hid (Below w.heap.size w w')) (fun i _ => l.length - (intOf i).toNat)
  case atStart => exact ⟨0, _, _, by omega, rfl, HT.out, HB.out⟩
  case round =>
    clear HT HB
    obtain ⟨k, nb, mp, hk, rfl, HT, HB⟩ := hrel
    have hbs := HB.out.size
    by_cases hlt : k < l.length
    · obtain ⟨b, off, rfl, hb, hc⟩ := HA.out (by omega)
      obtain ⟨x, hxm⟩ := get_some hlt
      have e0 := (HB.out.cell (p := ⟨b, off + k * 2, none⟩) hb).trans (by have := hc k _ hxm 0 _ rfl; simpa using this)
      have e1 := (HB.out.cell (p := ⟨b, off + k * 2 + 1, none⟩) hb).trans (hc k _ hxm 1 _ rfl)
      haveI : Old wr b := ⟨by omega⟩
      have k0 : (0 : Int) ≤ (k : Int) := by omega
      have k1 : (k : Int) < (l.length : Int) := by omega
      have hxl := HNL.out x (List.mem_of_getElem? hxm)
      have hle := ofF_len k l
      have HS := Lib.hid fun W (hW : Below wr.heap.size wr W) => make_any W w.heap.size (w.heap.size + 1) (ofF (l.take k)) nb mp x.path x.kind (HT.out.below hW) ((HM.out.below HB.out).below hW) hxl (by omega) (by have := hW.size; omega)
      rw [← ofF_snoc l k x hxm] at HS
      clear hc hxm hle
      go_wp2_with (go_at_call 18; refine (HS.out _ (by (repeat (first | with_reducible exact Below.refl _ _ | with_reducible assumption | with_reducible refine below_alloc ?_ _ | with_reducible refine below_grow ?_ _ | with_reducible refine below_drewN ?_ _ | with_reducible refine below_drew ?_ | with_reducible refine below_setCell ?_ (by first | (dsimp only; omega) | (simp; done) | (simp; omega)) _)))).mono ?_; rintro e w4 ⟨rfl, ⟨nb2, mp2, ht2, -⟩, hk2⟩; have HT2 := Lib.hid ht2; have HB2 := Lib.hid (below_keeps (below_alloc HB.out _) hk2 (fun k hk => hk.2)); clear ht2 hk2)
      go_roundw
      case rel => exact ⟨k + 1, nb2, mp2, by omega, by go_num, HT2.out, HB2.out⟩
      case measure => simp [intOf]; omega
    · have hk2 : k = l.length := by omega
      subst hk2
      have d0 := no hlt
      have HT2 := HT
      rw [List.take_length] at HT2
      clear hlt
      go_wp2
      go_ret
      exact ⟨rfl, ⟨nb, mp, HT2.out⟩, HB.out⟩
end Go.Proofs.Ytnecmpgcjgkheaa.Fil
namespace Go.Proofs.Ytnecmpgcjgkheaa.Fil
open Go.ChangeShapes Go.WideShapes Go.Deep Go.RowKit
end Go.Proofs.Ytnecmpgcjgkheaa.Fil
namespace Go.Proofs.Ytnecmpgcjgkheaa.Fil
open Go.ChangeShapes Go.WideShapes Go.Deep Go.RowKit Pat
set_option maxRecDepth 100000
end Go.Proofs.Ytnecmpgcjgkheaa.Fil
namespace Go.Proofs.Ytnecmpgcjgkheaa.Fil
open Go.ChangeShapes Go.WideShapes Go.Deep Go.RowKit Pat
set_option maxRecDepth 100000
end Go.Proofs.Ytnecmpgcjgkheaa.Fil
namespace Go.Proofs.Ytnecmpgcjgkheaa.Fil
open Go.ChangeShapes Go.WideShapes Go.Deep Go.RowKit Pat
set_option maxRecDepth 100000
theorem namesR_snoc (x : List Fl) (p : List UInt8) (k : Nat) (f : Fl) (h : x[k]? = some f) : namesR (x.take (k + 1)) p = if dirL f.path = p then putL (namesR (x.take k) p) (lastN f.path) else namesR (x.take k) p := by
  obtain ⟨h1, rfl⟩ := List.getElem?_eq_some_iff.1 h
  unfold namesR lastsL
  rw [List.take_succ_eq_append_getElem h1, List.filter_append, List.map_append, List.foldl_append]
  by_cases q : dirL x[k].path = p
  · rw [if_pos q, List.filter_cons_of_pos (by simpa using q)]; rfl
  · rw [if_neg q, List.filter_cons_of_neg (by simpa using q)]; rfl
theorem putL_len (s : List UInt8) : ∀ l : List (List UInt8), (putL l s).length ≤ l.length + 1
  | [] => by simp [putL]
  | a :: r => by
    unfold putL
    split
    · split <;> simp
    · have := putL_len s r; simp; omega
theorem namesR_len (x : List Fl) (p : List UInt8) : ∀ k, (namesR (x.take k) p).length ≤ k
  | 0 => by simp [namesR, lastsL]
  | k + 1 => by
    have ih := namesR_len x p k
    cases h : x[k]? with
    | none => rw [List.take_of_length_le (by have := List.getElem?_eq_none_iff.1 h; omega)] at *; omega
    | some f =>
      rw [namesR_snoc x p k f h]
      have := putL_len (lastN f.path) (namesR (x.take k) p)
      split <;> omega
theorem lastN_len (s : List UInt8) : (lastN s).length ≤ s.length := by
  have h := partsL_len s
  unfold lastN
  rw [List.getLastD_eq_getLast?]
  cases h1 : (partsL s).getLast? with
  | none => simp
  | some y =>
    have := (partsL_mem (List.mem_of_getLast? h1)).2
    simpa using this
end Go.Proofs.Ytnecmpgcjgkheaa.Fil
namespace Go.Proofs.Ytnecmpgcjgkheaa.Fil
open Go.ChangeShapes Go.WideShapes Go.Deep Go.RowKit Pat
set_option maxRecDepth 100000
end Go.Proofs.Ytnecmpgcjgkheaa.Fil
