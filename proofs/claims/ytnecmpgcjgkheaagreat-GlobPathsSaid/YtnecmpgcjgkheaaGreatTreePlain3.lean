/-
  Rows of files, on: the order of a row does not matter; a rising row makes itself. No program in sight.
-/
import Derived.Test.YtnecmpgcjgkheaaGreatTree6
import Derived.Lib.Bytealg
import Derived.Test.YtnecmpgcjgkheaaGreatShelfB
set_option linter.unusedSimpArgs false
set_option linter.unusedVariables false
namespace Go.Proofs.YtnecmpgcjgkheaaGreat.Fil
open Go.ChangeShapes Go.WideShapes Go.Deep Go.RowKit Pat
set_option maxRecDepth 100000
/-- A file's cells. -/
def flC (f : Fl) : List Value := [.string (B f.path), .int .i64 f.kind]
theorem info_file : (Tryz.prog.info? 34).map (fun i => (i.zero, i.size, i.bytes)) = some (some (.agg #[.string ByteArray.empty, .int .i64 0]), 2, 24) := by kernel_rfl
theorem flC_len {xs : List Fl} : ∀ f ∈ xs, (flC f).length = 2 := fun _ _ => rfl
theorem flC_flat (xs : List Fl) : (xs.flatMap flC).length = xs.length * 2 := by
  induction xs with
  | nil => rfl
  | cons a r ih => rw [List.flatMap_cons, List.length_append, ih, List.length_cons]; simp [flC]; omega
theorem TreeAt.keeps {F : Nat → Prop} {w w' : World} {b0 tb : Nat} {x : List Fl} {nb : List (List UInt8) → Nat} {mp : List (List UInt8) → Option Nat} (h : TreeAt w b0 tb x nb mp) (hk : Keeps F w w') (hF : ∀ k, F k → ¬ inTree tb x nb mp k) : TreeAt w' b0 tb x nb mp := by
  have hb : ∀ k, inTree tb x nb mp k → k < w.heap.size → w'.heap[k]? = w.heap[k]? := fun k h1 h2 => hk.block k h2 (fun q => hF k q h1)
  have ht := hb tb (.inl rfl) h.lt
  refine ⟨Nat.lt_of_lt_of_le h.lt hk.size, h.ge, (World.cell?_of_block (w := w) ht).trans h.t0, (World.cell?_of_block (w := w) ht).trans h.t1, fun j => (World.frozen?_of_block (w := w) ht).trans (h.tf j), h.ok, fun ks k hkd => ?_, h.k0, fun ks r h1 h2 => ?_, h.i, h.im⟩
  · obtain ⟨n1, n2, n3, n4, n5, n6⟩ := h.n ks k hkd
    have hn := hb (nb ks) (.inr ⟨ks, by rw [hkd]; rfl, .inl rfl⟩) n2
    exact ⟨n1, Nat.lt_of_lt_of_le n2 hk.size, n3, (World.cell?_of_block (w := w) hn).trans n4, (World.cell?_of_block (w := w) hn).trans n5, fun j => (World.frozen?_of_block (w := w) hn).trans (n6 j)⟩
  · obtain ⟨k1, c, k2, k3⟩ := h.k1 ks r h1 h2
    exact ⟨k1, c, k2.block (hb r (.inr ⟨ks, h1, .inr h2⟩) k2.lt), k3⟩
/-- The names of a node of a tree. -/
theorem names_node (w : World) (b0 tb : Nat) (x : List Fl) (nb : List (List UInt8) → Nat) (mp : List (List UInt8) → Option Nat) (ks : List (List UInt8)) (h : TreeAt w b0 tb x nb mp) (hk : (kd x ks).isSome = true) (hx : x.length ≤ 1099511627776) :
    Calls Tryz.prog 83 #[.pointer (some ⟨nb ks, 0, none⟩)] w fun e w' => ∃ v ss, e = .returned v ∧ Own w' w.heap.size 1 v ss.length (ss.flatMap strC) ∧ Below w.heap.size w w' ∧ Rise ss ∧ ∀ a, a ∈ ss ↔ (kd x (ks ++ [a])).isSome = true := by
  obtain ⟨k, hkk⟩ := Option.isSome_iff_exists.1 hk
  obtain ⟨n1, n2, n3, n4, n5, n6⟩ := h.n ks k hkk
  cases hm : mp ks with
  | none =>
    rw [hm] at n5
    refine (names_nil w (nb ks) n2 n5).mono ?_
    rintro e w' ⟨v, ss, h1, h2, h3, h4, h5⟩
    exact ⟨v, ss, h1, h2, h3, h4, fun a => by rw [h5, h.k0 ks hk hm a]; simp⟩
  | some r =>
    rw [hm] at n5
    obtain ⟨_, c, k2, k3⟩ := h.k1 ks r hk hm
    refine (names_any w (nb ks) r c _ k2 (by omega) n2 n5).mono ?_
    rintro e w' ⟨v, ss, h1, h2, h3, h4, h5⟩
    refine ⟨v, ss, h1, h2, h3, h4, fun a => ?_⟩
    rw [h5]
    unfold Fil.below
    cases hq : (kd x (ks ++ [a])) <;> simp
end Go.Proofs.YtnecmpgcjgkheaaGreat.Fil
namespace Go.Proofs.YtnecmpgcjgkheaaGreat.Tab
open Go.Lib
/-- An entry of a table. -/
structure Ent where
  name : List UInt8
  val : List UInt8
/-- Where a name stands, or would. -/
def place (xs : List Ent) (s : List UInt8) : Nat := (xs.takeWhile fun e => compareBytes e.name s < 0).length
end Go.Proofs.YtnecmpgcjgkheaaGreat.Tab
namespace Go.Proofs.YtnecmpgcjgkheaaGreat
theorem less_lt : ∀ a b : List UInt8, Op.bytesLess a b = decide (a < b)
  | [], [] => rfl
  | [], _ :: _ => by simp [Op.bytesLess]
  | _ :: _, [] => by simp [Op.bytesLess]
  | x :: a, y :: b => by
    have ih := less_lt a b
    conv => lhs; unfold Op.bytesLess
    rw [Bool.eq_iff_iff, decide_eq_true_eq, List.cons_lt_cons_iff]
    by_cases h1 : x.toNat < y.toNat
    · simp [UInt8.lt_iff_toNat_lt, h1]
    · by_cases h2 : y.toNat < x.toNat
      · have hne : x ≠ y := fun e => by subst e; omega
        simp [UInt8.lt_iff_toNat_lt, h1, hne]
      · have he : x = y := UInt8.toNat_inj.1 (by omega)
        subst he
        simp [ih]
end Go.Proofs.YtnecmpgcjgkheaaGreat
namespace Go.Proofs.YtnecmpgcjgkheaaGreat.Fil
open Go.ChangeShapes Go.WideShapes Go.Deep Go.RowKit Pat
set_option maxRecDepth 100000
instance : Inhabited Fl := ⟨⟨[], 0⟩⟩
theorem flat_at {α : Type} {en : α → List Value} {sz : Nat} : ∀ (xs : List α) (_ : ∀ x ∈ xs, (en x).length = sz) (k : Nat) (x : α), xs[k]? = some x → ∀ j u, (en x)[j]? = some u → (xs.flatMap en)[k * sz + j]? = some u
  | [], _, k, x, hk => by simp at hk
  | y :: ys, hen, 0, x, hk => fun j u hj => by
    simp only [List.getElem?_cons_zero, Option.some.injEq] at hk
    subst hk
    have hjl : j < (en y).length := (List.getElem?_eq_some_iff.1 hj).1
    rw [List.flatMap_cons, List.getElem?_append_left (by omega), Nat.zero_mul, Nat.zero_add]; exact hj
  | y :: ys, hen, k + 1, x, hk => fun j u hj => by
    have hy := hen y (by simp)
    have e : (k + 1) * sz + j = sz + (k * sz + j) := by rw [Nat.add_mul]; omega
    rw [List.flatMap_cons, List.getElem?_append_right (by omega), e, hy, Nat.add_sub_cancel_left]
    exact flat_at ys (fun x hx => hen x (by simp [hx])) k x (by simpa using hk) j u hj
theorem make_any (w : World) (b0 tb : Nat) (x : List Fl) (nb : List (List UInt8) → Nat) (mp : List (List UInt8) → Option Nat) (p : List UInt8) (k : Int) (h : TreeAt w b0 tb x nb mp) (hm : MaxL w) (hl : p.length ≤ 1073741824) (hx : x.length < 10000) (hb0 : b0 ≤ w.heap.size) :
    Calls Tryz.prog 15 #[.pointer (some ⟨tb, 0, none⟩), .string (B p), .int .i64 k] w (MakeP b0 tb x (makeL x p k) nb mp (makeN x p k) w) := by
  by_cases hn : makeN x p k = 0
  · have := make_yes w b0 tb x nb mp p k h hm hl hx hb0 hn
    unfold makeL
    rw [if_pos hn, hn]
    exact this
  · have := make_no w b0 tb x nb mp p k h hm hl hx hn
    unfold makeL
    rw [if_neg hn]
    exact this
/-- The row of a tree of any files. -/
def ofF (l : List Fl) : List Fl := l.foldl (fun x f => makeL x f.path f.kind) []
theorem ofF_snoc (l : List Fl) (k : Nat) (f : Fl) (h : l[k]? = some f) : ofF (l.take (k + 1)) = makeL (ofF (l.take k)) f.path f.kind := by
  obtain ⟨h1, rfl⟩ := List.getElem?_eq_some_iff.1 h
  unfold ofF
  rw [List.take_succ_eq_append_getElem h1, List.foldl_append]
  rfl
theorem makeL_len (x : List Fl) (p : List UInt8) (k : Int) : (makeL x p k).length ≤ x.length + 1 := by
  unfold makeL
  split
  · simp
  · omega
theorem makeL_mem {x : List Fl} {p : List UInt8} {k : Int} {f : Fl} (h : f ∈ makeL x p k) : f ∈ x ∨ f = ⟨p, k⟩ := by
  unfold makeL at h
  split at h
  · simpa using h
  · exact .inl h
theorem ofF_len : ∀ (k : Nat) (l : List Fl), (ofF (l.take k)).length ≤ k
  | 0, l => by simp [ofF]
  | k + 1, l => by
    have ih := ofF_len k l
    cases h : l[k]? with
    | none => rw [List.take_of_length_le (by have := List.getElem?_eq_none_iff.1 h; omega)] at *; omega
    | some f => rw [ofF_snoc l k f h]; have := makeL_len (ofF (l.take k)) f.path f.kind; omega
theorem ofF_mem : ∀ (k : Nat) (l : List Fl), ∀ f ∈ ofF (l.take k), f ∈ l
  | 0, l => by simp [ofF]
  | k + 1, l => by
    have ih := ofF_mem k l
    cases h : l[k]? with
    | none =>
      have hl := List.getElem?_eq_none_iff.1 h
      rw [List.take_of_length_le (by omega)] at *
      exact ih
    | some g =>
      intro f hf
      rw [ofF_snoc l k g h] at hf
      rcases makeL_mem hf with q | q
      · exact ih f q
      · rw [q]; exact List.mem_of_getElem? h
/-- What files.Of leaves. -/
def OfP (l : List Fl) (w : World) (e : Ending) (w' : World) : Prop := e = .returned (.pointer (some ⟨w.heap.size + 1, 0, none⟩)) ∧ (∃ nb mp, TreeAt w' w.heap.size (w.heap.size + 1) (ofF l) nb mp) ∧ Below w.heap.size w w'
set_option maxHeartbeats 1600000 in
theorem of_any (l : List Fl) (v : Value) (w : World) (h : Sl w flC 2 v l) (hm : MaxL w) (hl : l.length ≤ 9000) (hn : ∀ f ∈ l, f.path.length ≤ 1073741824) : Calls Tryz.prog 8 #[v] w (OfP l w) := by
  obtain ⟨A, c, rfl, h1, h2, hn0, hA⟩ := h
  have HN := Lib.hid fun W => newTree_any W
  have HA := Lib.hid hA
  have HNL := Lib.hid hn
  have HM := Lib.hid hm
  clear hA hn hn0 h1 h2 hm
  go_enter Tryz.func8, Tryz.ntmps8
  go_wp2_with (go_at_call 14; refine (HN.out _).mono ?_; rintro e w1 ⟨rfl, ht, hb⟩; have HT := Lib.hid ht; have HB := Lib.hid hb; clear ht hb)
  go_loopw [9] (fun i w' => ∃ (k : Nat) (nb : List (List UInt8) → Nat) (mp : List (List UInt8) → Option Nat), k ≤ l.length ∧ i = .int .i64 k ∧ Hid (TreeAt w' w.heap.size (w.heap.size + 1) (ofF (l.take k)) nb mp) ∧ Hid (Below w.heap.size w w')) (fun i _ => l.length - (intOf i).toNat)
  case atStart => exact ⟨0, _, _, by omega, rfl, HT.out, HB.out⟩
  case round =>
    clear HT HB
    obtain ⟨k, nb, mp, hk, rfl, HT, HB⟩ := hrel
    have hbs := HB.out.size
    by_cases hlt : k < l.length
    · obtain ⟨b, off, rfl, hb, hc⟩ := HA.out (by omega)
      obtain ⟨x, hxm⟩ := get_some hlt
      have e0 := (HB.out.cell (p := ⟨b, off + k * 2, none⟩) hb).trans (by have := hc k _ hxm 0 _ rfl; simpa using this)
      have e1 := (HB.out.cell (p := ⟨b, off + k * 2 + 1, none⟩) hb).trans (hc k _ hxm 1 _ rfl)
      haveI : Old wr b := ⟨by omega⟩
      have k0 : (0 : Int) ≤ (k : Int) := by omega
      have k1 : (k : Int) < (l.length : Int) := by omega
      have hxl := HNL.out x (List.mem_of_getElem? hxm)
      have hle := ofF_len k l
      have HS := Lib.hid fun W (hW : Below wr.heap.size wr W) => make_any W w.heap.size (w.heap.size + 1) (ofF (l.take k)) nb mp x.path x.kind (HT.out.below hW) ((HM.out.below HB.out).below hW) hxl (by omega) (by have := hW.size; omega)
      rw [← ofF_snoc l k x hxm] at HS
      clear hc hxm hle
      go_wp2_with (go_at_call 15; refine (HS.out _ (by (repeat (first | with_reducible exact Below.refl _ _ | with_reducible assumption | with_reducible refine below_alloc ?_ _ | with_reducible refine below_grow ?_ _ | with_reducible refine below_drewN ?_ _ | with_reducible refine below_drew ?_ | with_reducible refine below_setCell ?_ (by first | (dsimp only; omega) | (simp; done) | (simp; omega)) _)))).mono ?_; rintro e w4 ⟨rfl, ⟨nb2, mp2, ht2, -⟩, hk2⟩; have HT2 := Lib.hid ht2; have HB2 := Lib.hid (below_keeps (below_alloc HB.out _) hk2 (fun k hk => hk.2)); clear ht2 hk2)
      go_roundw
      case rel => exact ⟨k + 1, nb2, mp2, by omega, by go_num, HT2.out, HB2.out⟩
      case measure => simp [intOf]; omega
    · have hk2 : k = l.length := by omega
      subst hk2
      have d0 := no hlt
      have HT2 := HT
      rw [List.take_length] at HT2
      clear hlt
      go_wp2
      go_ret
      exact ⟨rfl, ⟨nb, mp, HT2.out⟩, HB.out⟩
end Go.Proofs.YtnecmpgcjgkheaaGreat.Fil
namespace Go.Proofs.YtnecmpgcjgkheaaGreat.Fil
open Go.ChangeShapes Go.WideShapes Go.Deep Go.RowKit
end Go.Proofs.YtnecmpgcjgkheaaGreat.Fil
