/-
  Steps that lead from text to text (layer 2), and Push in such a row.
-/
import Derived.Test.YtkinjjgaecbogaaUndo13
import Derived.Test.YtkinjjgaecbogaaEditJoinPlain
namespace Go.Proofs.Ytkinjjgaecbogaa
open Go.ChangeShapes Go.WideShapes Go.ChangeAt Go.RowKit
set_option maxRecDepth 100000
/-- An edit leads from one text to another one; both are of at most 2^20 bytes. -/
def GT (t : List UInt8) (e : Ed) (r : List UInt8) : Prop := ∃ n : Nat, e.pos = n ∧ Sp t e.del e.ins r n ∧ t.length ≤ 1048576 ∧ r.length ≤ 1048576
theorem gt_of {t : List UInt8} {e : Ed} (h : wrong t e.pos e.del e.ins = 0) (ht : t.length ≤ 1048576) : GT t e (does t e.pos e.del e.ins) ∧ (does t e.pos e.del e.ins).length ≤ t.length + e.ins.length := by
  obtain ⟨n, hn, h1, h2, h3⟩ := wrong_zero h
  rw [hn] at h ⊢
  have hl : (does t n e.del e.ins).length = t.length - e.del.length + e.ins.length := by simp [does]; omega
  exact ⟨⟨n, hn, sp_of h, ht, by omega⟩, by omega⟩
theorem sp_inv {s d i r : List UInt8} {n : Nat} (h : Sp s d i r n) : Sp r i d s n := by
  obtain ⟨A, Z, h1, h2, h3⟩ := h
  exact ⟨A, Z, h3, h2, h1⟩
theorem gt_does {t r : List UInt8} {e : Ed} (h : GT t e r) : wrong t e.pos e.del e.ins = 0 ∧ does t e.pos e.del e.ins = r := by
  obtain ⟨n, hn, h1, _, h3⟩ := h
  rw [hn]
  exact of_sp h1 h3
theorem gt_back {t r : List UInt8} {e : Ed} (h : GT t e r) : wrong r e.pos e.ins e.del = 0 ∧ does r e.pos e.ins e.del = t := by
  obtain ⟨n, hn, h1, h2, _⟩ := h
  rw [hn]
  exact of_sp (sp_inv h1) h2
theorem gt_det {t r r' : List UInt8} {e : Ed} (h : GT t e r) (h' : GT t e r') : r = r' := (gt_does h).2.symm.trans (gt_does h').2
/-- Steps lead from one text to another one. -/
def Chain (s : List UInt8) : List Stp → List UInt8 → Prop
  | [], t => s = t
  | x :: l, t => ∃ u, GT s x.ed u ∧ Chain u l t
theorem chain_snoc {x : Stp} {t : List UInt8} : ∀ {l : List Stp} {s : List UInt8}, Chain s (l ++ [x]) t ↔ ∃ u, Chain s l u ∧ GT u x.ed t
  | [], s => by simp [Chain]
  | y :: l, s => by
    simp only [List.cons_append, Chain]
    constructor
    · rintro ⟨u, h1, h2⟩
      obtain ⟨v, h3, h4⟩ := chain_snoc.1 h2
      exact ⟨v, ⟨u, h1, h3⟩, h4⟩
    · rintro ⟨v, ⟨u, h1, h3⟩, h4⟩
      exact ⟨u, h1, chain_snoc.2 ⟨v, h3, h4⟩⟩
theorem chain_det {t t' : List UInt8} : ∀ {l : List Stp} {s : List UInt8}, Chain s l t → Chain s l t' → t = t'
  | [], s, h, h' => h.symm.trans h'
  | y :: l, s, ⟨u, h1, h2⟩, ⟨u', h1', h2'⟩ => by
    have := gt_det h1 h1'
    subst this
    exact chain_det h2 h2'
theorem chain_split {t : List UInt8} : ∀ {l l' : List Stp} {s : List UInt8}, Chain s (l ++ l') t → ∃ u, Chain s l u ∧ Chain u l' t
  | [], l', s, h => ⟨s, rfl, h⟩
  | y :: l, l', s, ⟨u, h1, h2⟩ => by
    obtain ⟨v, h3, h4⟩ := chain_split h2
    exact ⟨v, ⟨u, h1, h3⟩, h4⟩
/-- One step back. -/
theorem chain_back {s b : List UInt8} {ds : List Stp} {p : Nat} {x : Stp} (h : Chain s (ds.take (p + 1)) b) (hx : ds[p]? = some x) : ∃ u, Chain s (ds.take p) u ∧ GT u x.ed b := by
  obtain ⟨h1, rfl⟩ := List.getElem?_eq_some_iff.1 hx
  rw [List.take_succ_eq_append_getElem h1] at h
  exact chain_snoc.1 h
/-- One step on. -/
theorem chain_on {s b t : List UInt8} {ds : List Stp} {p : Nat} {x : Stp} (h : Chain s (ds.take p) b) (ht : Chain s ds t) (hx : ds[p]? = some x) : ∃ u, Chain s (ds.take (p + 1)) u ∧ GT b x.ed u := by
  obtain ⟨h1, rfl⟩ := List.getElem?_eq_some_iff.1 hx
  rw [← List.take_append_drop (p + 1) ds] at ht
  obtain ⟨u, h2, _⟩ := chain_split ht
  have h3 := h2
  rw [List.take_succ_eq_append_getElem h1] at h3
  obtain ⟨v, h4, h5⟩ := chain_snoc.1 h3
  have := chain_det h h4
  subst this
  exact ⟨u, h2, h5⟩
/-- Two steps that are one. -/
theorem chain_join {t u r : List UInt8} {x s z : Stp} (h1 : GT t x.ed u) (h2 : GT u s.ed r) (hz : joinS x s = some z) : GT t z.ed r := by
  obtain ⟨n, hn, a1, a2, a3⟩ := h1
  obtain ⟨m, hm, b1, b2, b3⟩ := h2
  unfold joinS at hz
  cases he : joinE x.ed s.ed with
  | none => rw [he] at hz; cases hz
  | some e =>
    rw [he] at hz
    cases hz
    unfold joinE at he
    split at he
    · cases he
    rw [hn, hm, Int.toNat_natCast, Int.toNat_natCast] at he
    cases hj : join n x.ed.del x.ed.ins m s.ed.del s.ed.ins with
    | none => rw [hj] at he; cases he
    | some k =>
      rw [hj] at he
      cases he
      obtain ⟨k, dx, ix⟩ := k
      exact ⟨k, rfl, ((join_law a1 b1).2 k dx ix hj).1, a2, b3⟩
/-- What Push leaves in such a row. -/
def PTP (b0 jb : Nat) (lv : Value) (s r : List UInt8) (ds : List Stp) (m : Nat) (w : World) (e : Ending) (w' : World) : Prop :=
  e = .returned (.tuple #[]) ∧ ∃ lv' ds', JAt w' b0 jb lv' (100 : Nat) ds' ds'.length ∧ Chain s ds' r ∧ ds'.length ≤ ds.length + 1 ∧ (∀ y ∈ ds', y.ed.del.length ≤ m + 100 ∧ y.ed.ins.length ≤ m + 100) ∧ Keeps (fun k => k = jb ∨ (lv.ownBlock = some k ∧ b0 ≤ k)) w w'
theorem push_t (w : World) (b0 jb : Nat) (lv : Value) (s now r : List UInt8) (ds : List Stp) (x : Stp) (jn : Bool) (m : Nat) (h : JAt w b0 jb lv (100 : Nat) ds ds.length) (hl : ds.length < 100) (hc : Chain s ds now) (hg : GT now x.ed r)
    (hm : m ≤ 1073741824) (ht : ∀ y ∈ ds, y.ed.del.length ≤ m ∧ y.ed.ins.length ≤ m) (hx : x.ed.del.length ≤ 100 ∧ x.ed.ins.length ≤ 100) : Calls Try.prog 52 #[.pointer (some ⟨jb, 0, none⟩), x.val, .bool jn] w (PTP b0 jb lv s r ds m w) := by
  have ho : ∀ y ∈ ds ++ [x], y.ed.del.length ≤ m + 100 ∧ y.ed.ins.length ≤ m + 100 := fun y hy => by
    rcases List.mem_append.1 hy with hy | hy
    · have := ht y hy; omega
    · simp at hy; subst hy; omega
  have hk : keepL 100 (ds.take ds.length ++ [x]) = ds ++ [x] := by rw [List.take_length]; exact keepL_few (by simp; omega)
  by_cases hj : jn = false ∨ ds.length = 0
  · refine (push_a w b0 jb lv 100 ds ds.length x jn h hj (by omega) (by omega) (by omega)).mono ?_
    rintro e w' ⟨he, lv', h1, h2⟩
    rw [hk] at h1
    exact ⟨he, lv', _, h1, chain_snoc.2 ⟨now, hc, hg⟩, by simp, ho, h2⟩
  obtain rfl : jn = true := by cases jn <;> simp at hj ⊢
  rcases List.eq_nil_or_concat ds with hd | ⟨l1, y, hd⟩
  · exact absurd (.inr (by rw [hd]; rfl)) hj
  replace hd : ds = l1 ++ [y] := by simpa using hd
  obtain ⟨z, ok, hz⟩ := joinS_ex y x
  have hy := ht y (by rw [hd]; simp)
  refine (push_j w b0 jb lv 100 ds ds.length l1.length l1 y x z ok h (by rw [hd]; simp) (by rw [List.take_length]; exact hd) rfl (by omega) (by omega) (by omega) (by omega) (by omega) (by omega) (by omega) hz).mono ?_
  intro e w' hp
  obtain ⟨he, lv', h1, h2, h3⟩ := pushJ_parts hp
  cases ok with
  | true =>
    have hjs : joinS y x = some z := by
      rcases hz with ⟨q, _⟩ | ⟨_, _, q⟩
      · exact q
      · cases q
    have hzl := joinS_len hjs
    have hlen : ds.length = (l1 ++ [z]).length := by rw [hd]; simp
    have h4 := (h1 rfl).1
    rw [hlen] at h4
    rw [hd] at hc
    obtain ⟨u, hu, hgu⟩ := chain_snoc.1 hc
    refine ⟨he, lv', _, h4, chain_snoc.2 ⟨u, hu, chain_join hgu hg hjs⟩, by rw [hd]; simp, fun q hq => ?_, h3⟩
    rcases List.mem_append.1 hq with hq | hq
    · have := ht q (by rw [hd]; exact List.mem_append_left _ hq); omega
    · simp at hq; subst hq; omega
  | false =>
    have h4 := h2 rfl
    rw [hk] at h4
    exact ⟨he, lv', _, h4, chain_snoc.2 ⟨now, hc, hg⟩, by simp, ho, h3⟩
end Go.Proofs.Ytkinjjgaecbogaa
