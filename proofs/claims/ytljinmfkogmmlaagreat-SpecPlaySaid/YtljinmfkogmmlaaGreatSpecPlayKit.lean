/-
  For the law SpecPlay: the registry and the reference's row say the same. Conditions: none.
-/
import Derived.Test.YtljinmfkogmmlaaGreatRegB
import Derived.Test.YtljinmfkogmmlaaGreatSpecE
namespace Go.Proofs.YtljinmfkogmmlaaGreat.Spc
open Go.ChangeShapes Go.WideShapes Go.Deep Go.RowKit Tab Mc Pa Quo
set_option linter.unusedSimpArgs false
set_option linter.unusedVariables false
set_option maxRecDepth 100000
theorem less_cmp20 : ∀ a b : List UInt8, Op.bytesLess a b = decide (Lib.compareBytes a b < 0)
  | [], [] => rfl
  | [], _ :: _ => rfl
  | _ :: _, [] => rfl
  | x :: a, y :: b => by
    have ih := less_cmp20 a b
    rw [cmp_cons]
    conv => lhs; unfold Op.bytesLess
    by_cases h1 : x.toNat < y.toNat
    · rw [if_pos h1]
      simp [UInt8.lt_iff_toNat_lt, h1]
    · rw [if_neg h1]
      by_cases h2 : y.toNat < x.toNat
      · rw [if_pos h2]
        have hne : x ≠ y := fun e => by subst e; omega
        simp [UInt8.lt_iff_toNat_lt, h1, hne]
      · rw [if_neg h2]
        have he : x = y := UInt8.toNat_inj.1 (by omega)
        subst he
        simp [ih]
theorem getM_look (us : List Nm) (s : List UInt8) : (getM us s).map (·.x) = lookY (ysOf us) s := by
  unfold getM lookY ysOf
  rw [List.find?_map, Option.map_map]
  rfl
/-- What the reference tells of a name, and what the registry does. -/
def Pair (us : List Nm) (m : Option Nm) (q : Sp × Bool) : Prop := (m = none ∧ q = (sp0, false)) ∨ ∃ g ∈ us, m = some g ∧ q = (g.x, true)
theorem pair_look {us zs : List Nm} (hp : (ysOf us).Perm (ysOf zs)) (hr : RisesN zs) (s : List UInt8) : Pair us (getM us s) (gotN zs s) := by
  have hn := ne_perm hp.symm (rises_ne (rises_ys.1 hr))
  have h1 := got_look hr s
  rw [← look_perm hp hn s, ← getM_look] at h1
  cases h : getM us s with
  | none => exact .inl ⟨rfl, by rw [h1, h]; rfl⟩
  | some g => exact .inr ⟨g, List.mem_of_find?_eq_some h, rfl, by rw [h1, h]; rfl⟩
theorem getM_name {us : List Nm} {s : List UInt8} {g : Nm} (h : getM us s = some g) : g.n = s := by
  have := List.find?_some h
  simpa using this
theorem head_pre (s : List UInt8) : Lib.hasPrefix s [45] = decide (s.head? = some 45) := by
  cases s with
  | nil => rfl
  | cons a r =>
    unfold Lib.hasPrefix
    by_cases h : a = 45
    · subst h; simp
    · have e : ((45 : UInt8) == a) = false := by rw [beq_eq_false_iff_ne]; exact fun q => h q.symm
      show ((45 : UInt8) == a && ([] : List UInt8).isPrefixOf r) = _
      rw [e]
      simp [h]
theorem pair_for {us zs : List Nm} (hp : (ysOf us).Perm (ysOf zs)) (hr : RisesN zs) (hm : ∀ e ∈ us, spMay e.n = true) (c : List UInt8) : Pair us (rforQ (getM us) c) (forQ (gotN zs) c) := by
  unfold rforQ forQ
  by_cases h0 : c = []
  · rw [if_pos h0, if_pos h0]; exact pair_look hp hr _
  rw [if_neg h0, if_neg h0]
  generalize baseL c = u
  have hD := pair_look hp hr [45, 68]
  rcases pair_look hp hr u with ⟨h1, h2⟩ | ⟨g, hg, h1, h2⟩
  · rw [if_neg (by rw [h1]; simp)]
    by_cases h3 : Lib.hasPrefix u [45] = true
    · rw [if_pos h3]; exact hD
    · rw [if_neg h3, if_neg (by rw [h2]; simp)]; exact hD
  · have hgn := getM_name h1
    have hmay := hm g hg
    rw [hgn] at hmay
    by_cases h3 : Lib.hasPrefix u [45] = true
    · rw [if_pos h3]
      have hx : u = [45, 68] ∨ u = [45, 69] := by
        rw [head_pre, decide_eq_true_eq] at h3
        unfold spMay at hmay
        rw [Bool.or_eq_true, Bool.or_eq_true, Bool.and_eq_true] at hmay
        rcases hmay with (h | h) | ⟨_, h⟩
        · exact .inl (by simpa using h)
        · exact .inr (by simpa using h)
        · exfalso
          cases u with
          | nil => cases h3
          | cons a r =>
            have : a = 45 := Option.some.inj h3
            subst this
            simp at h
      rw [if_neg (by rcases hx with rfl | rfl <;> simp)]
      exact hD
    · have hx : u ≠ [45, 68] ∧ u ≠ [45, 69] := by
        constructor <;> (rintro rfl; exact h3 rfl)
      rw [if_pos (show (getM us u).isSome = true ∧ u ≠ [45, 68] ∧ u ≠ [45, 69] from ⟨by rw [h1]; rfl, hx.1, hx.2⟩), if_neg h3, if_pos (by rw [h2])]
      exact .inr ⟨g, hg, h1, h2⟩
/-- Between the law's acts. -/
structure SPI (w W : World) (rb A N : Nat) (u : Value) (zs : List Nm) (uv : Value) (us : List Nm) (k : Nat) : Prop where
  r : RegAt W A N rb u zs
  o : Own W w.heap.size 7 uv us.length (us.flatMap namC)
  d : ∀ j, uv.ownBlock = some j → j ≠ rb ∧ u.ownBlock ≠ some j
  s : ∀ e ∈ us, Sl w numC 1 e.va e.x.a ∧ Sl w strC 1 e.vw e.x.w
  l : ∀ e ∈ us, lightB e.x = true ∧ spMay e.n = true
  p : (ysOf us).Perm (ysOf zs)
  b : Below w.heap.size w W
  z : w.heap.size ≤ rb
  k : us.length ≤ k
section
variable {w W W' : World} {rb A N k : Nat} {u uv : Value} {zs us : List Nm}
theorem SPI.below (h : SPI w W rb A N u zs uv us k) (hb : Below W.heap.size W W') : SPI w W' rb A N u zs uv us k :=
  ⟨h.r.below hb, h.o.below hb, h.d, h.s, h.l, h.p, below_then h.b hb, h.z, h.k⟩
theorem SPI.len (h : SPI w W rb A N u zs uv us k) : zs.length = us.length := by
  have := h.p.length_eq
  rw [ys_len, ys_len] at this
  exact this.symm
theorem SPI.light (h : SPI w W rb A N u zs uv us k) : ∀ e ∈ zs, e.x.a.length ≤ 1073741824 ∧ e.x.w.length ≤ 1073741824 := fun e he => by
  have h1 : (e.n, e.x) ∈ ysOf us := h.p.mem_iff.2 (List.mem_map.2 ⟨e, he, rfl⟩)
  obtain ⟨g, hg, e1⟩ := List.mem_map.1 h1
  have h2 := (h.l g hg).1
  have h3 : g.x = e.x := (Prod.mk.inj e1).2
  unfold lightB at h2
  simp only [Bool.and_eq_true, decide_eq_true_eq] at h2
  have h4 := h2.1.1.1.1.1
  rw [← h3]
  omega
theorem SPI.forms (h : SPI w W rb A N u zs uv us k) : ∀ e ∈ us, ∃ A c B d, e.va = .slice A e.x.a.length c ∧ e.vw = .slice B e.x.w.length d := fun e he => by
  obtain ⟨⟨A, c, h1, _⟩, ⟨B, d, h2, _⟩⟩ := h.s e he
  exact ⟨A, c, B, d, h1, h2⟩
theorem SPI.one (h : SPI w W rb A N u zs uv us k) : ∀ e ∈ us, ∀ u ∈ namC e, u.oneCell' = true := fun e he => nm_one (h.s e he).1 (h.s e he).2
theorem SPI.sl (h : SPI w W rb A N u zs uv us k) (hb : Below W.heap.size W W') : Sl W' namC 7 uv us := (h.o.below hb).sl (fun _ _ => rfl) rfl
/-- What the reference tells, with the values' forms. -/
theorem pair_val (h : SPI w W rb A N u zs uv us k) {m : Option Nm} {q : Sp × Bool} (hp : Pair us m q) : ∃ (A1 : Option Addr) (c1 : Nat) (B1 : Option Addr) (d1 : Nat) (n : Int), getR m = .tuple #[spV (.slice A1 q.1.a.length c1) (.slice B1 q.1.w.length d1) q.1, .int .i64 n] ∧ (n == 1) = q.2 ∧ (n = 0 ∨ n = 1) ∧
    Sl w numC 1 (.slice A1 q.1.a.length c1) q.1.a ∧ Sl w strC 1 (.slice B1 q.1.w.length d1) q.1.w ∧ q.1.a.length ≤ 20 ∧ q.1.w.length ≤ 20 := by
  rcases hp with ⟨rfl, rfl⟩ | ⟨g, hg, rfl, rfl⟩
  · exact ⟨none, 0, none, 0, 0, rfl, rfl, .inl rfl, Sl.nil _ _ _, Sl.nil _ _ _, by simp [sp0], by simp [sp0]⟩
  · obtain ⟨⟨A1, c1, h1, h1'⟩, ⟨B1, d1, h2, h2'⟩⟩ := h.s g hg
    have h3 := (h.l g hg).1
    unfold lightB at h3
    simp only [Bool.and_eq_true, decide_eq_true_eq] at h3
    have h4 := h3.1.1.1.1.1
    refine ⟨A1, c1, B1, d1, 1, ?_, rfl, .inr rfl, ⟨A1, c1, rfl, h1'⟩, ⟨B1, d1, rfl, h2'⟩, h4.1, h4.2⟩
    show Value.tuple #[spV g.va g.vw g.x, .int .i64 1] = _
    rw [h1, h2]
end
theorem name_there {w W : World} {rb A N k : Nat} {u uv : Value} {zs us : List Nm} (h : SPI w W rb A N u zs uv us k) {t : List UInt8} (ht : t ∈ zs.map Nm.n) : ∃ (A1 : Option Addr) (c1 : Nat) (B1 : Option Addr) (d1 : Nat) (y : Sp), getR (getM us t) = .tuple #[spV (.slice A1 y.a.length c1) (.slice B1 y.w.length d1) y, .int .i64 1] := by
  obtain ⟨e, he, rfl⟩ := List.mem_map.1 ht
  have h1 : (e.n, e.x) ∈ ysOf zs := List.mem_map.2 ⟨e, he, rfl⟩
  have hn := rises_ne (rises_ys.1 h.r.r)
  have h2 := (look_mem hn e.n e.x).2 h1
  rw [← look_perm h.p (ne_perm h.p.symm hn), ← getM_look] at h2
  cases hg : getM us e.n with
  | none => rw [hg] at h2; cases h2
  | some g =>
    obtain ⟨A1, c1, B1, d1, e1, e2⟩ := h.forms g (List.mem_of_find?_eq_some hg)
    refine ⟨A1, c1, B1, d1, g.x, ?_⟩
    show Value.tuple #[spV g.va g.vw g.x, .int .i64 1] = _
    rw [e1, e2]
theorem names_rise {zs : List Nm} (h : RisesN zs) {j : Nat} {p t : List UInt8} (hp : (zs.map Nm.n)[j]? = some p) (ht : (zs.map Nm.n)[j + 1]? = some t) : Op.bytesLess p t = true := by
  rw [less_cmp20, decide_eq_true_iff]
  rw [List.getElem?_map] at hp ht
  cases h1 : zs[j]? with
  | none => rw [h1] at hp; cases hp
  | some a =>
    cases h2 : zs[j + 1]? with
    | none => rw [h2] at ht; cases ht
    | some b =>
      rw [h1] at hp
      rw [h2] at ht
      have hp2 : a.n = p := Option.some.inj hp
      have ht2 : b.n = t := Option.some.inj ht
      obtain ⟨l1, e1⟩ := List.getElem?_eq_some_iff.1 h1
      obtain ⟨l2, e2⟩ := List.getElem?_eq_some_iff.1 h2
      have := List.pairwise_iff_getElem.1 h j (j + 1) (by rw [List.length_map]; exact l1) (by rw [List.length_map]; exact l2) (by omega)
      rw [List.getElem_map, List.getElem_map, e1, e2] at this
      rw [← hp2, ← ht2]
      exact this
theorem butM_ys (us : List Nm) (s : List UInt8) : ysOf (butM us s) = notY (ysOf us) s := by
  unfold butM notY ysOf
  rw [List.filter_map]
  rfl
/-- A name is set in both. -/
theorem SPI.set {w W W1 W2 : World} {rb A N N2 k : Nat} {u uv u2 uv2 : Value} {zs us zs2 : List Nm} {e : Nm} (h : SPI w W rb A N u zs uv us k) (hsl : Sl w numC 1 e.va e.x.a ∧ Sl w strC 1 e.vw e.x.w) (hl : lightB e.x = true ∧ spMay e.n = true)
    (h1 : Below W.heap.size W W1) (ho : Own W1 W.heap.size 7 uv2 (butM us e.n ++ [e]).length ((butM us e.n ++ [e]).flatMap namC)) (hd : ∀ j, uv2.ownBlock = some j → W.heap.size ≤ j)
    (hr : RegAt W2 A N2 rb u2 zs2) (hn : N ≤ N2) (hy : ysOf zs2 = setY (ysOf zs) e.n e.x) (hk : Keeps (fun j => j = rb ∨ (u.ownBlock = some j ∧ A ≤ j ∧ j < N)) W1 W2) (hat : u2.ownBlock = u.ownBlock ∨ ∀ j, u2.ownBlock = some j → W1.heap.size ≤ j) : SPI w W2 rb A N2 u2 zs2 uv2 (butM us e.n ++ [e]) (k + 1) := by
  have hz := h.z
  have hs := h.b.size
  have hs1 := h1.size
  have hnw := h.r.nw
  have hrl := h.r.bx.lt
  have hlt := ho.lt
  refine ⟨hr, (ho.mono hs).keeps hk (fun j hj _ f => ?_), fun j hj => ?_, fun g hg => ?_, fun g hg => ?_, ?_, below_keeps (below_then h.b h1) hk (fun j f => ?_), hz, ?_⟩
  · have := hd j hj; rcases f with f | ⟨_, f⟩ <;> omega
  · have h2 := hd j hj
    have h3 := hlt j hj
    refine ⟨by omega, fun q => ?_⟩
    rcases hat with e1 | e1
    · rw [e1] at q; have := h.r.s j q; omega
    · have := e1 j q; omega
  · rcases List.mem_append.1 hg with hg | hg
    · exact h.s g (List.mem_filter.1 hg).1
    · rw [List.mem_singleton] at hg; subst hg; exact hsl
  · rcases List.mem_append.1 hg with hg | hg
    · exact h.l g (List.mem_filter.1 hg).1
    · rw [List.mem_singleton] at hg; subst hg; exact hl
  · rw [hy]
    have e1 : ysOf (butM us e.n ++ [e]) = notY (ysOf us) e.n ++ [(e.n, e.x)] := by
      rw [← butM_ys]
      unfold ysOf
      rw [List.map_append]
      rfl
    rw [e1]
    exact ((notY_perm h.p e.n).append_right _).trans (set_perm (rises_ys.1 h.r.r) e.n e.x).symm
  · have := h.r.la; rcases f with f | ⟨_, f⟩ <;> omega
  · have := butM_le us e.n
    have := h.k
    rw [List.length_append, List.length_singleton]
    omega
/-- A name is taken away in both. -/
theorem SPI.remove {w W W1 W2 : World} {rb A N N2 k : Nat} {u uv u2 uv2 : Value} {zs us zs2 : List Nm} {n : List UInt8} (h : SPI w W rb A N u zs uv us k)
    (hr : RegAt W1 A N2 rb u2 zs2) (hn : N ≤ N2) (hy : ysOf zs2 = delY (ysOf zs) n) (hk : Keeps (fun j => j = rb ∨ (u.ownBlock = some j ∧ A ≤ j ∧ j < N)) W W1)
    (ho : Own W2 W1.heap.size 7 uv2 (butM us n).length ((butM us n).flatMap namC)) (hd : uv2.ownBlock = none ∨ ∀ j, uv2.ownBlock = some j → W1.heap.size ≤ j) (h2 : Below W1.heap.size W1 W2) : SPI w W2 rb A N2 u2 zs2 uv2 (butM us n) (k + 1) := by
  have hz := h.z
  have hs := h.b.size
  have hs1 := hk.size
  have hnw := hr.nw
  have hrl := hr.bx.lt
  refine ⟨hr.below h2, ho.mono (by omega), fun j hj => ?_, fun g hg => h.s g (List.mem_filter.1 hg).1, fun g hg => h.l g (List.mem_filter.1 hg).1, ?_, below_then (below_keeps h.b hk (fun j f => ?_)) h2, hz, ?_⟩
  · rcases hd with e | e
    · rw [e] at hj; cases hj
    · have h3 := e j hj
      exact ⟨by omega, fun q => by have := hr.s j q; omega⟩
  · rw [hy, butM_ys, del_perm (rises_ys.1 h.r.r)]
    exact notY_perm h.p n
  · have := h.r.la; rcases f with f | ⟨_, f⟩ <;> omega
  · have := butM_le us n
    have := h.k
    omega
theorem SPI.kept_row {w W W1 : World} {rb A N k : Nat} {u uv : Value} {zs us : List Nm} (h : SPI w W rb A N u zs uv us k) (hk : Keeps (fun j => j = rb ∨ (u.ownBlock = some j ∧ A ≤ j ∧ j < N)) W W1) : Own W1 w.heap.size 7 uv us.length (us.flatMap namC) :=
  h.o.keeps hk fun j hj _ f => by
    have := h.d j hj
    rcases f with f | ⟨f, _⟩
    · exact this.1 f
    · exact this.2 f
/-- Nothing is set in either. -/
theorem SPI.kept {w W W1 W2 : World} {rb A N N2 k : Nat} {u uv u2 : Value} {zs us zs2 : List Nm} (h : SPI w W rb A N u zs uv us k) (h1 : Below W.heap.size W W1)
    (hr : RegAt W2 A N2 rb u2 zs2) (hn : N ≤ N2) (hy : ysOf zs2 = ysOf zs) (hk : Keeps (fun j => j = rb ∨ (u.ownBlock = some j ∧ A ≤ j ∧ j < N)) W1 W2) (hat : u2.ownBlock = u.ownBlock ∨ ∀ j, u2.ownBlock = some j → W1.heap.size ≤ j) : SPI w W2 rb A N2 u2 zs2 uv us (k + 1) := by
  have h' := h.below h1
  have hz := h.z
  have hs := h'.b.size
  have hlt := h.o.lt
  have hs1 := h1.size
  refine ⟨hr, h'.kept_row hk, fun j hj => ⟨(h.d j hj).1, fun q => ?_⟩, h.s, h.l, by rw [hy]; exact h.p, below_keeps h'.b hk (fun j f => ?_), hz, by have := h.k; omega⟩
  · rcases hat with e1 | e1
    · rw [e1] at q; exact (h.d j hj).2 q
    · have := e1 j q
      have := hlt j hj
      omega
  · have := h.r.la; rcases f with f | ⟨_, f⟩ <;> omega
theorem SPI.more {w W : World} {rb A N k : Nat} {u uv : Value} {zs us : List Nm} (h : SPI w W rb A N u zs uv us k) : SPI w W rb A N u zs uv us (k + 1) :=
  ⟨h.r, h.o, h.d, h.s, h.l, h.p, h.b, h.z, by have := h.k; omega⟩
end Go.Proofs.YtljinmfkogmmlaaGreat.Spc
