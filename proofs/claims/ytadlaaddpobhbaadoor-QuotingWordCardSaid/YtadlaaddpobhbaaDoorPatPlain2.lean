/-
  How a pattern is read: classes, members, sets, atoms; sets of bytes as four words. Plain laws. No program in sight.
-/
import Derived.Test.YtadlaaddpobhbaaDoorPatPlain
import Derived.Lib.IndexMore
namespace Go.Proofs.YtadlaaddpobhbaaDoor.Pat
/-! Words. -/
def bsum (g : Nat → Bool) : Nat → Nat
  | 0 => 0
  | n + 1 => bsum g n ||| if g n then 2 ^ n else 0
theorem bsum_lt (g : Nat → Bool) : ∀ n, bsum g n < 2 ^ n
  | 0 => by simp [bsum]
  | n + 1 => by
    have h := bsum_lt g n
    unfold bsum
    refine Nat.or_lt_two_pow (Nat.lt_of_lt_of_le h (Nat.pow_le_pow_right (by omega) (by omega))) ?_
    split
    · exact Nat.pow_lt_pow_right (by omega) (by omega)
    · exact Nat.pow_pos (by omega)
theorem testBit_bsum (g : Nat → Bool) (j : Nat) : ∀ n, (bsum g n).testBit j = (decide (j < n) && g j)
  | 0 => by simp [bsum]
  | n + 1 => by
    unfold bsum
    rw [Nat.testBit_or, testBit_bsum g j n]
    by_cases hj : j = n
    · subst hj
      cases hg : g j <;> simp
    · have h0 : (if g n = true then 2 ^ n else 0).testBit j = false := by
        split
        · rw [Nat.testBit_two_pow]; simpa using fun h => hj h.symm
        · simp
      rw [h0, Bool.or_false]
      by_cases h1 : j < n
      · rw [decide_eq_true h1, decide_eq_true (by omega)]
      · rw [decide_eq_false h1, decide_eq_false (by omega)]
/-- The i-th word of a set of bytes. -/
def wordOf (f : UInt8 → Bool) (i : Nat) : Nat := bsum (fun j => f (UInt8.ofNat (64 * i + j))) 64
theorem wordOf_lt (f : UInt8 → Bool) (i : Nat) : wordOf f i < 18446744073709551616 := bsum_lt _ 64
theorem testBit_wordOf (f : UInt8 → Bool) (i j : Nat) (h : j < 64) : (wordOf f i).testBit j = f (UInt8.ofNat (64 * i + j)) := by
  unfold wordOf
  rw [testBit_bsum, decide_eq_true h, Bool.true_and]
theorem wordOf_hi (f : UInt8 → Bool) (i j : Nat) (h : 64 ≤ j) : (wordOf f i).testBit j = false := by
  unfold wordOf
  rw [testBit_bsum, decide_eq_false (by omega), Bool.false_and]
theorem word_ext {n : Nat} {f : UInt8 → Bool} {i : Nat} (h0 : ∀ j, 64 ≤ j → n.testBit j = false) (h : ∀ j, j < 64 → n.testBit j = f (UInt8.ofNat (64 * i + j))) : n = wordOf f i := by
  refine Nat.eq_of_testBit_eq fun j => ?_
  by_cases hj : j < 64
  · rw [h j hj, testBit_wordOf f i j hj]
  · rw [h0 j (by omega), wordOf_hi f i j (by omega)]
theorem word_zero (i : Nat) : wordOf (fun _ => false) i = 0 := (word_ext (n := 0) (by simp) (by simp)).symm
theorem byte_at (b : UInt8) : UInt8.ofNat (64 * (b.toNat / 64) + b.toNat % 64) = b := by
  rw [Nat.div_add_mod]; simp
theorem ofNat_at {b : UInt8} {i j : Nat} (hi : i < 4) (hj : j < 64) (h : UInt8.ofNat (64 * i + j) = b) : i = b.toNat / 64 ∧ j = b.toNat % 64 := by
  subst h
  have : (UInt8.ofNat (64 * i + j)).toNat = 64 * i + j := by simp; omega
  rw [this]; omega
theorem word_add (f : UInt8 → Bool) (b : UInt8) : wordOf f (b.toNat / 64) ||| 2 ^ (b.toNat % 64) = wordOf (fun c => f c || c == b) (b.toNat / 64) := by
  have hb := b.toNat_lt
  refine word_ext (fun j hj => ?_) (fun j hj => ?_)
  · rw [Nat.testBit_or, wordOf_hi _ _ _ hj, Nat.testBit_two_pow]; simp; omega
  · rw [Nat.testBit_or, testBit_wordOf _ _ _ hj, Nat.testBit_two_pow]
    congr 1
    rw [Bool.eq_iff_iff, decide_eq_true_eq, beq_iff_eq]
    constructor
    · intro h; subst h; exact byte_at b
    · intro h; exact (ofNat_at (by omega) hj h).2.symm
theorem word_same (f : UInt8 → Bool) (b : UInt8) (i : Nat) (hi : i < 4) (h : i ≠ b.toNat / 64) : wordOf f i = wordOf (fun c => f c || c == b) i := by
  refine word_ext (fun j hj => wordOf_hi _ _ _ hj) (fun j hj => ?_)
  rw [testBit_wordOf _ _ _ hj]
  have : (UInt8.ofNat (64 * i + j) == b) = false := by
    rw [beq_eq_false_iff_ne]; intro e; exact h (ofNat_at hi hj e).1
  rw [this, Bool.or_false]
theorem word_has (f : UInt8 → Bool) (b : UInt8) : wordOf f (b.toNat / 64) / 2 ^ (b.toNat % 64) % 2 = if f b then 1 else 0 := by
  have h := testBit_wordOf f (b.toNat / 64) (b.toNat % 64) (by omega)
  rw [byte_at, Nat.testBit_eq_decide_div_mod_eq] at h
  cases hf : f b with
  | true => rw [hf] at h; simpa using h
  | false => rw [hf] at h; simp at h ⊢; omega
theorem word_not (f : UInt8 → Bool) (i : Nat) : 18446744073709551615 ^^^ wordOf f i = wordOf (fun c => !f c) i := by
  refine word_ext (fun j hj => ?_) (fun j hj => ?_)
  · rw [Nat.testBit_xor, wordOf_hi _ _ _ hj, show (18446744073709551615 : Nat) = 2 ^ 64 - 1 by rfl, Nat.testBit_two_pow_sub_one]; simp; omega
  · rw [Nat.testBit_xor, testBit_wordOf _ _ _ hj, show (18446744073709551615 : Nat) = 2 ^ 64 - 1 by rfl, Nat.testBit_two_pow_sub_one, decide_eq_true hj]; simp
/-! Classes. -/
def btw (b : UInt8) (lo hi : Int) : Bool := decide (lo ≤ (b.toNat : Int)) && decide ((b.toNat : Int) ≤ hi)
def alnumB (b : UInt8) : Bool := btw b 97 122 || btw b 65 90 || btw b 48 57
def nUpper : List UInt8 := [117, 112, 112, 101, 114]
def nLower : List UInt8 := [108, 111, 119, 101, 114]
def nAlpha : List UInt8 := [97, 108, 112, 104, 97]
def nDigit : List UInt8 := [100, 105, 103, 105, 116]
def nAlnum : List UInt8 := [97, 108, 110, 117, 109]
def nXdigit : List UInt8 := [120, 100, 105, 103, 105, 116]
def nBlank : List UInt8 := [98, 108, 97, 110, 107]
def nSpace : List UInt8 := [115, 112, 97, 99, 101]
def nCntrl : List UInt8 := [99, 110, 116, 114, 108]
def nPrint : List UInt8 := [112, 114, 105, 110, 116]
def nGraph : List UInt8 := [103, 114, 97, 112, 104]
def nPunct : List UInt8 := [112, 117, 110, 99, 116]
/-- Is a byte one of the class of this name? none: there is no such class. -/
def clsOf (name : List UInt8) (b : UInt8) : Option Bool :=
  if name == nUpper then some (btw b 65 90) else
  if name == nLower then some (btw b 97 122) else
  if name == nAlpha then some (alnumB b && decide (57 < (b.toNat : Int))) else
  if name == nDigit then some (btw b 48 57) else
  if name == nAlnum then some (alnumB b) else
  if name == nXdigit then some (btw b 48 57 || btw b 97 102 || btw b 65 70) else
  if name == nBlank then some ((b.toNat : Int) == 9 || (b.toNat : Int) == 32) else
  if name == nSpace then some (btw b 9 13 || (b.toNat : Int) == 32) else
  if name == nCntrl then some (decide ((b.toNat : Int) < 32) || (b.toNat : Int) == 127) else
  if name == nPrint then some (btw b 32 126) else
  if name == nGraph then some (btw b 33 126) else
  if name == nPunct then some (btw b 33 126 && !alnumB b) else none
def inCls (name : List UInt8) (b : UInt8) : Bool := (clsOf name b).getD false
def known (name : List UInt8) : Bool := (clsOf name 0).isSome
/-- The text of k bytes behind the sign of a class. -/
def nmK (p : List UInt8) (n k : Nat) : List UInt8 := (p.take (n + 2 + k)).drop (n + 2)
/-- Is a class of k bytes named at a place? -/
def clsK (p : List UInt8) (n k : Nat) : Bool := decide (n + k + 4 ≤ p.length) && ((p.take (n + 2)).drop n == [91, 58]) && ((p.take (n + 4 + k)).drop (n + 2 + k) == [58, 93]) && known (nmK p n k)
/-- The name of the class that is named at a place. -/
def clsAt (p : List UInt8) (n : Nat) : Option (List UInt8) :=
  if clsK p n 5 = true then some (nmK p n 5) else if clsK p n 6 = true then some (nmK p n 6) else none
theorem clsK_len {p : List UInt8} {n k : Nat} (h : clsK p n k = true) : n + k + 4 ≤ p.length := by
  simp only [clsK, Bool.and_eq_true, decide_eq_true_eq] at h
  exact h.1.1.1
theorem nmK_len {p : List UInt8} {n k : Nat} (h : n + k + 4 ≤ p.length) : (nmK p n k).length = k := by unfold nmK; simp; omega
/-- The place behind a backslash, where one stands. -/
def esc (p : List UInt8) (n : Nat) : Nat := if p[n]? = some 92 then n + 1 else n
theorem esc_yes {p : List UInt8} {n : Nat} (h : n < p.length) (hc : p[n] = 92) : esc p n = n + 1 := by
  unfold esc; rw [List.getElem?_eq_getElem h, hc]; rfl
theorem esc_no {p : List UInt8} {n : Nat} (h : n < p.length) (hc : ¬ p[n] = 92) : esc p n = n := by
  unfold esc; rw [List.getElem?_eq_getElem h, if_neg]; simpa using hc
theorem esc_over {p : List UInt8} {n : Nat} (h : p.length ≤ n) : esc p n = n := by
  unfold esc; rw [List.getElem?_eq_none h]; rfl
theorem esc_le (p : List UInt8) (n : Nat) : n ≤ esc p n ∧ esc p n ≤ n + 1 := by unfold esc; split <;> omega
def dash (p : List UInt8) (m : Nat) : Bool := decide (m + 1 < p.length ∧ p[m]? = some 45 ∧ p[m + 1]? ≠ some 93)
theorem dash_cases {p : List UInt8} {m : Nat} : (dash p m = false ∧ ¬ m + 1 < p.length) ∨ (dash p m = false ∧ ∃ h : m < p.length, m + 1 < p.length ∧ ¬ p[m] = 45) ∨
    (dash p m = false ∧ ∃ (h : m < p.length) (h1 : m + 1 < p.length), p[m] = 45 ∧ p[m + 1] = 93) ∨ (dash p m = true ∧ ∃ (h : m < p.length) (h1 : m + 1 < p.length), p[m] = 45 ∧ ¬ p[m + 1] = 93) := by
  by_cases h1 : m + 1 < p.length
  · have h0 : m < p.length := by omega
    have e0 : p[m]? = some p[m] := List.getElem?_eq_getElem h0
    have e1 : p[m + 1]? = some p[m + 1] := List.getElem?_eq_getElem h1
    by_cases h2 : p[m] = 45
    · by_cases h3 : p[m + 1] = 93
      · exact .inr (.inr (.inl ⟨decide_eq_false (fun h => h.2.2 (by rw [e1, h3])), h0, h1, h2, h3⟩))
      · exact .inr (.inr (.inr ⟨decide_eq_true ⟨h1, by rw [e0, h2], by rw [e1]; simpa using h3⟩, h0, h1, h2, h3⟩))
    · exact .inr (.inl ⟨decide_eq_false (fun h => by have := h.2.1; rw [e0] at this; exact h2 (by simpa using this)), h0, h1, h2⟩)
  · exact .inl ⟨decide_eq_false (fun h => h1 h.1), h1⟩
/-- The member at a place, and the place behind it. -/
def memAt (p : List UInt8) (n : Nat) : Option ((UInt8 → Bool) × Nat) :=
  match clsAt p n with
  | some nm => some (inCls nm, n + nm.length + 4)
  | none =>
    match p[esc p n]? with
    | none => none
    | some lo =>
      if dash p (esc p n + 1) = true then
        match p[esc p (esc p n + 2)]? with
        | none => none
        | some hi => some (fun b => btw b lo.toNat hi.toNat, esc p (esc p n + 2) + 1)
      else some (fun b => b == lo, esc p n + 1)
theorem clsAt_end {p : List UInt8} {n : Nat} {nm : List UInt8} (h : clsAt p n = some nm) : n + nm.length + 4 ≤ p.length := by
  unfold clsAt at h
  split at h
  · rename_i hk
    have := clsK_len hk
    cases h; rw [nmK_len this]; omega
  · split at h
    · rename_i hk
      have := clsK_len hk
      cases h; rw [nmK_len this]; omega
    · cases h
/-- The names have five or six bytes, and none is a colon. -/
theorem known_len {name : List UInt8} (h : known name = true) : (name.length = 5 ∨ name.length = 6) ∧ (58 : UInt8) ∉ name := by
  have hn : name = nUpper ∨ name = nLower ∨ name = nAlpha ∨ name = nDigit ∨ name = nAlnum ∨ name = nXdigit ∨ name = nBlank ∨ name = nSpace ∨ name = nCntrl ∨ name = nPrint ∨ name = nGraph ∨ name = nPunct := by
    apply Classical.byContradiction
    intro hc
    simp only [not_or] at hc
    obtain ⟨h1, h2, h3, h4, h5, h6, h7, h8, h9, h10, h11, h12⟩ := hc
    simp [known, clsOf, h1, h2, h3, h4, h5, h6, h7, h8, h9, h10, h11, h12] at h
  rcases hn with rfl | rfl | rfl | rfl | rfl | rfl | rfl | rfl | rfl | rfl | rfl | rfl <;> decide
theorem clsAt_head {p : List UInt8} {n : Nat} (h : (p.take (n + 2)).drop n ≠ [91, 58]) : clsAt p n = none := by
  unfold clsAt clsK
  have : ((p.take (n + 2)).drop n == [91, 58]) = false := by simpa using h
  simp [this]
theorem sub_take {p : List UInt8} (i j : Nat) : (p.take j).drop i = (p.drop i).take (j - i) := by rw [List.drop_take]
theorem clsK_occ {p : List UInt8} {n k : Nat} (h : clsK p n k = true) : Lib.index (p.drop (n + 2)) [58, 93] = k := by
  have hl := clsK_len h
  have hnl := nmK_len hl
  simp only [clsK, Bool.and_eq_true, decide_eq_true_eq, beq_iff_eq] at h
  obtain ⟨⟨⟨_, h1⟩, h2⟩, h3⟩ := h
  obtain ⟨_, h4⟩ := known_len h3
  refine Lib.index_first (by simp; omega) ?_ (fun j hj => ?_)
  · rw [Lib.occAt_iff_take _ _ _ (by simp; omega), List.drop_drop, beq_iff_eq]
    rw [sub_take, show n + 4 + k - (n + 2 + k) = 2 by omega] at h2
    exact h2
  · rw [Bool.eq_false_iff]
    intro ho
    have hx := Lib.occAt_head rfl ho
    refine h4 ?_
    have hg : (nmK p n k)[j]? = some 58 := by
      unfold nmK
      rw [sub_take, List.getElem?_take, if_pos (by omega)]
      exact hx
    exact List.mem_of_getElem? hg
theorem clsAt_noidx {p : List UInt8} {n : Nat} (h : Lib.index (p.drop (n + 2)) [58, 93] < 0) : clsAt p n = none := by
  have no (k : Nat) : ¬ clsK p n k = true := fun hk => by have := clsK_occ hk; omega
  unfold clsAt
  rw [if_neg (no 5), if_neg (no 6)]
theorem clsAt_idx {p : List UInt8} {n k : Nat} (h1 : (p.take (n + 2)).drop n = [91, 58]) (h : Lib.index (p.drop (n + 2)) [58, 93] = k) (hk : known (nmK p n k) = true) : clsAt p n = some (nmK p n k) := by
  have hr := Lib.index_room (p.drop (n + 2)) [58, 93] (by omega)
  rw [h] at hr
  have hl : n + k + 4 ≤ p.length := by simp at hr; omega
  have hnl := nmK_len hl
  have hc : clsK p n k = true := by
    simp only [clsK, Bool.and_eq_true, decide_eq_true_eq, beq_iff_eq]
    refine ⟨⟨⟨hl, h1⟩, ?_⟩, hk⟩
    have hs := Lib.index_spec (p.drop (n + 2)) [58, 93]
    rcases hs with ⟨hs, _⟩ | ⟨i, hi, _, ho, _⟩
    · omega
    · have : i = k := by omega
      subst this
      rw [Lib.occAt_iff_take _ _ _ (by simp; omega), List.drop_drop, beq_iff_eq] at ho
      rw [sub_take, show n + 4 + i - (n + 2 + i) = 2 by omega]
      exact ho
  have h56 := (known_len hk).1
  rw [hnl] at h56
  have only (j : Nat) (hj : clsK p n j = true) : j = k := by have := clsK_occ hj; omega
  unfold clsAt
  rcases h56 with rfl | rfl
  · rw [if_pos hc]
  · rw [if_neg (fun h5 => by have := only 5 h5; omega), if_pos hc]
theorem clsAt_unknown {p : List UInt8} {n k : Nat} (h : Lib.index (p.drop (n + 2)) [58, 93] = k) (hk : known (nmK p n k) = false) : clsAt p n = none := by
  have no (j : Nat) : ¬ clsK p n j = true := fun hj => by
    have := clsK_occ hj
    have e : j = k := by omega
    subst e
    simp only [clsK, Bool.and_eq_true] at hj
    rw [hk] at hj
    exact absurd hj.2 (by simp)
  unfold clsAt
  rw [if_neg (no 5), if_neg (no 6)]
theorem known_any (name : List UInt8) : (List.range 128).any (fun b => inCls name (UInt8.ofNat b)) = known name := by
  by_cases hn : name = nUpper ∨ name = nLower ∨ name = nAlpha ∨ name = nDigit ∨ name = nAlnum ∨ name = nXdigit ∨ name = nBlank ∨ name = nSpace ∨ name = nCntrl ∨ name = nPrint ∨ name = nGraph ∨ name = nPunct
  · rcases hn with rfl | rfl | rfl | rfl | rfl | rfl | rfl | rfl | rfl | rfl | rfl | rfl <;> decide +kernel
  · simp only [not_or] at hn
    obtain ⟨h1, h2, h3, h4, h5, h6, h7, h8, h9, h10, h11, h12⟩ := hn
    simp [inCls, known, clsOf, h1, h2, h3, h4, h5, h6, h7, h8, h9, h10, h11, h12]
theorem hex_in (b : UInt8) : [65, 66, 67, 68, 69, 70, 97, 98, 99, 100, 101, 102].contains b = (btw b 97 102 || btw b 65 70) := by
  have h : ∀ n : Fin 256, [65, 66, 67, 68, 69, 70, 97, 98, 99, 100, 101, 102].contains (UInt8.ofNat n.val) = (btw (UInt8.ofNat n.val) 97 102 || btw (UInt8.ofNat n.val) 65 70) := by decide +kernel
  have := h ⟨b.toNat, b.toNat_lt⟩
  simpa using this
theorem memAt_end {p : List UInt8} {n e : Nat} {g : UInt8 → Bool} (h : memAt p n = some (g, e)) : n < e ∧ e ≤ p.length := by
  unfold memAt at h
  split at h
  · rename_i nm hc
    have := clsAt_end hc
    cases h; omega
  · have h1 := esc_le p n
    split at h
    · cases h
    · rename_i lo hlo
      have hl := (List.getElem?_eq_some_iff.1 hlo).1
      split at h
      · have h2 := esc_le p (esc p n + 2)
        split at h
        · cases h
        · rename_i hi hhi
          have hl := (List.getElem?_eq_some_iff.1 hhi).1
          cases h; omega
      · cases h; omega
/-- The set from a place on: the members' bytes, and the place behind it. -/
def setFrom (p : List UInt8) (first : Nat) : Nat → Nat → (UInt8 → Bool) → Option ((UInt8 → Bool) × Nat)
  | 0, _, _ => none
  | q + 1, n, f =>
    if p.length ≤ n then none else
    if p[n]? = some 93 ∧ n ≠ first then some (f, n + 1) else
    match memAt p n with
    | none => none
    | some (g, e) => setFrom p first q e (fun b => f b || g b)
theorem setFrom_fuel (p : List UInt8) (first : Nat) : ∀ (q1 q2 n : Nat) (f : UInt8 → Bool), p.length < q1 + n → p.length < q2 + n → setFrom p first q1 n f = setFrom p first q2 n f
  | 0, 0, _, _, _, _ => rfl
  | 0, q2 + 1, n, f, h, _ => by unfold setFrom; rw [if_pos (by omega)]
  | q1 + 1, 0, n, f, _, h => by unfold setFrom; rw [if_pos (by omega)]
  | q1 + 1, q2 + 1, n, f, h1, h2 => by
    unfold setFrom
    split
    · rfl
    · split
      · rfl
      · cases hm : memAt p n with
        | none => rfl
        | some x =>
          obtain ⟨g, e⟩ := x
          have := memAt_end hm
          exact setFrom_fuel p first q1 q2 e _ (by omega) (by omega)
def setR (p : List UInt8) (first n : Nat) (f : UInt8 → Bool) : Option ((UInt8 → Bool) × Nat) := setFrom p first (p.length + 1) n f
theorem setR_over {p : List UInt8} {first n : Nat} {f : UInt8 → Bool} (h : p.length ≤ n) : setR p first n f = none := by
  unfold setR setFrom; rw [if_pos h]
theorem setR_end {p : List UInt8} {first n : Nat} {f : UInt8 → Bool} (h1 : p[n]? = some 93) (h2 : n ≠ first) : setR p first n f = some (f, n + 1) := by
  have := (List.getElem?_eq_some_iff.1 h1).1
  unfold setR setFrom; rw [if_neg (by omega), if_pos ⟨h1, h2⟩]
theorem setR_none {p : List UInt8} {first n : Nat} {f : UInt8 → Bool} (h : n < p.length) (h1 : ¬ (p[n]? = some 93 ∧ n ≠ first)) (h2 : memAt p n = none) : setR p first n f = none := by
  unfold setR setFrom; rw [if_neg (by omega), if_neg h1, h2]
theorem setR_some {p : List UInt8} {first n e : Nat} {f g : UInt8 → Bool} (h : n < p.length) (h1 : ¬ (p[n]? = some 93 ∧ n ≠ first)) (h2 : memAt p n = some (g, e)) : setR p first n f = setR p first e (fun b => f b || g b) := by
  unfold setR
  conv => lhs; unfold setFrom
  rw [if_neg (by omega), if_neg h1, h2]
  have := memAt_end h2
  exact setFrom_fuel p first _ _ _ _ (by omega) (by omega)
theorem setFrom_le {p : List UInt8} {first : Nat} : ∀ {q n : Nat} {f g : UInt8 → Bool} {e : Nat}, setFrom p first q n f = some (g, e) → n < e ∧ e ≤ p.length
  | 0, _, _, _, _, h => by cases h
  | q + 1, n, f, g, e, h => by
    unfold setFrom at h
    split at h
    · cases h
    · split at h
      · cases h; omega
      · split at h
        · cases h
        · rename_i g2 e2 hm
          have h1 := memAt_end hm
          have h2 := setFrom_le h
          omega
/-- The set at a place. -/
def brAt (p : List UInt8) (n : Nat) : Option ((UInt8 → Bool) × Nat) :=
  if p[n + 1]? = some 33 then (setR p (n + 2) (n + 2) (fun _ => false)).map fun x => (fun b => !x.1 b, x.2) else setR p (n + 1) (n + 1) (fun _ => false)
theorem brAt_end {p : List UInt8} {n e : Nat} {g : UInt8 → Bool} (h : brAt p n = some (g, e)) : n + 1 < e ∧ e ≤ p.length := by
  unfold brAt at h
  split at h
  · cases hs : setR p (n + 2) (n + 2) (fun _ => false) with
    | none => rw [hs] at h; cases h
    | some x =>
      rw [hs] at h
      simp only [Option.map_some, Option.some.injEq, Prod.mk.injEq] at h
      have := setFrom_le (g := x.1) (e := x.2) hs
      omega
  · have := setFrom_le h
    omega
/-- The atom at a place, of the byte c that stands there, and the place behind it. -/
def atomAt (p : List UInt8) (n : Nat) (c : UInt8) : At × Nat :=
  if c = 92 then match p[n + 1]? with
    | some d => (.byte d, n + 2)
    | none => (.byte c, n + 1)
  else if c = 63 then (.one, n + 1)
  else if c = 42 then (.many, n + 1)
  else if c = 91 then match brAt p n with
    | some (f, e) => (.set f, e)
    | none => (.byte c, n + 1)
  else (.byte c, n + 1)
theorem atomAt_end {p : List UInt8} {n : Nat} {c : UInt8} (h : p[n]? = some c) : n < (atomAt p n c).2 ∧ (atomAt p n c).2 ≤ p.length := by
  have h0 := (List.getElem?_eq_some_iff.1 h).1
  unfold atomAt
  split
  · split
    · rename_i hd
      have := (List.getElem?_eq_some_iff.1 hd).1
      dsimp only; omega
    · dsimp only; omega
  · split
    · dsimp only; omega
    · split
      · dsimp only; omega
      · split
        · split
          · rename_i hb
            have := brAt_end hb
            dsimp only; omega
          · dsimp only; omega
        · dsimp only; omega
def parseN (p : List UInt8) : Nat → Nat → List At
  | 0, _ => []
  | q + 1, n => match p[n]? with
    | none => []
    | some c => (atomAt p n c).1 :: parseN p q (atomAt p n c).2
theorem parseN_fuel (p : List UInt8) : ∀ (q1 q2 n : Nat), p.length ≤ q1 + n → p.length ≤ q2 + n → parseN p q1 n = parseN p q2 n
  | 0, 0, _, _, _ => rfl
  | 0, q2 + 1, n, h, _ => by unfold parseN; rw [List.getElem?_eq_none (by omega)]
  | q1 + 1, 0, n, _, h => by unfold parseN; rw [List.getElem?_eq_none (by omega)]
  | q1 + 1, q2 + 1, n, h1, h2 => by
    unfold parseN
    cases hc : p[n]? with
    | none => rfl
    | some c =>
      have := atomAt_end hc
      dsimp only
      rw [parseN_fuel p q1 q2 (atomAt p n c).2 (by omega) (by omega)]
/-- The atoms from a place on. -/
def parseFrom (p : List UInt8) (n : Nat) : List At := parseN p p.length n
def parse (p : List UInt8) : List At := parseFrom p 0
theorem parseFrom_end {p : List UInt8} {n : Nat} (h : p.length ≤ n) : parseFrom p n = [] := by
  unfold parseFrom
  cases hp : p.length with
  | zero => rfl
  | succ q => unfold parseN; rw [List.getElem?_eq_none (by omega)]
theorem parseFrom_step {p : List UInt8} {n : Nat} {c : UInt8} (h : p[n]? = some c) : parseFrom p n = (atomAt p n c).1 :: parseFrom p (atomAt p n c).2 := by
  have h0 := (List.getElem?_eq_some_iff.1 h).1
  have h1 := atomAt_end h
  unfold parseFrom
  rw [parseN_fuel p p.length (p.length + 1) n (by omega) (by omega)]
  conv => lhs; unfold parseN
  rw [h]
theorem parseN_len (p : List UInt8) : ∀ q n, (parseN p q n).length ≤ q
  | 0, _ => by simp [parseN]
  | q + 1, n => by
    unfold parseN
    split
    · simp
    · have := parseN_len p q; simp; exact this _
theorem parse_len (p : List UInt8) : (parse p).length ≤ p.length := parseN_len p _ _
/-! Quoted texts. -/
def special (c : UInt8) : Bool := c == 92 || c == 42 || c == 63 || c == 91
def quoteC (c : UInt8) : List UInt8 := if special c then [92, c] else [c]
def quote (s : List UInt8) : List UInt8 := s.flatMap quoteC
theorem quote_cons (c : UInt8) (s : List UInt8) : quote (c :: s) = quoteC c ++ quote s := rfl
theorem quote_len (s : List UInt8) : (quote s).length ≤ 2 * s.length := by
  induction s with
  | nil => simp [quote]
  | cons c s ih =>
    rw [quote_cons, List.length_append, List.length_cons]
    have : (quoteC c).length ≤ 2 := by unfold quoteC; split <;> simp
    omega
theorem parse_quote (s : List UInt8) : ∀ (x y : List UInt8), parseFrom (x ++ quote s ++ y) x.length = s.map .byte ++ parseFrom (x ++ quote s ++ y) (x.length + (quote s).length) := by
  induction s with
  | nil => intro x y; simp [quote]
  | cons c s ih =>
    intro x y
    rw [quote_cons]
    unfold quoteC
    by_cases hs : special c = true
    · rw [if_pos hs]
      have e : x ++ ([92, c] ++ quote s) ++ y = (x ++ [92, c]) ++ quote s ++ y := by simp
      have h0 : (x ++ ([92, c] ++ quote s) ++ y)[x.length]? = some 92 := by simp
      have h1 : (x ++ ([92, c] ++ quote s) ++ y)[x.length + 1]? = some c := by simp
      have ha : atomAt (x ++ ([92, c] ++ quote s) ++ y) x.length 92 = (.byte c, x.length + 2) := by
        unfold atomAt; rw [if_pos rfl, h1]
      rw [parseFrom_step h0, ha]
      dsimp only
      have := ih (x ++ [92, c]) y
      rw [e, show x.length + 2 = (x ++ [92, c]).length by simp, this]
      simp [Nat.add_assoc, Nat.add_comm 2]
    · rw [if_neg hs]
      have e : x ++ ([c] ++ quote s) ++ y = (x ++ [c]) ++ quote s ++ y := by simp
      have h0 : (x ++ ([c] ++ quote s) ++ y)[x.length]? = some c := by simp
      have ha : atomAt (x ++ ([c] ++ quote s) ++ y) x.length c = (.byte c, x.length + 1) := by
        simp only [special, Bool.or_eq_true, beq_iff_eq, not_or] at hs
        unfold atomAt; rw [if_neg hs.1.1.1, if_neg hs.1.2, if_neg hs.1.1.2, if_neg hs.2]
      rw [parseFrom_step h0, ha]
      dsimp only
      have := ih (x ++ [c]) y
      rw [e, show x.length + 1 = (x ++ [c]).length by simp, this]
      simp [Nat.add_assoc, Nat.add_comm 1]
theorem parse_quoted (s : List UInt8) : parse (quote s) = s.map .byte := by
  have := parse_quote s [] []
  simp only [List.nil_append, List.append_nil, List.length_nil, Nat.zero_add] at this
  unfold parse
  rw [this, parseFrom_end (Nat.le_refl _), List.append_nil]
theorem parse_between (a b : List UInt8) : parse (quote a ++ [42] ++ quote b) = a.map .byte ++ .many :: b.map .byte := by
  have h1 := parse_quote a [] ([42] ++ quote b)
  simp only [List.nil_append, List.length_nil, Nat.zero_add] at h1
  unfold parse
  rw [List.append_assoc, h1]
  have h0 : (quote a ++ ([42] ++ quote b))[(quote a).length]? = some 42 := by simp
  have ha : atomAt (quote a ++ ([42] ++ quote b)) (quote a).length 42 = (.many, (quote a).length + 1) := by
    unfold atomAt; rw [if_neg (by decide), if_neg (by decide), if_pos rfl]
  rw [parseFrom_step h0, ha]
  dsimp only
  have h2 := parse_quote b (quote a ++ [42]) []
  simp only [List.append_nil, List.length_append, List.length_cons, List.length_nil, Nat.zero_add] at h2
  rw [← List.append_assoc, h2, parseFrom_end (by simp; omega), List.append_nil]
end Go.Proofs.YtadlaaddpobhbaaDoor.Pat
