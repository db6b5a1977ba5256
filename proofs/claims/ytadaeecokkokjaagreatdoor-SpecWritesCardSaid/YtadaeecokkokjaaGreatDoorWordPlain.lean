/-
  Closed forms are words (layer 17), plainly. No program in sight.
-/
import Derived.Test.YtadaeecokkokjaaGreatDoorLexA
import Derived.Test.YtadaeecokkokjaaGreatDoorQuoA
set_option linter.unusedSimpArgs false
set_option linter.unusedVariables false
namespace Go.Proofs.YtadaeecokkokjaaGreatDoor.Lx
open Cls Md Quo
/-- No word ends within a text, from a stack on. -/
def Thru (x : St) (p : Nat) : List UInt8 → Prop
  | [] => True
  | b :: l => stopB x b = false ∧ Thru (Md.step x b.toNat p) (p + 1) l
theorem thru_append {x : St} {p : Nat} {a b : List UInt8} : Thru x p (a ++ b) ↔ Thru x p a ∧ Thru (runK x p a) (p + a.length) b := by
  induction a generalizing x p with
  | nil => simp [Thru, runK]
  | cons c a ih =>
    simp only [List.cons_append, Thru, runK, ih, List.length_cons, and_assoc]
    rw [show p + 1 + a.length = p + (a.length + 1) by omega]
theorem endFrom_thru {x : St} {i : Nat} {a b : List UInt8} (h : Thru x i a) : endFrom x i (a ++ b) = endFrom (runK x i a) (i + a.length) b := by
  induction a generalizing x i with
  | nil => rfl
  | cons c a ih =>
    obtain ⟨h1, h2⟩ := h
    rw [List.cons_append]
    conv => lhs; unfold endFrom
    rw [if_neg (by rw [h1]; simp), ih h2]
    simp only [runK, List.length_cons]
    rw [show i + 1 + a.length = i + (a.length + 1) by omega]
/-- The stack has just these letters. -/
def Is (x : St) (l : List UInt8) : Prop := x.l.map (·.1) = l
theorem is_T {x : St} (h : Is x [84]) : ∃ q f, x = ⟨[(84, q)], f⟩ := by
  obtain ⟨l, f⟩ := x
  match l, h with
  | [(c, q)], h => injection h with h; have h : c = 84 := h; exact ⟨q, f, by rw [h]⟩
theorem is_2 {x : St} {c : UInt8} (h : Is x [c, 84]) : ∃ q q' f, x = ⟨[(c, q), (84, q')], f⟩ := by
  obtain ⟨l, f⟩ := x
  match l, h with
  | [(c', q), (d, q')], h => injection h with h1 h2; injection h2 with h2; have h1 : c' = c := h1; have h2 : d = 84 := h2; exact ⟨q, q', f, by rw [h1, h2]⟩
theorem is_3 {x : St} {c d : UInt8} (h : Is x [c, d, 84]) : ∃ q q' q2 f, x = ⟨[(c, q), (d, q'), (84, q2)], f⟩ := by
  obtain ⟨l, f⟩ := x
  match l, h with
  | [(c', q), (d', q'), (e, q2)], h => injection h with h1 h2; injection h2 with h2 h3; injection h3 with h3; have h1 : c' = c := h1; have h2 : d' = d := h2; have h3 : e = 84 := h3; exact ⟨q, q', q2, f, by rw [h1, h2, h3]⟩
theorem stop_no {x : St} {b : UInt8} (h : endsB b = false ∨ ((lets x.l == [84]) = false ∧ (lets x.l == [84, 76]) = false)) : stopB x b = false := by
  unfold stopB
  rcases h with h | ⟨h1, h2⟩
  · rw [h]; rfl
  · rw [h1, h2]; simp
/-- What one byte does, and that no word ends ahead of it. -/
def One (x : St) (p : Nat) (b : UInt8) (l : List UInt8) : Prop := stopB x b = false ∧ Is (Md.step x b.toNat p) l
/-- Bytes that Top takes as they are. -/
def topB (n : Int) : Bool := !(n == 92 || n == 39 || n == 34 || n == 96 || n == 36 || n == 35 || n == 40 || n == 41) && !(cls n == 1 || cls n == 2 || cls n == 3)
theorem safe_top (b : UInt8) (h : safeB b = true) : topB b.toNat = true := by
  have h2 : ∀ n : Fin 256, safeB (UInt8.ofNat n.val) = true → topB (UInt8.ofNat n.val).toNat = true := by decide +kernel
  have := h2 ⟨b.toNat, b.toNat_lt⟩
  simp only [UInt8.ofNat_toNat] at this
  exact this h
theorem one_T {x : St} (h : Is x [84]) (p : Nat) {b : UInt8} (hb : topB b.toNat = true) : One x p b [84] := by
  obtain ⟨q, f, rfl⟩ := is_T h
  unfold topB at hb
  generalize hn : (b.toNat : Int) = n at *
  simp only [Bool.and_eq_true, Bool.not_eq_true', Bool.or_eq_false_iff] at hb
  obtain ⟨⟨⟨⟨⟨⟨⟨⟨h1, h2⟩, h3⟩, h4⟩, h5⟩, h6⟩, h7⟩, h8⟩, ⟨c1, c2⟩, c3⟩ := hb
  refine ⟨stop_no (.inl ?_), ?_⟩
  · show (cls b.toNat == 1 || cls b.toNat == 2 || cls b.toNat == 3) = false
    rw [hn, c1, c2, c3]; rfl
  · show Is (Md.plain ⟨[(84, q)], f⟩ 84 (b.toNat : Int) p) [84]
    rw [hn]
    show Is (Md.program ⟨[(84, q)], f⟩ 84 n p) [84]
    unfold Md.program
    simp only [h1, h2, h3, h4, h5, h6, h7, h8, Bool.false_and, Bool.false_eq_true, if_false]
    rfl
theorem one_TS {x : St} (h : Is x [84]) (p : Nat) : One x p 39 [83, 84] := by
  obtain ⟨q, f, rfl⟩ := is_T h
  exact ⟨rfl, rfl⟩
theorem one_TD {x : St} (h : Is x [84]) (p : Nat) : One x p 34 [68, 84] := by
  obtain ⟨q, f, rfl⟩ := is_T h
  exact ⟨rfl, rfl⟩
theorem one_TX {x : St} (h : Is x [84]) (p : Nat) : One x p 92 [88, 84] := by
  obtain ⟨q, f, rfl⟩ := is_T h
  exact ⟨rfl, rfl⟩
theorem one_X {x : St} (h : Is x [88, 84]) (p : Nat) (b : UInt8) : One x p b [84] := by
  obtain ⟨q, q', f, rfl⟩ := is_2 h
  refine ⟨stop_no (.inr ⟨rfl, rfl⟩), ?_⟩
  show Is (Md.plain ⟨[(88, q), (84, q')], f⟩ 88 b.toNat p) [84]
  show Is (if ((b.toNat : Int) == 10) = true then _ else _) [84]
  split <;> rfl
theorem one_S {x : St} (h : Is x [83, 84]) (p : Nat) {b : UInt8} (hb : b ≠ 39) : One x p b [83, 84] := by
  obtain ⟨q, q', f, rfl⟩ := is_2 h
  refine ⟨stop_no (.inr ⟨rfl, rfl⟩), ?_⟩
  show Is (if ((b.toNat : Int) == 39) = true then _ else _) [83, 84]
  rw [if_neg (by rw [Pat.not_b (n := 39) rfl hb]; simp)]
  rfl
theorem one_SE {x : St} (h : Is x [83, 84]) (p : Nat) : One x p 39 [84] := by
  obtain ⟨q, q', f, rfl⟩ := is_2 h
  exact ⟨rfl, rfl⟩
theorem one_D {x : St} (h : Is x [68, 84]) (p : Nat) {b : UInt8} (hb : dblI b.toNat = false) : One x p b [68, 84] := by
  obtain ⟨q, q', f, rfl⟩ := is_2 h
  refine ⟨stop_no (.inr ⟨rfl, rfl⟩), ?_⟩
  show Is (Md.plain ⟨[(68, q), (84, q')], f⟩ 68 b.toNat p) [68, 84]
  unfold dblI at hb
  generalize (b.toNat : Int) = n at *
  simp only [Bool.or_eq_false_iff] at hb
  obtain ⟨⟨⟨h1, h2⟩, h3⟩, h4⟩ := hb
  show Is (if (n == 92) = true then _ else if (n == 36) = true then _ else if (n == 96) = true then _ else if (n == 34) = true then _ else _) [68, 84]
  rw [h1, h2, h3, h4]
  rfl
theorem one_DE {x : St} (h : Is x [68, 84]) (p : Nat) : One x p 34 [84] := by
  obtain ⟨q, q', f, rfl⟩ := is_2 h
  exact ⟨rfl, rfl⟩
theorem one_DX {x : St} (h : Is x [68, 84]) (p : Nat) : One x p 92 [88, 68, 84] := by
  obtain ⟨q, q', f, rfl⟩ := is_2 h
  exact ⟨rfl, rfl⟩
theorem one_DXE {x : St} (h : Is x [88, 68, 84]) (p : Nat) (b : UInt8) : One x p b [68, 84] := by
  obtain ⟨q, q', q2, f, rfl⟩ := is_3 h
  refine ⟨stop_no (.inr ⟨rfl, rfl⟩), ?_⟩
  show Is (if ((b.toNat : Int) == 10) = true then _ else _) [68, 84]
  split <;> rfl
/-- A text leads from letters to letters, and no word ends within it. -/
def Leads (x : St) (p : Nat) (s : List UInt8) (l : List UInt8) : Prop := Thru x p s ∧ Is (runK x p s) l
theorem leads_nil {x : St} {p : Nat} {l : List UInt8} (h : Is x l) : Leads x p [] l := ⟨trivial, h⟩
theorem leads_cons {x : St} {p : Nat} {b : UInt8} {s l m : List UInt8} (h : One x p b m) (k : ∀ y, Is y m → ∀ q, Leads y q s l) : Leads x p (b :: s) l := by
  obtain ⟨k1, k2⟩ := k _ h.2 (p + 1)
  exact ⟨⟨h.1, k1⟩, k2⟩
theorem leads_append {x : St} {p : Nat} {a b l m : List UInt8} (h : Leads x p a m) (k : ∀ y, Is y m → ∀ q, Leads y q b l) : Leads x p (a ++ b) l := by
  obtain ⟨k1, k2⟩ := k _ h.2 (p + a.length)
  refine ⟨thru_append.2 ⟨h.1, k1⟩, ?_⟩
  rw [runK_append]
  exact k2
theorem leads_flat {f : UInt8 → List UInt8} {m : List UInt8} (hf : ∀ b x, Is x m → ∀ p, Leads x p (f b) m) : ∀ (s : List UInt8) (x : St), Is x m → ∀ p, Leads x p (s.flatMap f) m
  | [], _, h, _ => leads_nil h
  | b :: s, x, h, p => by
    rw [List.flatMap_cons]
    exact leads_append (hf b x h p) fun y hy q => leads_flat hf s y hy q
theorem leads_sgl (s : List UInt8) (x : St) (h : Is x [84]) (p : Nat) : Leads x p (sglL s ++ [39]) [84] := by
  refine leads_cons (one_TS h p) fun y hy q => leads_append (leads_flat (fun b x hx p => ?_) s y hy q) fun z hz r => leads_cons (one_SE hz r) fun u hu _ => leads_nil hu
  by_cases hb : b = 39
  · rw [if_pos hb]
    exact leads_cons (one_SE hx p) fun y hy q => leads_cons (one_TX hy q) fun y hy q => leads_cons (one_X hy q 39) fun y hy q => leads_cons (one_TS hy q) fun y hy q => leads_nil hy
  · rw [if_neg hb]
    exact leads_cons (one_S hx p hb) fun y hy q => leads_nil hy
theorem leads_dbl (s : List UInt8) (x : St) (h : Is x [84]) (p : Nat) : Leads x p (dblL s ++ [34]) [84] := by
  refine leads_cons (one_TD h p) fun y hy q => leads_append (leads_flat (fun b x hx p => ?_) s y hy q) fun z hz r => leads_cons (one_DE hz r) fun u hu _ => leads_nil hu
  cases hb : dblI b.toNat with
  | true =>
    rw [if_pos (by rw [dblI_eq]; exact hb)]
    exact leads_cons (one_DX hx p) fun y hy q => leads_cons (one_DXE hy q b) fun y hy q => leads_nil hy
  | false =>
    rw [if_neg (by rw [dblI_eq, hb]; simp)]
    exact leads_cons (one_D hx p hb) fun y hy q => leads_nil hy
theorem leads_esc (b : UInt8) (x : St) (h : Is x [84]) (p : Nat) : Leads x p (escB b) [84] := by
  unfold escB
  by_cases h10 : b = 10
  · rw [if_pos h10]
    exact leads_cons (one_TS h p) fun y hy q => leads_cons (one_S hy q (by decide)) fun y hy q => leads_cons (one_SE hy q) fun y hy q => leads_nil hy
  · rw [if_neg h10]
    cases hs : safeB b with
    | true => rw [if_pos rfl]; exact leads_cons (one_T h p (safe_top b hs)) fun y hy q => leads_nil hy
    | false => rw [if_neg (by simp)]; exact leads_cons (one_TX h p) fun y hy q => leads_cons (one_X hy q b) fun y hy q => leads_nil hy
theorem leads_pln (s : List UInt8) (x : St) (h : Is x [84]) (p : Nat) : Leads x p (plnL s) [84] := by
  unfold plnL
  by_cases h0 : s = []
  · rw [if_pos h0]
    exact leads_cons (one_TS h p) fun y hy q => leads_cons (one_SE hy q) fun y hy q => leads_nil hy
  rw [if_neg h0]
  unfold headL
  cases hr : (riskB s && safeB (s.getD 0 0)) with
  | false => rw [if_neg (by simp)]; exact leads_flat leads_esc s x h p
  | true =>
    rw [if_pos rfl]
    obtain ⟨b, l, rfl⟩ := List.exists_cons_of_ne_nil h0
    have hs : safeB b = true := by
      rw [Bool.and_eq_true] at hr
      exact hr.2
    have h10 : b ≠ 10 := by rintro rfl; revert hs; decide +kernel
    have he : escB b = [b] := by unfold escB; rw [if_neg h10, if_pos hs]
    rw [List.flatMap_cons, he]
    exact leads_cons (one_TX h p) fun y hy q => leads_cons (one_X hy q b) fun y hy q => leads_flat leads_esc l y hy q
/-- A closed form is a word of its own. -/
theorem leads_enc (s : List UInt8) (state : Int) (x : St) (h : Is x [84]) (p : Nat) : Leads x p (encL s state true) [84] := by
  unfold encL
  split
  · exact leads_sgl s x h p
  · split
    · exact leads_dbl s x h p
    · exact leads_pln s x h p
theorem endN_enc (s : List UInt8) (state : Int) (bh : List UInt8) (hb : ∀ y, Is y [84] → ∀ i, endFrom y i bh = i) : endN (encL s state true ++ bh) 0 = (encL s state true).length := by
  have hl := leads_enc s state first rfl 0
  unfold endN
  rw [List.drop_zero, endFrom_thru hl.1, hb _ hl.2, Nat.zero_add]
end Go.Proofs.YtadaeecokkokjaaGreatDoor.Lx
