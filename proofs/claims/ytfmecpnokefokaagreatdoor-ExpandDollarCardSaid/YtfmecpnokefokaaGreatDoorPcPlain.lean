/-
  What the parts of a text are like (layers 7, 8), plainly: they rise; an Escape has one byte at most; a value is no longer than its text. No program in sight.
-/
import Derived.Test.YtfmecpnokefokaaGreatDoorMachC
import Derived.Test.YtfmecpnokefokaaGreatDoorLitV
import Derived.Test.YtfmecpnokefokaaGreatDoorAppStr
import Derived.Test.YtfmecpnokefokaaGreatDoorOfPlain2
set_option linter.unusedSimpArgs false
set_option linter.unusedVariables false
namespace Go.Proofs.YtfmecpnokefokaaGreatDoor.Quo
open Go.ChangeShapes Go.WideShapes Go.Deep Go.RowKit Cls Md Mc Pa Li Go.Shelf
attribute [local go_sem] Oper.semAt_some
set_option maxRecDepth 100000
def wordsF (s : List UInt8) : Nat → Nat → List (Nat × Nat)
 | 0, _ => []
 | f + 1, a => if a < s.length then (a, wendN s a) :: (if wendN s a = a then [] else wordsF s f (wendN s a + spanN blankB (s.drop (wendN s a)))) else []
def wordsL (s : List UInt8) : List (Nat × Nat) := wordsF s (s.length + 1) (spanN blankB (s.drop 0))
def encW (x : Nat × Nat) : Array Value := #[.int .i64 x.1, .int .i64 x.2]
@[go_sem] theorem encW_eq (x : Nat × Nat) : encW x = #[.int .i64 (x.1 : Nat), .int .i64 (x.2 : Nat)] := rfl
def chkN (s : List UInt8) (a e : Nat) : Int :=
 if subT s a e = [] then 4 else if (subT s a e).getD 0 0 = 35 then 4 else if e < s.length ∧ clsB (s.getD e 0) ≠ 1 then 4
 else if closL (run (subT s a e)).l ≠ [] then 9 else if (valueL (subT s a e)).2 = false then 8 else 0
end Go.Proofs.YtfmecpnokefokaaGreatDoor.Quo
namespace Go.Proofs.YtfmecpnokefokaaGreatDoor.Quo
open Go.ChangeShapes Go.WideShapes Go.Deep Go.RowKit Cls Md Mc Pa Li Go.Shelf
attribute [local go_sem] Oper.semAt_some
set_option maxRecDepth 100000
def valT (s : List UInt8) (x : Nat × Nat) : List UInt8 := (valueL (subT s x.1 x.2)).1
def splitW (s : List UInt8) : List (Nat × Nat) → List (List UInt8) → List (List UInt8) × Nat × Int
 | [], out => (out, 0, 0)
 | x :: r, out => if chkN s x.1 x.2 ≠ 0 then ([], x.1, chkN s x.1 x.2) else splitW s r (out ++ [valT s x])
def splitL (s : List UInt8) : List (List UInt8) × Nat × Int := splitW s (wordsL s) []
structure SpI (s : List UInt8) (w : World) (A : Nat) (pre : List (Nat × Nat)) (v : Value) (W : World) : Prop where
 o : BoxOwn W A (w.heap.size + 1) 1 v pre.length ((pre.map (valT s)).flatMap strC)
 z : pre.length = 0 → v = .slice none 0 0
 bs : BoxN W w.heap.size [.string (B s)]
 b2 : BoxN W (w.heap.size + 1 + 1) [.int .i64 0]
 b3 : BoxN W (w.heap.size + 1 + 1 + 1) [.int .i64 0]
 ok : ∀ x ∈ pre, chkN s x.1 x.2 = 0
 b : Below w.heap.size w W
 sz : A ≤ W.heap.size
structure SpX (s : List UInt8) (w : World) (A : Nat) (pre : List (Nat × Nat)) (W : World) : Prop where
 ex : ∃ q x, pre = q ++ [x] ∧ (∀ y ∈ q, chkN s y.1 y.2 = 0) ∧ chkN s x.1 x.2 ≠ 0 ∧ BoxN W (w.heap.size + 1 + 1) [.int .i64 (x.1 : Nat)] ∧ BoxN W (w.heap.size + 1 + 1 + 1) [.int .i64 (chkN s x.1 x.2)]
 b1 : W.cell? ⟨w.heap.size + 1, 0, none⟩ = some (.slice none 0 0)
 b : Below w.heap.size w W
 sz : A ≤ W.heap.size
section
variable {s : List UInt8} {w W W' : World} {A B : Nat} {pre : List (Nat × Nat)} {v : Value}
end
end Go.Proofs.YtfmecpnokefokaaGreatDoor.Quo
namespace Go.Proofs.YtfmecpnokefokaaGreatDoor.Li
open Cls Md Mc Pa Quo
theorem parts_frs (s : List UInt8) : (partsL s).map (·.fr) = froms s s.length := by
 rw [parts_is, List.map_map]
 have : ((fun p : Part => p.fr) ∘ fun fr => finP s (mkP s s.length fr)) = id := by
  funext fr
  show (finP s (mkP s s.length fr)).fr = fr
  rw [finP_fr]
  rfl
 rw [this, List.map_id]
theorem parts_rise (s : List UInt8) : ((partsL s).map (·.fr)).Pairwise (· < ·) := by
 rw [parts_frs]
 exact froms_sorted _ _
theorem rise_one {L : List Part} (h : (L.map (·.fr)).Pairwise (· < ·)) {i j : Nat} {p q : Part} (hi : L[i]? = some p) (hj : L[j]? = some q) (e : p.fr = q.fr) : i = j := by
 have h1 : (L.map (·.fr))[i]? = some p.fr := by rw [List.getElem?_map, hi]; rfl
 have h2 : (L.map (·.fr))[j]? = some p.fr := by rw [List.getElem?_map, hj, e]; rfl
 have l1 := (List.getElem?_eq_some_iff.1 h1)
 have l2 := (List.getElem?_eq_some_iff.1 h2)
 rcases Nat.lt_trichotomy i j with k | k | k
 ·have := List.pairwise_iff_getElem.1 h i j l1.1 l2.1 k
  rw [l1.2, l2.2] at this
  omega
 ·exact k
 ·have := List.pairwise_iff_getElem.1 h j i l2.1 l1.1 k
  rw [l1.2, l2.2] at this
  omega
theorem idxR_no {r : List Part} {a : Nat} (h : idxR r a = 0) : ∀ p ∈ r, p.fr ≠ a := by
 induction r with
 | nil => intro p hp; cases hp
 | cons q r ih =>
  unfold idxR at h
  by_cases e : q.fr = a
  ·rw [if_pos e] at h; omega
  ·rw [if_neg e] at h
   intro p hp
   rcases List.mem_cons.1 hp with rfl | hp
   ·exact e
   ·exact ih h p hp
theorem atP_found {L : List Part} (h : (L.map (·.fr)).Pairwise (· < ·)) {i a : Nat} {p : Part} (hi : L[i]? = some p) (e : p.fr = a) : atP L a = some p := by
 by_cases h0 : idxP L a = 0
 ·exact absurd e (idxR_no h0 p (by rw [List.mem_reverse]; exact List.mem_of_getElem? hi))
 ·obtain ⟨q, h1, h2, h3⟩ := atP_some h0
  have := rise_one h hi h2 (e.trans h3.symm)
  subst this
  rw [h1, ← hi, h2]
theorem atP_not {L : List Part} {a : Nat} (h : ∀ p ∈ L, p.fr ≠ a) : atP L a = none := by
 by_cases h0 : idxP L a = 0
 ·exact atP_none h0
 ·obtain ⟨q, h1, h2, h3⟩ := atP_some h0
  exact absurd h3 (h q (List.mem_of_getElem? h2))
def QX (p : Nat) (y : St) : Prop := y.top = 88 → ∃ r, y.l = (88, p) :: r
theorem qx_push (x : St) (c : UInt8) (p : Nat) : QX p (x.push c p) := fun h => ⟨x.l, by
 have : c = 88 := h
 rw [this]; rfl⟩
theorem qx_no {y : St} (p : Nat) (h : y.top ≠ 88) : QX p y := fun e => absurd e h
theorem turn_no {x : St} {c : UInt8} (h : x.top ≠ 88) (hc : c ≠ 88) : (x.turn c).top ≠ 88 := by
 obtain ⟨l, f⟩ := x
 cases l with
 | nil => exact h
 | cons a r => exact hc
theorem qx_ite {c : Prop} [Decidable c] {a b : St} {p : Nat} (h1 : QX p a) (h2 : QX p b) : QX p (if c then a else b) := by
 split
 ·exact h1
 ·exact h2
theorem qx_plain {x : St} {c : Int} (h : (c == 88) = true ∨ x.top ≠ 88) (hu : x.under ≠ 88) (b : Int) (p : Nat) : QX p (Md.plain x c b p) := by
 unfold Md.plain
 by_cases h88 : (c == 88) = true
 ·have : c = 88 := by simpa using h88
  subst this
  rw [if_neg (by decide), if_pos (by decide)]
  split
  ·exact qx_no p hu
  ·exact qx_no p hu
 ·have h := h.resolve_left h88
  repeat' refine qx_ite ?_ ?_
  all_goals first | exact qx_program h hu _ _ | exact qx_push _ _ _ | exact qx_no p h | exact qx_no p hu | exact qx_no p (turn_no h (by decide))
theorem inner_no {c : UInt8} (h : c ∈ innerL) : c ≠ 88 := by
 rintro rfl
 revert h
 decide
theorem wf_under {x : St} (h : WF x) : x.under ≠ 88 := by
 obtain ⟨l, f⟩ := x
 match l, h with
 | [(c, _)], _ => exact (by decide : (84 : UInt8) ≠ 88)
 | (c, _) :: (d, q) :: r, h => exact inner_no h.2.1
theorem qx_step {x : St} (h : WF x) (b : Int) (p : Nat) : QX p (Md.step x b p) := by
 unfold Md.step
 have hu := wf_under h
 by_cases h1 : x.top = 76
 ·have hn : x.top ≠ 84 := by rw [h1]; decide
  have h8 : x.top ≠ 88 := by rw [h1]; decide
  rw [if_pos h1]
  repeat' split
  all_goals first
   | exact qx_no p (turn_no h8 (by decide))
   | exact qx_no p hu
   | exact qx_plain (x := x.pop) (.inr (show x.pop.top ≠ 88 from hu)) (wf_under (h.pop hn)) b p
 rw [if_neg h1]
 by_cases h2 : x.top = 79
 ·have hn : x.top ≠ 84 := by rw [h2]; decide
  have h8 : x.top ≠ 88 := by rw [h2]; decide
  rw [if_pos h2]
  have hw := h.turn hn (c := 67) (by decide)
  repeat' split
  all_goals first
   | exact qx_no p (turn_no h8 (by decide))
   | exact qx_plain (.inr (turn_no h8 (by decide))) (wf_under hw) b p
 rw [if_neg h2]
 by_cases h3 : x.top = 69
 ·have hn : x.top ≠ 84 := by rw [h3]; decide
  have h8 : x.top ≠ 88 := by rw [h3]; decide
  rw [if_pos h3]
  have hw := h.turn hn (c := 65) (by decide)
  repeat' split
  all_goals first
   | exact qx_no p hu
   | exact qx_plain (.inr (turn_no h8 (by decide))) (wf_under hw) b p
 rw [if_neg h3]
 refine qx_plain ?_ hu b p
 by_cases h8 : x.top = 88
 ·exact .inl (by rw [h8]; rfl)
 ·exact .inr h8
theorem wf_x {l : List (UInt8 × Nat)} (h : WFl l) {q : Nat} (hm : (88, q) ∈ l) : ∃ r, l = (88, q) :: r := by
 match l, h with
 | [(c, p)], h =>
  rw [List.mem_singleton] at hm
  cases hm
  exact absurd (show (88 : UInt8) = 84 from h) (by decide)
 | (c, p) :: (d, q') :: r, h =>
  rcases List.mem_cons.1 hm with e | hm
  ·cases e; exact ⟨_, rfl⟩
  ·exfalso
   have hin : ∀ (l : List (UInt8 × Nat)) (d : UInt8) (q' : Nat), WFl ((d, q') :: l) → d ≠ 88 → (88, q) ∉ (d, q') :: l := by
    intro l
    induction l with
    | nil =>
     intro d q' hw hd hm
     rw [List.mem_singleton] at hm
     cases hm
     exact hd rfl
    | cons a l ih =>
     obtain ⟨e, q''⟩ := a
     intro d q' hw hd hm
     rcases List.mem_cons.1 hm with e1 | hm
     ·cases e1; exact hd rfl
     ·exact ih e q'' hw.2.2 (inner_no hw.2.1) hm
   exact hin r d q' h.2.2 (inner_no h.2.1) hm
theorem x_frame {s : List UInt8} {k i q : Nat} (hk : k < s.length) (hf : (frs (run (s.take (k + 1))))[i]? = some (88, q)) : q = k := by
 have hm : (88, q) ∈ (run (s.take (k + 1))).l := by
  have := List.mem_of_getElem? hf
  unfold frs at this
  exact List.mem_reverse.1 (List.mem_of_mem_drop this)
 obtain ⟨r, hr⟩ := wf_x (wf_run _) hm
 rw [run_take hk] at hr
 obtain ⟨r', hr'⟩ := qx_step (wf_run (s.take k)) s[k].toNat k (by unfold St.top; rw [hr]; rfl)
 rw [hr] at hr'
 cases hr'
 rfl
theorem ltr_x {s : List UInt8} {fr d : Nat} (h : fr ∈ FP s (fr + 1)) (hd : fr + 1 + d ≤ s.length) (hm : fr ∈ FP s (fr + 1 + d)) (hl : ltr s (fr + 1 + d) ((FP s (fr + 1)).idxOf fr + 1) = 88) : d = 0 := by
 have hidx := (FP_far (s := s) (fr := fr) (k := fr + 1) (by omega) (Nat.le_add_right _ d) hd hm).2
 rw [hidx] at hl
 have hat := at_idx hm
 unfold FP fp at hat
 rw [List.getElem?_map] at hat
 obtain ⟨f, hf, hfe⟩ := Option.map_eq_some_iff.1 hat
 have hlf := ltr_frs (i := (FP s (fr + 1 + d)).idxOf fr) (f := f) (by unfold FP fp; exact hf)
 rw [hlf] at hl
 obtain ⟨c, q⟩ := f
 dsimp only at hl hfe
 subst hl hfe
 have := x_frame (s := s) (k := q + d) (by omega) (by rw [show q + d + 1 = q + 1 + d by omega]; exact hf)
 omega
theorem stR_x {s : List UInt8} {fr : Nat} (h : fr ∈ FP s (fr + 1)) : ∀ d, fr + 1 + d ≤ s.length → (stR s fr d).1 = 88 → ((stR s fr d).2.2 = true → d = 0) ∧ ((stR s fr d).2.2 = false → (stR s fr d).2.1 = fr + 2) := by
 intro d
 induction d with
 | zero => exact fun _ _ => ⟨fun _ => rfl, fun e => (by cases e)⟩
 | succ d ih =>
  intro hd
  have ih := ih (by omega)
  unfold stR
  by_cases ho : (stR s fr d).2.2 = true
  ·rw [if_pos ho]
   by_cases hm : fr ∈ FP s (fr + 1 + d + 1)
   ·rw [if_pos hm]
    intro e
    have := ltr_x (d := d + 1) h hd hm e
    omega
   ·rw [if_neg hm]
    intro e
    have := (ih e).1 ho
    exact ⟨fun e => (by cases e), fun _ => by show fr + 1 + d + 1 = fr + 2; omega⟩
  ·rw [if_neg ho]
   intro e
   refine ⟨fun e => absurd e ho, (ih e).2⟩
theorem stR_fin {s : List UInt8} {fr : Nat} : ∀ d, (stR s fr d).2.2 = false → fr + 2 ≤ (stR s fr d).2.1 := by
 intro d
 induction d with
 | zero => exact fun e => (by cases e)
 | succ d ih =>
  unfold stR
  by_cases ho : (stR s fr d).2.2 = true
  ·rw [if_pos ho]
   split
   ·exact fun e => (by cases e)
   ·intro _
    show fr + 2 ≤ fr + 1 + d + 1
    omega
  ·rw [if_neg ho]
   exact ih
theorem part_of {s : List UInt8} {p : Part} (h : p ∈ partsL s) : ∃ fr, fr < s.length ∧ fr ∈ FP s (fr + 1) ∧ p = finP s (mkP s s.length fr) := by
 rw [parts_is] at h
 obtain ⟨fr, hf, rfl⟩ := List.mem_map.1 h
 obtain ⟨h1, h2⟩ := froms_mem.1 hf
 exact ⟨fr, h1, h2, rfl⟩
theorem finP_c (s : List UInt8) (p : Part) : (finP s p).c = p.c := by
 unfold finP
 split
 ·rfl
 ·split <;> rfl
theorem cnt_x {c : UInt8} (h : cnt c = 88) : c = 88 := by
 unfold cnt at h
 split at h
 ·exact absurd h (by decide)
 ·split at h
  ·exact absurd h (by decide)
  ·exact h
theorem esc_fin {s : List UInt8} {p : Part} (h : p ∈ partsL s) (hc : p.c = 88) : p.fin ≤ p.fr + 2 := by
 obtain ⟨fr, h1, h2, rfl⟩ := part_of h
 rw [finP_c] at hc
 have hx := stR_x h2 (s.length - (fr + 1)) (by omega) (cnt_x hc)
 have hc76 : ¬ (mkP s s.length fr).c = 76 := by rw [hc]; decide
 rw [finP_fr]
 unfold finP
 rw [if_neg hc76]
 show _ ≤ fr + 2
 cases ho : (mkP s s.length fr).op with
 | true =>
  rw [if_pos rfl]
  have := hx.1 ho
  show s.length ≤ fr + 2
  omega
 | false =>
  rw [if_neg (by simp)]
  have := hx.2 ho
  show (stR s fr (s.length - (fr + 1))).2.1 ≤ fr + 2
  omega
theorem shut_fin {s : List UInt8} {p : Part} (h : p ∈ partsL s) (hc : p.c ≠ 76) (ho : p.op = false) : p.fr + 2 ≤ p.fin := by
 obtain ⟨fr, h1, h2, rfl⟩ := part_of h
 rw [finP_c] at hc
 rw [finP_fr]
 unfold finP at ho ⊢
 rw [if_neg hc] at ho ⊢
 cases h3 : (mkP s s.length fr).op with
 | true => rw [h3, if_pos rfl] at ho; cases ho
 | false =>
  rw [if_neg (by simp)]
  exact stR_fin _ h3
def XShort (L : List Part) : Prop := ∀ p ∈ L, p.c = 88 → p.fin ≤ p.fr + 2
theorem dblP_len {s : List UInt8} {L : List Part} (hS : Sound s L) (hX : XShort L) {tt : Nat} (f at_ : Nat) (here : List UInt8) (x : Bool) (hn : ∀ q ∈ dblP s L tt f at_ here x, q.ex = false) : (txL (dblP s L tt f at_ here x)).length ≤ here.length + (tt + 1 - at_) := by
 induction f generalizing at_ here x with
 | zero => simp [dblP, txL]
 | succ f ih =>
  by_cases h1 : at_ < tt
  ·cases hA : atP L at_ with
   | none =>
    rw [dblP_none h1 hA] at hn ⊢
    have := ih (at_ + 1) (here ++ [s.getD at_ 0]) x hn
    rw [List.length_append, List.length_singleton] at this
    omega
   | some k =>
    obtain ⟨hkm, hkf⟩ := atP_mem hA
    have hk := hS k hkm
    rw [dblP_some h1 hA] at hn ⊢
    by_cases h2 : loneP k = true
    ·rw [if_pos h2] at hn ⊢
     have := ih (at_ + 1) (here ++ [s.getD at_ 0]) x hn
     rw [List.length_append, List.length_singleton] at this
     omega
    ·rw [if_neg h2] at hn ⊢
     by_cases h3 : k.c = 88
     ·rw [if_pos h3] at hn ⊢
      have := ih k.fin (here ++ escT s k) x hn
      have h4 := escT_len s k hk.1
      have h5 := hX k hkm h3
      rw [List.length_append] at this
      have h6 : k.fin < k.fr + 2 → (escT s k).length = 0 := fun h => by unfold escT; rw [if_pos h]; rfl
      by_cases h7 : k.fin < k.fr + 2
      ·have := h6 h7; omega
      ·omega
     ·rw [if_neg h3] at hn
      have := hn ⟨true, true, subT s k.fr k.fin⟩ (List.mem_append_right _ (by simp))
      cases this
  ·rw [dblP_end h1]
   split <;> simp [txL]
theorem eachP_len {s : List UInt8} {L : List Part} (hS : Sound s L) (hX : XShort L) (f at_ : Nat) (pl : List UInt8) (hn : ∀ q ∈ eachP s L f at_ pl, q.ex = false) : (txL (eachP s L f at_ pl)).length ≤ pl.length + (s.length - at_) := by
 induction f generalizing at_ pl with
 | zero => simp [eachP, txL]
 | succ f ih =>
  by_cases h1 : at_ < s.length
  ·cases hA : atP L at_ with
   | none =>
    rw [eachP_none h1 hA] at hn ⊢
    have := ih (at_ + 1) (pl ++ [s.getD at_ 0]) hn
    rw [List.length_append, List.length_singleton] at this
    omega
   | some p =>
    obtain ⟨hpm, hpf⟩ := atP_mem hA
    have hp := hS p hpm
    have hsub := subT_len s p.fr p.fin hp.2
    rw [eachP_some h1 hA] at hn ⊢
    by_cases c1 : loneP p = true ∨ p.c = 35
    ·rw [if_pos c1] at hn ⊢
     have := ih p.fin (pl ++ subT s p.fr p.fin) hn
     rw [List.length_append, hsub] at this
     omega
    rw [if_neg c1] at hn ⊢
    by_cases c2 : p.c = 88 ∨ p.c = 83
    ·rw [if_pos c2] at hn ⊢
     cases hq : quoP s p with
     | none =>
      rw [hq] at hn
      dsimp only at hn ⊢
      have := ih p.fin pl hn
      omega
     | some q =>
      rw [hq] at hn
      dsimp only at hn ⊢
      have h0 := ih p.fin [] (fun q hq => hn q (List.mem_append_right _ (List.mem_cons_of_mem _ hq)))
      simp only [List.length_nil] at h0
      rw [txL_app, txL_cons, flushP_tx, List.length_append, List.length_append]
      have hql : q.tx.length ≤ p.fin - p.fr := by
       unfold quoP at hq
       split at hq
       ·rename_i hc
        cases hq
        show ((s.take (insT p)).drop (insF p)).length ≤ _
        rw [List.length_drop, List.length_take]
        unfold insT insF
        have h4 : headI (mo p.c) = 1 := by rw [hc]; decide +kernel
        rw [h4]
        omega
       ·split at hq
        ·cases hq
        ·cases hq
         show ((s.take p.fin).drop (p.fr + 1)).length ≤ _
         rw [List.length_drop, List.length_take]; omega
      omega
    rw [if_neg c2] at hn ⊢
    by_cases c3 : p.c = 68
    ·rw [if_pos c3] at hn ⊢
     have h0 := ih p.fin [] (fun q hq => hn q (List.mem_append_right _ hq))
     have hd := dblP_len hS hX (s.length + 1) (insF p) [] false (fun q hq => hn q (List.mem_append_left _ (List.mem_append_right _ hq)))
     rw [txL_app, txL_app, flushP_tx, List.length_append, List.length_append]
     have h4 : headI (mo p.c) = 1 := by rw [c3]; decide +kernel
     have h5 : p.op = false → tailI (mo p.c) p.op = 1 := fun h => by rw [c3, h]; decide +kernel
     have h6 : insT p + 1 - insF p ≤ p.fin - p.fr := by
      unfold insT insF
      rw [h4]
      cases ho : p.op with
      | true =>
       have : tailI (mo p.c) true = 0 := rfl
       rw [this]
       omega
      | false =>
       have := h5 ho
       rw [ho] at this
       rw [this]
       omega
     simp only [List.length_nil] at h0 hd
     omega
    rw [if_neg c3] at hn
    have := hn ⟨true, false, subT s p.fr p.fin⟩ (List.mem_append_right _ (by simp))
    cases this
  ·rw [eachP_end h1, flushP_tx]
   omega
theorem parts_x (s : List UInt8) : XShort (partsL s) := fun p hp hc => esc_fin hp hc
theorem value_len {s : List UInt8} (h : (valueL s).2 = true) : (valueL s).1.length ≤ s.length := by
 unfold valueL at h ⊢
 rw [valP_eq] at h ⊢
 split at h
 ·rename_i h1
  rw [if_pos h1]
  have := eachP_len (parts_sound s) (parts_x s) (s.length + 1) 0 [] (fun q hq => by
   have := List.all_eq_true.1 h1 q hq
   simpa using this)
  simp only [List.length_nil, List.nil_append] at this ⊢
  unfold piecesL
  omega
 ·cases h
end Go.Proofs.YtfmecpnokefokaaGreatDoor.Li
