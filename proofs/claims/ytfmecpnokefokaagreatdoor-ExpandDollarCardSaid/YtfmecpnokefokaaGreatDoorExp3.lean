/-
  The walks of layer 25 (expand), on: a cut, whether a piece is ended. Conditions: texts of at most 2^28 bytes; the library's variable MaxLen holds some number.
-/
import Derived.Test.YtfmecpnokefokaaGreatDoorExp1
set_option linter.unusedSimpArgs false
set_option linter.unusedVariables false
namespace Go.Proofs.YtfmecpnokefokaaGreatDoor.Ex
open Go.ChangeShapes Go.WideShapes Go.Deep Go.RowKit Cls Md Mc Pa Li Pat
set_option maxRecDepth 100000
theorem operators_any (w : World) : Calls Tryz.prog 149 #[] w fun e w' => e = .returned (.slice (some ⟨w.heap.size, 0, none⟩) 12 12) ∧ BoxN w' w.heap.size (opsL.map fun o => .string (B o)) ∧ Below w.heap.size w w' := by
 have HX := Lib.hid (BoxN.new w (opsL.map fun o => .string (B o)) 9)
 have HB := Lib.hid (below_alloc (Below.refl w.heap.size w) (.cells (opsL.map fun o => .string (B o)).toArray 9))
 go_enter Tryz.func149, Tryz.ntmps149
 go_wp2
 go_ret
 exact ⟨rfl, HX.out, HB.out⟩
theorem find_at {α : Type} {q : α → Bool} : ∀ {l : List α} {k : Nat} {o : α}, l[k]? = some o → q o = true → (∀ a ∈ l.take k, q a = false) → l.find? q = some o
 | [], _, _, h, _, _ => by simp at h
 | a :: l, 0, o, h, hq, _ => by
  have : a = o := by simpa using h
  rw [this, List.find?_cons_of_pos hq]
 | a :: l, k + 1, o, h, hq, hn => by
  rw [List.find?_cons_of_neg (by rw [hn a (by simp)]; decide)]
  exact find_at (by simpa using h) hq (fun b hb => hn b (by simp [hb]))
set_option maxHeartbeats 1600000 in
theorem operator_any (s : List UInt8) (w : World) : Calls Tryz.prog 124 #[.string (B s)] w fun e w' => e = .returned (.tuple #[.string (B (opG s)), .string (B (s.drop (opG s).length))]) ∧ Below w.heap.size w w' := by
 have HO := Lib.hid (operators_any w)
 have HF := Lib.hid (ops_find s)
 generalize opG s = R at *
 go_enter Tryz.func124, Tryz.ntmps124
 go_wp2_with (go_at_call 149; refine HO.out.mono ?_; rintro e w1 ⟨rfl, hx, hb⟩; have HX := Lib.hid hx; have HB := Lib.hid hb; clear hx hb)
 have HCP := Lib.hid (cutPrefix_x s)
 go_loopw [10] (fun i wr => ∃ k : Nat, k ≤ 12 ∧ i = .int .i64 k ∧ Hid (∀ o ∈ opsL.take k, Lib.hasPrefix s o = false) ∧ w1 = wr) (fun i _ => 12 - (intOf i).toNat)
 case atStart => exact ⟨0, by omega, rfl, fun o ho => by simp at ho, rfl⟩
 case round =>
  obtain ⟨k, hk, rfl, HN, rfl⟩ := hrel
  by_cases hlt : k < 12
  ·obtain ⟨o, ho⟩ : ∃ o, opsL[k]? = some o := ⟨_, List.getElem?_eq_getElem (show k < opsL.length from hlt)⟩
   have e0 : w1.cell? ⟨w.heap.size, k, none⟩ = some (.string (B o)) := HX.out.c k _ (by rw [List.getElem?_map, ho]; rfl)
   haveI : Old w1 w.heap.size := ⟨HX.out.lt⟩
   have k0 : (0 : Int) ≤ (k : Int) := by omega
   have k1 : (k : Int) < 12 := by omega
   have HC := Lib.hid (HCP.out o w1)
   have HOO := Lib.hid ho
   clear ho
   cases hq : Lib.hasPrefix s o with
   | true =>
    rw [hq] at HC
    have HR := Lib.hid (show R = o by
     have := find_at (q := fun o => Lib.hasPrefix s o) HOO.out hq HN.out
     rw [← HF.out, this]; rfl)
    have HT := Lib.hid (show Lib.trimPrefix s o = s.drop o.length by unfold Lib.trimPrefix; rw [if_pos hq])
    rw [HT.out] at HC
    clear hq
    go_wp2_with (go_at_call 150; refine HC.out.mono ?_; rintro e w2 ⟨rfl, rfl⟩)
    go_ret2
    exact ⟨by rw [HR.out]; rfl, HB.out⟩
   | false =>
    rw [hq] at HC
    have HN2 := Lib.hid (show ∀ a ∈ opsL.take (k + 1), Lib.hasPrefix s a = false from fun a ha => by
     rw [List.take_add_one, HOO.out] at ha
     rcases List.mem_append.1 ha with ha | ha
     ·exact HN.out a ha
     ·obtain rfl : a = o := by simpa using ha
      exact hq)
    clear hq
    go_wp2_with (go_at_call 150; refine HC.out.mono ?_; rintro e w2 ⟨rfl, rfl⟩)
    go_roundw
    case rel => exact ⟨k + 1, by omega, by go_num, HN2.out, trivial⟩
    case measure => simp [intOf]; omega
  ·have hk2 : k = 12 := by omega
   subst hk2
   have HR := Lib.hid (show R = [] by
    rw [← HF.out]
    have : (opsL.find? fun o => Lib.hasPrefix s o) = none := List.find?_eq_none.2 fun a ha => by
     have := HN.out a (by rw [List.take_of_length_le (by decide)]; exact ha)
     rw [this]; decide
    rw [this]; rfl)
   clear hlt
   go_wp2
   go_ret2
   exact ⟨by rw [HR.out]; rfl, HB.out⟩
theorem evs_mem {f : Nat → Bool} : ∀ {n : Nat} {e : Int}, e ∈ evs f n → ∃ k : Nat, k < n ∧ e = (k : Int)
 | 0, e, h => by simp [evs] at h
 | n + 1, e, h => by
  unfold evs at h
  split at h
  ·rcases List.mem_append.1 h with h | h
   ·obtain ⟨k, h1, h2⟩ := evs_mem h
    exact ⟨k, by omega, h2⟩
   ·exact ⟨n, by omega, by simpa using h⟩
  ·obtain ⟨k, h1, h2⟩ := evs_mem h
   exact ⟨k, by omega, h2⟩
theorem own_numX {w : World} {b0 g off n c : Nat} {N : List Int} (h : Own w b0 1 (.slice (some ⟨g, off, none⟩) n c) n (N.flatMap numC)) {k : Nat} {a : Int} (hk : N[k]? = some a) (hn : 0 < n) : g < w.heap.size ∧ w.cell? ⟨g, off + k, none⟩ = some (.int .i64 a) := by
 rcases h.2 with ⟨h0, _⟩ | ⟨g', off', c', e, h1, h2, h3, h4, h5, h6⟩
 ·omega
 ·cases e
  refine ⟨h2, h6 k _ ?_⟩
  have : ∀ (N : List Int) (k : Nat), N[k]? = some a → (N.flatMap numC)[k]? = some (.int .i64 a) := by
   intro N
   induction N with
   | nil => intro k hk; simp at hk
   | cons b r ih =>
    intro k hk
    cases k with
    | zero => simp at hk; subst hk; rfl
    | succ k => exact ih k (by simpa using hk)
  exact this N k hk
end Go.Proofs.YtfmecpnokefokaaGreatDoor.Ex
namespace Go.Proofs.YtfmecpnokefokaaGreatDoor.Ex
open Go.ChangeShapes Go.WideShapes Go.Deep Go.RowKit Cls Md Mc Pa Li Pat
set_option maxRecDepth 100000
theorem headD_get {E : List Int} {m : Nat} (h : E.length = m + 1) : E[0]? = some (E.headD 0) ∧ E[m]? = some (E.getLastD 0) := by
 cases E with
 | nil => simp at h
 | cons a r =>
  refine ⟨rfl, ?_⟩
  have hl : r.length = m := by simpa using h
  rw [List.getLastD_cons, List.getLastD_eq_getLast?, List.getLast?_eq_getElem?]
  cases r with
  | nil => simp at hl; subst hl; rfl
  | cons b t =>
   simp only [List.length_cons] at hl
   subst hl
   simp
theorem own_bound {w : World} {b0 sz n : Nat} {v : Value} {xs : List Value} (h : Own w b0 sz v n xs) : n ≤ 9223372036854775807 := by
 rcases Nat.eq_zero_or_pos n with h0 | h0
 ·omega
 ·obtain ⟨_, _, _, _, _, _, q1, q2⟩ := h.form' h0
  omega
def Cuts (op : List UInt8) : Prop := op = [37] ∨ op = [37, 37] ∨ op = [35] ∨ op = [35, 35]
set_option maxHeartbeats 3200000 in
theorem cut_any (v op p : List UInt8) (w : World) (hm : MaxL w) (ho : Cuts op) (hv : v.length ≤ 268435456) (hp : p.length ≤ 268435456) : Calls Tryz.prog 126 #[.string (B v), .string (B op), .string (B p)] w fun e w' => e = .returned (.string (B (cutG v op p))) ∧ Below w.heap.size w w' := by
 have HT := Lib.hid (tails_any p v w hm (by omega) (by omega))
 have HH := Lib.hid (heads_any p v w hm (by omega) (by omega))
 unfold EvP at HT HH
 have hmT := fun e (h : e ∈ evs (fun n => gm (parse p) (v.drop n)) (v.length + 1)) => evs_mem h
 have hmH := fun e (h : e ∈ evs (fun n => gm (parse p) (v.take n)) (v.length + 1)) => evs_mem h
 unfold cutG
 dsimp only
 generalize evs (fun n => gm (parse p) (v.drop n)) (v.length + 1) = ET at *
 generalize evs (fun n => gm (parse p) (v.take n)) (v.length + 1) = EH at *
 have key : ∀ (E : List Int) (u : Value) (w1 : World), (∀ e ∈ E, ∃ k : Nat, k < v.length + 1 ∧ e = (k : Int)) → Own w1 w.heap.size 1 u E.length (E.flatMap numC) → E ≠ [] →
   ∃ (m g off c k0 kL : Nat), E.length = m + 1 ∧ u = .slice (some ⟨g, off, none⟩) (m + 1) c ∧ g < w1.heap.size ∧ w1.cell? ⟨g, off, none⟩ = some (.int .i64 k0) ∧ w1.cell? ⟨g, off + m, none⟩ = some (.int .i64 kL) ∧ k0 ≤ v.length ∧ kL ≤ v.length ∧ E.headD 0 = k0 ∧ E.getLastD 0 = kL := by
  intro E u w1 hE hO hne
  obtain ⟨m, hml⟩ : ∃ m, E.length = m + 1 := ⟨E.length - 1, by have := List.length_pos_iff.2 hne; omega⟩
  obtain ⟨h0, hL⟩ := headD_get hml
  rw [hml] at hO
  obtain ⟨g, off, c, rfl, -, hg, -, -⟩ := hO.form
  obtain ⟨k0, q0, e0⟩ := hE _ (List.mem_of_getElem? h0)
  obtain ⟨kL, qL, eL⟩ := hE _ (List.mem_of_getElem? hL)
  have c0 := (own_numX hO h0 (by omega)).2
  have cL := (own_numX hO hL (by omega)).2
  rw [e0, Nat.add_zero] at c0
  rw [eL] at cL
  exact ⟨m, g, off, c, k0, kL, hml, rfl, hg, c0, cL, by omega, by omega, e0, eL⟩
 have HK := Lib.hid key
 have HmT := Lib.hid hmT
 have HmH := Lib.hid hmH
 clear key hmT hmH hm
 rcases ho with rfl | rfl | rfl | rfl
 ·rw [if_pos (.inl rfl)]
  by_cases hE : ET = []
  ·subst hE
   rw [if_pos rfl]
   go_enter Tryz.func126, Tryz.ntmps126
   go_wp2_with (go_at_call 152; refine HT.out.mono ?_; rintro e w1 ⟨u, rfl, ho, hb⟩; obtain ⟨A, c, rfl, -⟩ := ho.form0; have HB := Lib.hid hb; clear ho hb)
   go_ret
   exact ⟨rfl, HB.out⟩
  ·rw [if_neg hE, if_neg (by decide)]
   have HE := Lib.hid hE
   clear hE
   go_enter Tryz.func126, Tryz.ntmps126
   go_wp2_with (go_at_call 152; refine HT.out.mono ?_; rintro e w1 ⟨u, rfl, ho, hb⟩; obtain ⟨m, g, off, c, k0, kL, hml, rfl, hg, c0, cL, l0, lL, e0, eL⟩ := HK.out _ _ _ HmT.out ho HE.out; haveI : Old w1 g := ⟨hg⟩; have HB := Lib.hid hb; have HL := Lib.hid eL; have hm0 : (0 : Int) ≤ (m : Int) := (by omega); have hm1 : (m : Int) < (m : Int) + 1 := (by omega); have hm2 : (0 : Int) < (m : Int) + 1 := (by omega); have hm3 : ((m : Int) + 1 == 0) = false := (by rw [beq_eq_false_iff_ne]; omega); have hmm := own_bound ho; have hm4 : (m : Int) + 1 ≤ 9223372036854775807 := (by omega); have q0 : (0 : Int) ≤ (kL : Int) := (by omega); have q1 : (kL : Int) ≤ (v.length : Int) := (by omega); clear ho hb e0 eL hml hmm)
   go_ret
   exact ⟨by rw [HL.out]; rfl, HB.out⟩
 ·rw [if_pos (.inr rfl)]
  by_cases hE : ET = []
  ·subst hE
   rw [if_pos rfl]
   go_enter Tryz.func126, Tryz.ntmps126
   go_wp2_with (go_at_call 152; refine HT.out.mono ?_; rintro e w1 ⟨u, rfl, ho, hb⟩; obtain ⟨A, c, rfl, -⟩ := ho.form0; have HB := Lib.hid hb; clear ho hb)
   go_ret
   exact ⟨rfl, HB.out⟩
  ·rw [if_neg hE, if_pos (by decide)]
   have HE := Lib.hid hE
   clear hE
   go_enter Tryz.func126, Tryz.ntmps126
   go_wp2_with (go_at_call 152; refine HT.out.mono ?_; rintro e w1 ⟨u, rfl, ho, hb⟩; obtain ⟨m, g, off, c, k0, kL, hml, rfl, hg, c0, cL, l0, lL, e0, eL⟩ := HK.out _ _ _ HmT.out ho HE.out; haveI : Old w1 g := ⟨hg⟩; have HB := Lib.hid hb; have HL := Lib.hid e0; have hm0 : (0 : Int) ≤ (m : Int) := (by omega); have hm1 : (m : Int) < (m : Int) + 1 := (by omega); have hm2 : (0 : Int) < (m : Int) + 1 := (by omega); have hm3 : ((m : Int) + 1 == 0) = false := (by rw [beq_eq_false_iff_ne]; omega); have hmm := own_bound ho; have hm4 : (m : Int) + 1 ≤ 9223372036854775807 := (by omega); have q0 : (0 : Int) ≤ (k0 : Int) := (by omega); have q1 : (k0 : Int) ≤ (v.length : Int) := (by omega); clear ho hb e0 eL hml hmm)
   go_ret
   exact ⟨by rw [HL.out]; rfl, HB.out⟩
 ·rw [if_neg (by decide)]
  by_cases hE : EH = []
  ·subst hE
   rw [if_pos rfl]
   go_enter Tryz.func126, Tryz.ntmps126
   go_wp2_with (go_at_call 153; refine HH.out.mono ?_; rintro e w1 ⟨u, rfl, ho, hb⟩; obtain ⟨A, c, rfl, -⟩ := ho.form0; have HB := Lib.hid hb; clear ho hb)
   go_ret
   exact ⟨rfl, HB.out⟩
  ·rw [if_neg hE, if_neg (by decide)]
   have HE := Lib.hid hE
   clear hE
   go_enter Tryz.func126, Tryz.ntmps126
   go_wp2_with (go_at_call 153; refine HH.out.mono ?_; rintro e w1 ⟨u, rfl, ho, hb⟩; obtain ⟨m, g, off, c, k0, kL, hml, rfl, hg, c0, cL, l0, lL, e0, eL⟩ := HK.out _ _ _ HmH.out ho HE.out; haveI : Old w1 g := ⟨hg⟩; have HB := Lib.hid hb; have HL := Lib.hid e0; have hm0 : (0 : Int) ≤ (m : Int) := (by omega); have hm1 : (m : Int) < (m : Int) + 1 := (by omega); have hm2 : (0 : Int) < (m : Int) + 1 := (by omega); have hm3 : ((m : Int) + 1 == 0) = false := (by rw [beq_eq_false_iff_ne]; omega); have hmm := own_bound ho; have hm4 : (m : Int) + 1 ≤ 9223372036854775807 := (by omega); have q0 : (0 : Int) ≤ (k0 : Int) := (by omega); have q1 : (k0 : Int) ≤ (v.length : Int) := (by omega); clear ho hb e0 eL hml hmm)
   go_ret
   exact ⟨by rw [HL.out]; rfl, HB.out⟩
 ·rw [if_neg (by decide)]
  by_cases hE : EH = []
  ·subst hE
   rw [if_pos rfl]
   go_enter Tryz.func126, Tryz.ntmps126
   go_wp2_with (go_at_call 153; refine HH.out.mono ?_; rintro e w1 ⟨u, rfl, ho, hb⟩; obtain ⟨A, c, rfl, -⟩ := ho.form0; have HB := Lib.hid hb; clear ho hb)
   go_ret
   exact ⟨rfl, HB.out⟩
  ·rw [if_neg hE, if_pos (by decide)]
   have HE := Lib.hid hE
   clear hE
   go_enter Tryz.func126, Tryz.ntmps126
   go_wp2_with (go_at_call 153; refine HH.out.mono ?_; rintro e w1 ⟨u, rfl, ho, hb⟩; obtain ⟨m, g, off, c, k0, kL, hml, rfl, hg, c0, cL, l0, lL, e0, eL⟩ := HK.out _ _ _ HmH.out ho HE.out; haveI : Old w1 g := ⟨hg⟩; have HB := Lib.hid hb; have HL := Lib.hid eL; have hm0 : (0 : Int) ≤ (m : Int) := (by omega); have hm1 : (m : Int) < (m : Int) + 1 := (by omega); have hm2 : (0 : Int) < (m : Int) + 1 := (by omega); have hm3 : ((m : Int) + 1 == 0) = false := (by rw [beq_eq_false_iff_ne]; omega); have hmm := own_bound ho; have hm4 : (m : Int) + 1 ≤ 9223372036854775807 := (by omega); have q0 : (0 : Int) ≤ (kL : Int) := (by omega); have q1 : (kL : Int) ≤ (v.length : Int) := (by omega); clear ho hb e0 eL hml hmm)
   go_ret
   exact ⟨by rw [HL.out]; rfl, HB.out⟩
end Go.Proofs.YtfmecpnokefokaaGreatDoor.Ex
