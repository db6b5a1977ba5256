/-
  The walks of layer 8 (literal), on: the part at a place, a dollar alone, an escaped byte, the piece of an Escape or a Single. Conditions: texts of at most 30000 bytes.
-/
import Derived.Test.YtadaeecokkokjaaGreatLit1
import Derived.Lib.SlBytesRow
set_option linter.unusedSimpArgs false
set_option linter.unusedVariables false
namespace Go.Proofs.YtadaeecokkokjaaGreat.Li
open Go.ChangeShapes Go.WideShapes Go.Deep Go.RowKit Cls Md Mc Pa NM
set_option maxRecDepth 100000
def partV (p : Part) : Value := .agg #[.int .i64 (mo p.c), .int .i64 p.fr, .int .i64 p.fin, .int .i64 p.up, .bool p.op]
def atV : Option Part → Value
  | none => .agg #[.int .i64 0, .int .i64 0, .int .i64 0, .int .i64 0, .bool false]
  | some p => partV p
theorem at_any {w : World} {rb mb c : Nat} {lv : Value} {s : List UInt8} {L : List Part} (h : Rd w rb mb lv s L (idxP L) c) (at_ : Nat) (ha : at_ ≤ 2147483648) (hL : L.length ≤ 1073741824) :
    Calls Tryz.prog 65 #[.pointer (some ⟨rb, 0, none⟩), .int .i64 at_] w fun e w' => e = .returned (.tuple #[atV (atP L at_), .bool (atP L at_).isSome]) ∧ Below w.heap.size w w' := by
  have HLK := Lib.hid fun W (hW : Below w.heap.size w W) => (h.below hW).mp.look at_ ha
  have c1 := h.bx.c 1 _ rfl
  have c2 := h.bx.c 2 _ rfl
  haveI : Old w rb := ⟨h.bx.lt⟩
  by_cases hz : idxP L at_ = 0
  · have hn := atP_none hz
    rw [hz] at HLK
    have hlk := HLK.out _ (below_alloc (Below.refl w.heap.size w) (.cells #[.int .i64 0, .int .i64 0, .int .i64 0, .int .i64 0, .bool false] 109))
    rw [hn]
    clear h hn hz HLK
    go_enter Tryz.func65, Tryz.ntmps65
    go_wp2
    refine bodyPost_ret (v := .tuple #[atV none, .bool false]) (by simp [results, Tryz.results65, go_sem, atV]) rfl ?_
    exact ⟨rfl, by (repeat (first | exact Below.refl _ _ | assumption | with_reducible refine below_alloc ?_ _ | with_reducible refine below_grow ?_ _ | with_reducible refine below_drewN ?_ _ | with_reducible refine below_drew ?_ | with_reducible refine below_setCell ?_ (by first | (dsimp only; omega) | (simp; done) | (simp; omega)) _))⟩
  · obtain ⟨p, hp1, hp2, hp3⟩ := atP_some hz
    obtain ⟨A, cp, rfl, hcp⟩ := h.form
    obtain ⟨-, b, off, rfl, hb, hc⟩ := h.part hp2
    have hle := idxP_le L at_
    have hlk := HLK.out _ (below_alloc (Below.refl w.heap.size w) (.cells #[.int .i64 0, .int .i64 0, .int .i64 0, .int .i64 0, .bool false] 109))
    rw [hp1]
    obtain ⟨k, hk⟩ : ∃ k, idxP L at_ = k + 1 := ⟨idxP L at_ - 1, by omega⟩
    rw [hk] at hlk hc hle
    rw [Nat.add_sub_cancel] at hc
    have q0 := hc 0 _ rfl
    have q1 := hc 1 _ rfl
    have q2 := hc 2 _ rfl
    have q3 := hc 3 _ rfl
    have q4 := hc 4 _ rfl
    simp only [Nat.add_zero] at q0
    haveI : Old w b := ⟨hb⟩
    have p0 : ((k + 1 : Nat) : Int) - 1 = (k : Int) := by omega
    have p1 : (0 : Int) ≤ (k : Int) := by omega
    have p2 : (k : Int) < (L.length : Int) := by omega
    have p3 : (((k + 1 : Nat) : Int) == 0) = false := by rw [Bool.eq_false_iff]; intro e; rw [beq_iff_eq] at e; omega
    clear h hz HLK hp1 hp2 hp3 hk hc hle
    go_enter Tryz.func65, Tryz.ntmps65
    go_wp2
    refine bodyPost_ret (v := .tuple #[partV p, .bool true]) (by simp [results, Tryz.results65, go_sem, partV]) rfl ?_
    exact ⟨rfl, by (repeat (first | exact Below.refl _ _ | assumption | with_reducible refine below_alloc ?_ _ | with_reducible refine below_grow ?_ _ | with_reducible refine below_drewN ?_ _ | with_reducible refine below_drew ?_ | with_reducible refine below_setCell ?_ (by first | (dsimp only; omega) | (simp; done) | (simp; omega)) _))⟩
theorem lone_any (p : Part) (w : World) (hp : p.fr ≤ 2147483648) : Calls Tryz.prog 66 #[partV p] w fun e w' => e = .returned (.bool (loneP p)) ∧ Below w.heap.size w w' := by
  have h12 := mo_ne 76 p.c (by decide) 12 (by decide +kernel)
  have q1 : IntKind.i64.wrap ((p.fr : Int) + 1) = (p.fr : Int) + 1 := IntWalk.i64_in _ (by omega)
  unfold partV loneP
  cases hc : (p.c == 76) with
  | true =>
    rw [hc] at h12
    rw [Bool.true_and, show (p.fin == p.fr + 1) = (((p.fin : Nat) : Int) == (p.fr : Int) + 1) by rw [Bool.eq_iff_iff, beq_iff_eq, beq_iff_eq]; omega]
    generalize ((p.fin : Nat) : Int) = z at *
    go_enter Tryz.func66, Tryz.ntmps66
    go_wp2
    go_ret
    exact ⟨rfl, by (repeat (first | exact Below.refl _ _ | assumption | with_reducible refine below_alloc ?_ _ | with_reducible refine below_grow ?_ _ | with_reducible refine below_drewN ?_ _ | with_reducible refine below_drew ?_ | with_reducible refine below_setCell ?_ (by first | (dsimp only; omega) | (simp; done) | (simp; omega)) _))⟩
  | false =>
    rw [hc] at h12
    rw [Bool.false_and]
    go_enter Tryz.func66, Tryz.ntmps66
    go_wp2
    go_ret
    exact ⟨rfl, by (repeat (first | exact Below.refl _ _ | assumption | with_reducible refine below_alloc ?_ _ | with_reducible refine below_grow ?_ _ | with_reducible refine below_drewN ?_ _ | with_reducible refine below_drew ?_ | with_reducible refine below_setCell ?_ (by first | (dsimp only; omega) | (simp; done) | (simp; omega)) _))⟩
/-- 'string([]byte{c})', where the slice is new. -/
theorem conv_one (w : World) (c : UInt8) : (convert 68 9 (.slice (some ⟨w.heap.size, 0, none⟩) 1 1)).run Tryz.prog (w.alloc (.cells #[.int .u8 c.toNat] 5)) = .ok (.string (B [c])) (w.alloc (.cells #[.int .u8 c.toNat] 5)) := by
  have := Lib.run_convert_whole (P := Tryz.prog) (w.alloc (.cells #[.int .u8 c.toNat] 5)) _ _ _ Tryz.underlying68 Tryz.underlying5 Tryz.underlying9 w.heap.size 0 (B [c]) (fun i hi => by
    rw [B_size] at hi
    have : i = 0 := by simpa using hi
    subst this
    go_simp) 1
  rwa [B_size] at this
set_option maxHeartbeats 1000000 in
theorem escaped_any {w : World} {rb mb c : Nat} {lv : Value} {s : List UInt8} {L : List Part} {g : Nat → Nat} (h : Rd w rb mb lv s L g c) (p : Part) (hp : p.fr < p.fin ∧ p.fin ≤ s.length) (hs : s.length ≤ 30000) :
    Calls Tryz.prog 95 #[.pointer (some ⟨rb, 0, none⟩), partV p] w fun e w' => e = .returned (.string (B (escT s p))) ∧ Below w.heap.size w w' := by
  have c0 := h.bx.c 0 _ rfl
  haveI : Old w rb := ⟨h.bx.lt⟩
  obtain ⟨R, hR⟩ : ∃ R, escT s p = R := ⟨_, rfl⟩
  rw [hR]
  unfold escT at hR
  unfold partV
  have q0 : IntKind.i64.wrap ((p.fin : Int) - (p.fr : Int)) = (p.fin : Int) - (p.fr : Int) := IntWalk.i64_in _ (by omega)
  have q1 : IntKind.i64.wrap ((p.fr : Int) + 1) = (p.fr : Int) + 1 := IntWalk.i64_in _ (by omega)
  by_cases h2 : p.fin < p.fr + 2
  · rw [if_pos h2] at hR
    subst hR
    have q2 : (p.fin : Int) - (p.fr : Int) < 2 := by omega
    clear h
    go_enter Tryz.func95, Tryz.ntmps95
    go_wp2
    go_ret
    exact ⟨rfl, by (repeat (first | exact Below.refl _ _ | assumption | with_reducible refine below_alloc ?_ _ | with_reducible refine below_grow ?_ _ | with_reducible refine below_drewN ?_ _ | with_reducible refine below_drew ?_ | with_reducible refine below_setCell ?_ (by first | (dsimp only; omega) | (simp; done) | (simp; omega)) _))⟩
  · rw [if_neg h2] at hR
    have q2 : decide ((p.fin : Int) - (p.fr : Int) < 2) = false := decide_eq_false (by omega)
    have q3 : (0 : Int) ≤ (p.fr : Int) + 1 := by omega
    have q4 : (p.fr : Int) + 1 < (s.length : Int) := by omega
    have hlt : p.fr + 1 < s.length := by omega
    rw [List.getD_eq_getElem?_getD, List.getElem?_eq_getElem hlt, Option.getD_some] at hR
    have HR := Lib.hid hR
    have hcv := fun W => conv_one W s[p.fr + 1]
    have q5 : (0 : Int) ≤ (p.fr : Int) := by omega
    have q6 : (p.fr : Int) ≤ (p.fin : Int) := by omega
    have q7 : (p.fin : Int) ≤ (s.length : Int) := by omega
    clear h hR
    go_enter Tryz.func95, Tryz.ntmps95
    go_upto_region 3 with (fail)
    (refine wp_region_grow (by kernel_rfl) (by kernel_rfl) ?_; (repeat (go_big_quiet_step (fail))); refine wpQuiet_nil ?_; intro _ hw'; obtain ⟨gq, hw''⟩ := hw'; subst hw'')
    go_wp2
    all_goals (try ((refine wp_region_grow (by kernel_rfl) (by kernel_rfl) ?_; (repeat (go_big_quiet_step (fail))); refine wpQuiet_nil ?_; intro _ hw'; obtain ⟨gq, hw''⟩ := hw'; subst hw''); go_wp2))
    all_goals
      go_ret
      have hR := HR.out
      refine ⟨?_, by (repeat (first | exact Below.refl _ _ | assumption | with_reducible refine below_alloc ?_ _ | with_reducible refine below_grow ?_ _ | with_reducible refine below_drewN ?_ _ | with_reducible refine below_drew ?_ | with_reducible refine below_setCell ?_ (by first | (dsimp only; omega) | (simp; done) | (simp; omega)) _))⟩
      first
        | (rw [if_pos (by unfold escB; simp [*])] at hR; subst hR; rfl)
        | (rw [if_neg (by unfold escB; simp [*]), if_pos (by simp [*])] at hR; subst hR; rfl)
        | (rw [if_neg (by unfold escB; simp [*]), if_neg (by simp [*])] at hR; subst hR; rfl)
def pcV (q : Pc) : Value := .agg #[.bool q.ex, .bool q.qu, .string (B q.tx)]
/-- The piece of an Escape or a Single; where there is none, the first answer is not read. -/
def QuoPost (w : World) (T : Option Pc) (e : Ending) (w' : World) : Prop := ∃ q : Pc, e = .returned (.tuple #[pcV q, .bool T.isSome]) ∧ (∀ q', T = some q' → q = q') ∧ Below w.heap.size w w'
set_option maxHeartbeats 1000000 in
theorem quoted_any {w : World} {rb mb c : Nat} {lv : Value} {s : List UInt8} {L : List Part} {g : Nat → Nat} (h : Rd w rb mb lv s L g c) (p : Part) (hp : p.fr < p.fin ∧ p.fin ≤ s.length) (hs : s.length ≤ 30000) :
    Calls Tryz.prog 67 #[.pointer (some ⟨rb, 0, none⟩), partV p] w (QuoPost w (quoP s p)) := by
  have c0 := h.bx.c 0 _ rfl
  haveI : Old w rb := ⟨h.bx.lt⟩
  unfold quoP
  by_cases hc : p.c = 83
  · rw [if_pos hc]
    have hm : mo p.c = 4 := by rw [hc]; decide +kernel
    have HIN := Lib.hid fun W => inside_any (mo p.c) p.fr p.fin p.up p.op W (by omega) (by omega)
    have he : insF p = p.fr + 1 := by unfold insF; rw [hm]; rfl
    have ht : insT p ≤ s.length := by unfold insT; rw [he, hm]; simp [tailI]; omega
    have hft : insF p ≤ insT p := Nat.le_max_right _ _
    rw [show max (p.fin - tailI (mo p.c) p.op) (p.fr + headI (mo p.c)) = insT p from rfl, show p.fr + headI (mo p.c) = insF p from rfl] at HIN
    generalize insT p = tt at *
    generalize insF p = ff at *
    have q0 : (0 : Int) ≤ (ff : Int) := by omega
    have q1 : (ff : Int) ≤ (tt : Int) := by omega
    have q2 : (tt : Int) ≤ (s.length : Int) := by omega
    unfold partV
    rw [hm] at HIN ⊢
    clear h hm
    go_enter Tryz.func67, Tryz.ntmps67
    go_wp2_with (go_at_call 94; (refine (HIN.out _).mono ?_); rintro e w1 ⟨rfl, hb1⟩; obtain ⟨gg, rfl⟩ := to_grow hb1; clear hb1)
    refine bodyPost_ret (v := .tuple #[pcV ⟨false, true, subT s ff tt⟩, .bool true]) (by simp [results, Tryz.results67, go_sem, pcV, subT, he]) rfl ?_
    exact ⟨_, rfl, fun q' e => Option.some.inj e, by (repeat (first | exact Below.refl _ _ | assumption | with_reducible refine below_alloc ?_ _ | with_reducible refine below_grow ?_ _ | with_reducible refine below_drewN ?_ _ | with_reducible refine below_drew ?_ | with_reducible refine below_setCell ?_ (by first | (dsimp only; omega) | (simp; done) | (simp; omega)) _))⟩
  · obtain ⟨T, hT⟩ : ∃ T, (if p.c = 83 then some (⟨false, true, subT s (insF p) (insT p)⟩ : Pc) else if subT s (p.fr + 1) p.fin = [] ∨ subT s (p.fr + 1) p.fin = [10] then none else some ⟨false, true, subT s (p.fr + 1) p.fin⟩) = T := ⟨_, rfl⟩
    rw [hT]
    rw [if_neg hc] at hT
    have hT := Lib.hid hT
    have h4 := mo_ne 83 p.c (by decide) 4 (by decide +kernel)
    rw [show (p.c == 83) = false by simpa using hc] at h4
    have q0 : (0 : Int) ≤ (p.fr : Int) + 1 := by omega
    have q1 : (p.fr : Int) + 1 ≤ (p.fin : Int) := by omega
    have q2 : (p.fin : Int) ≤ (s.length : Int) := by omega
    have q3 : IntKind.i64.wrap ((p.fr : Int) + 1) = (p.fr : Int) + 1 := IntWalk.i64_in _ (by omega)
    unfold partV
    clear h
    go_enter Tryz.func67, Tryz.ntmps67
    go_upto_region 4 with (fail)
    (refine wp_region_grow (by kernel_rfl) (by kernel_rfl) ?_; (repeat (go_big_quiet_step (fail))); refine wpQuiet_nil ?_; intro _ hw'; obtain ⟨gq, hw''⟩ := hw'; subst hw'')
    unfold subT at hT
    generalize List.drop (p.fr + 1) (List.take p.fin s) = u at *
    by_cases e0 : u = []
    · subst e0
      have hT := hT.out
      rw [if_pos (.inl rfl)] at hT
      subst hT
      go_wp2
      refine bodyPost_ret (v := .tuple #[pcV ⟨false, true, []⟩, .bool false]) (by simp [results, Tryz.results67, go_sem, pcV]) rfl ?_
      exact ⟨_, rfl, (fun q' e => by cases e), by (repeat (first | exact Below.refl _ _ | assumption | with_reducible refine below_alloc ?_ _ | with_reducible refine below_grow ?_ _ | with_reducible refine below_drewN ?_ _ | with_reducible refine below_drew ?_ | with_reducible refine below_setCell ?_ (by first | (dsimp only; omega) | (simp; done) | (simp; omega)) _))⟩
    by_cases e1 : u = [10]
    · subst e1
      have hT := hT.out
      rw [if_pos (.inr rfl)] at hT
      subst hT
      go_wp2
      refine bodyPost_ret (v := .tuple #[pcV ⟨false, true, [10]⟩, .bool false]) (by simp [results, Tryz.results67, go_sem, pcV]) rfl ?_
      exact ⟨_, rfl, (fun q' e => by cases e), by (repeat (first | exact Below.refl _ _ | assumption | with_reducible refine below_alloc ?_ _ | with_reducible refine below_grow ?_ _ | with_reducible refine below_drewN ?_ _ | with_reducible refine below_drew ?_ | with_reducible refine below_setCell ?_ (by first | (dsimp only; omega) | (simp; done) | (simp; omega)) _))⟩
    have hT := hT.out
    rw [if_neg (fun e => e.elim e0 e1)] at hT
    subst hT
    have e2 : (u == [10]) = false := by simpa using e1
    have e3 : (u == []) = false := by simpa using e0
    have e4 : u.isEmpty = false := by simpa using e0
    go_wp2
    refine bodyPost_ret (v := .tuple #[pcV ⟨false, true, u⟩, .bool true]) (by simp [results, Tryz.results67, go_sem, pcV, *]) rfl ?_
    exact ⟨_, rfl, fun q' e => Option.some.inj e, by (repeat (first | exact Below.refl _ _ | assumption | with_reducible refine below_alloc ?_ _ | with_reducible refine below_grow ?_ _ | with_reducible refine below_drewN ?_ _ | with_reducible refine below_drew ?_ | with_reducible refine below_setCell ?_ (by first | (dsimp only; omega) | (simp; done) | (simp; omega)) _))⟩
end Go.Proofs.YtadaeecokkokjaaGreat.Li
