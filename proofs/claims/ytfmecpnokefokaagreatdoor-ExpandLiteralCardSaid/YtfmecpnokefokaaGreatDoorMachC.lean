/-
  The walks of the program's modes (layer 6), on: a word's end; what shuts all that is open. Conditions: texts of at most 2^29 bytes.
-/
import Derived.Test.YtfmecpnokefokaaGreatDoorMachB
import Derived.Test.YtfmecpnokefokaaGreatDoorHist
import Derived.Test.YtfmecpnokefokaaGreatDoorKeyed2
import Derived.Test.YtfmecpnokefokaaGreatDoorTailIn
import Derived.Test.YtfmecpnokefokaaGreatDoorAppStr
set_option linter.unusedSimpArgs false
set_option linter.unusedVariables false
namespace Go.Proofs.YtfmecpnokefokaaGreatDoor.Mc
open Go.ChangeShapes Go.WideShapes Go.Deep Go.RowKit Cls Md
set_option maxRecDepth 100000
def wendN (s : List UInt8) (a : Nat) : Nat := a + endFrom first 0 (s.drop a)
end Go.Proofs.YtfmecpnokefokaaGreatDoor.Mc
namespace Go.Proofs.YtfmecpnokefokaaGreatDoor.Mc
open Go.ChangeShapes Go.WideShapes Go.Deep Go.RowKit Cls Md Go.Shelf
attribute [local go_sem] Oper.semAt_some
set_option maxRecDepth 100000
theorem wpListIn_append_str {P : Program} {F : Fence} {m0 : Nat} {w : World} {ops : Array Oper} {rest : List Oper} {o : Oper} {a : Act} {Q : Exit → Act → World → Prop} (hgd : o.guard = none) (sl x : Operand) (t u : TypeId)
  (ho : o.op = .call { callee := .builtin .append, args := #[sl, x], argTypes := #[t, u] })
  (b0 e : Nat) (i : TypeInfo) (ht : P.underlying t = some (.slice e)) (hu : P.underlying u = some .string) (hi : P.info? e = some i) (hz : i.zero = some (.int .u8 0)) (hsize : i.size = 1) (hby : i.bytes = 1)
  (v : Value) (n : Nat) (xs : List UInt8) (hs : a.eval sl = v) (hown : Own w b0 1 v n (xs.flatMap byC)) (s : List UInt8) (hx : a.eval x = .string (B s))
  (h63 : n + s.length ≤ 70368744177664) (hb : b0 ≤ w.heap.size)
  (h : ∀ v' w', Own w' b0 1 v' (n + s.length) ((xs ++ s).flatMap byC) → Keeps (fun k => v.ownBlock = some k ∧ b0 ≤ k) w w' → (v'.ownBlock = v.ownBlock ∨ ∀ k, v'.ownBlock = some k → w.heap.size ≤ k) → (∀ k, v'.ownBlock = some k → w.heap.size ≤ k → tyOf w' k = some e) →
   wpListIn F m0 P ops Q rest (a.put o.dst v') w') : wpListIn F m0 P ops Q (o :: rest) a w := by
 refine wpListIn_plain hgd fun K hK' => ?_
 obtain ⟨v', w', hrun, r1, r2, r3, r4⟩ := run_append_str (P := P) w b0 t u o.type e i ht hu hi hz hsize hby v n xs hown s h63 hb
 unfold Oper.wpIn
 refine ⟨?_, ?_⟩
 ·simp [Oper.about, ho, resolve, Target.leads, Sem.run_pure]
 ·rw [Oper.semAt_plain F _ _ (by rw [ho]; intro c hc'; cases hc')]
  simp [execOp, ho, resolve, invoke, builtin, hs, hx, hrun, Result.andThen]
  exact hK' _ _ (h v' w' r1 r2 r3 r4)
def closeB (c : UInt8) : List UInt8 := if c = 83 then [39] else if c = 68 then [34] else if c = 66 then [96] else if c = 86 ∨ c = 73 then [125] else if c = 67 ∨ c = 79 ∨ c = 80 ∨ c = 82 ∨ c = 69 then [41] else if c = 65 then [41, 41] else if c = 88 ∨ c = 35 then [10] else []
theorem closer_in (c : UInt8) (hc : c ∈ modeL) (w : World) : Calls Tryz.prog 147 #[.int .i64 (mo c)] w fun e w' => e = .returned (.string (B (closeB c))) ∧ w = w' := by
 have h : ∀ (k : Int) (t : List UInt8), mo c = k → closeB c = t → (Calls Tryz.prog 147 #[.int .i64 k] w fun e w' => e = .returned (.string (B t)) ∧ w = w') → Calls Tryz.prog 147 #[.int .i64 (mo c)] w fun e w' => e = .returned (.string (B (closeB c))) ∧ w = w' := by
  intro k t h1 h2 h3
  rw [h1, h2]
  exact h3
 simp only [modeL, List.mem_cons, List.not_mem_nil, or_false] at hc
 rcases hc with rfl | rfl | rfl | rfl | rfl | rfl | rfl | rfl | rfl | rfl | rfl | rfl | rfl | rfl | rfl
 all_goals
  refine h _ _ (by rfl) (by rfl) ?_
  go_enter Tryz.func147, Tryz.ntmps147
  go_wp2
  go_ret
  exact ⟨rfl, rfl⟩
theorem closer_any (c : UInt8) (w : World) : Calls Tryz.prog 147 #[.int .i64 (mo c)] w fun e w' => e = .returned (.string (B (closeB c))) ∧ w = w' := by
 by_cases hc : c ∈ modeL
 ·exact closer_in c hc w
 ·have h1 : mo c = 15 := by unfold mo; rw [List.idxOf_eq_length hc]; rfl
  have h2 : closeB c = [] := by
   unfold closeB
   repeat' split
   all_goals first
    | rfl
    | (rename_i h; subst h; exact absurd (by decide) hc)
    | (rename_i h; rcases h with rfl | rfl <;> exact absurd (by decide) hc)
    | (rename_i h; rcases h with rfl | rfl | rfl | rfl | rfl <;> exact absurd (by decide) hc)
  rw [h1, h2]
  go_enter Tryz.func147, Tryz.ntmps147
  go_wp2
  go_ret
  exact ⟨rfl, rfl⟩
def encM (e : UInt8 × Nat) : Array Value := #[.int .i64 (mo e.1)]
@[go_sem] theorem encM_eq (e : UInt8 × Nat) : encM e = #[.int .i64 (mo e.1)] := rfl
theorem last1 (n : Nat) (hn : 1 ≤ n) (l b1 b0 : Nat) (v : Value) (xs : List (UInt8 × Nat)) (hx : xs.length ≤ 1073741824) (J Jx : List (UInt8 × Nat) → World → Prop)
  (hY : ∀ pre x W, J pre W → pre.length < xs.length → YieldAt Fence.wide (n - 1) Tryz.prog l (encM x) W fun e W' =>
   (e = .returned (.bool true) ∧ J (pre ++ [x]) W' ∧ KeepG (fun k => k = b1 ∨ v.ownBlock = some k) W W') ∨ (e = .returned (.bool false) ∧ Jx (pre ++ [x]) W'))
  (W : World) (h1 : W.cell? ⟨b1, 0, none⟩ = some v) (hh : Own W b0 2 v xs.length (xs.reverse.flatMap frC)) (h0 : J [] W) :
  CallsIn Fence.wide n Tryz.prog 168 #[.func (.yield l) #[] #[], .pointer (some ⟨b1, 0, none⟩)] W fun e W' => (∃ v, e = .returned v) ∧
   ((∃ ys, ys = xs ∧ J ys W') ∨ (∃ pre, pre <+: xs ∧ Jx pre W')) := by
 have HY := Lib.hid hY
 have H0 := Lib.hid h0
 have HH := Lib.hid hh
 obtain ⟨A, c, rfl, hA⟩ := hh.form0
 have HA := Lib.hid hA
 have hb1 : b1 < W.heap.size := World.block_lt_of_cell? W _ h1
 clear hY h0 hh hA
 haveI : Old W b1 := ⟨hb1⟩
 have hw0 : IntKind.i64.wrap ((xs.length : Int) - 1) = (xs.length : Int) - 1 := IntWalk.i64_in _ (by omega)
 refine callsIn_of_wp Tryz.func168 rfl trivial ?_ rfl
 simp only [Tryz.ntmps168, List.size_toArray, List.length_cons, List.length_nil, Nat.reduceAdd, Nat.reduceSub, Array.replicate_succ, Array.replicate_zero, List.push_toArray, List.append_toArray, List.nil_append, List.cons_append]
 gi_wp2
 have H1 := Lib.hid h1
 clear h1
 gi_loopw [3] (fun i wr => ∃ (k : Nat) (pre : List (UInt8 × Nat)), k ≤ xs.length ∧ i = .int .i64 ((k : Int) - 1) ∧ Hid (xs = pre ++ xs.drop (xs.length - k)) ∧ Hid (J pre wr) ∧ Hid (KeepG (fun k => k = b1 ∨ (Value.slice A xs.length c).ownBlock = some k) W wr)) (fun i _ => (intOf i + 1).toNat)
 case atStart => exact ⟨xs.length, [], Nat.le_refl _, rfl, Lib.hid (by simp), H0, Lib.hid (fun _ _ => rfl)⟩
 case round =>
  clear H0
  obtain ⟨k, pre, hk, rfl, HP, HJ, HK⟩ := hrel
  by_cases hkl : 0 < k
  ·obtain ⟨x, hxk⟩ := get_some (xs := xs) (k := xs.length - k) (by omega)
   obtain ⟨g, off, rfl⟩ := HA.out (by omega)
   have hrv : xs.reverse[k - 1]? = some x := by rw [List.getElem?_reverse (by omega), show xs.length - 1 - (k - 1) = xs.length - k by omega]; exact hxk
   have hc := (Own.fr HH.out hrv).1
   have hgl := HH.out.lt g rfl
   have z0 := (HK.out.cell (o := off + (k - 1) * 2) (.inr rfl)).trans hc
   have z1 := (HK.out.cell (o := 0) (.inl rfl)).trans H1.out
   have q1 : (0 : Int) ≤ (k : Int) - 1 := by omega
   have q2 : (k : Int) - 1 < (xs.length : Int) := by omega
   have q3 : ((k : Int) - 1).toNat = k - 1 := by omega
   have hp2 : xs = (pre ++ [x]) ++ xs.drop (xs.length - (k - 1)) := by
    obtain ⟨h9, e9⟩ := List.getElem?_eq_some_iff.1 hxk
    have h3 := HP.out
    rw [List.drop_eq_getElem_cons h9, e9, show xs.length - k + 1 = xs.length - (k - 1) by omega] at h3
    rw [List.append_assoc]
    exact h3
   have hlen : pre.length < xs.length := by
    have := congrArg List.length hp2
    simp only [List.length_append, List.length_cons, List.length_nil] at this
    omega
   have HP2 := Lib.hid hp2
   have q4 : IntKind.i64.wrap ((k : Int) - 1 - 1) = (k : Int) - 1 - 1 := IntWalk.i64_in _ (by omega)
   obtain ⟨fn, tmps, assign, body, hy, hR⟩ := HY.out _ x _ HJ.out hlen
   have HEN : Hid (encM x = #[.int .i64 (mo x.1)]) := rfl
   rw [HEN.out] at hy
   clear hlen hp2 hxk hrv hc
   gi_wp2
   refine hR.mono ?_
   rintro e W3 (⟨rfl, hJ3, hk3⟩ | ⟨rfl, hJx3⟩)
   ·have HJ3 := Lib.hid hJ3
    have HK3 := Lib.hid (fun j hj => (hk3 j hj).trans (HK.out j hj))
    clear hk3 hJ3
    gi_wp2
    go_roundw
    case rel => exact ⟨k - 1, _, by omega, by rw [show ((k - 1 : Nat) : Int) = (k : Int) - 1 by omega], HP2, HJ3, HK3⟩
    case measure => simp [intOf]; omega
   ·have HJ3 := Lib.hid hJx3
    clear hJx3
    gi_wp2
    refine bodyPost_ret (results_none rfl _ _ _) rfl ?_
    exact ⟨⟨_, rfl⟩, .inr ⟨_, ⟨_, HP2.out.symm⟩, HJ3.out⟩⟩
  ·have hk0 : k = 0 := by omega
   subst hk0
   have h3 := HP.out
   rw [show xs.length - 0 = xs.length by omega, List.drop_length, List.append_nil] at h3
   have H3 := Lib.hid h3
   clear h3 hkl
   gi_wp2
   go_end0
   exact ⟨⟨_, rfl⟩, .inl ⟨_, H3.out.symm, HJ.out⟩⟩
theorem last_any (A : Option Addr) (n c : Nat) (w : World) : Calls Tryz.prog 146 #[.slice A n c] w fun e w' => e = .returned (.func (.func 168) #[] #[.pointer (some ⟨w.heap.size, 0, none⟩)]) ∧ w' = w.alloc (.cells #[.slice A n c] 175) := by
 go_enter Tryz.func146, Tryz.ntmps146
 go_wp2
 go_ret
 exact ⟨rfl, rfl⟩
def closL (l : List (UInt8 × Nat)) : List UInt8 := l.flatMap fun e => closeB e.1
theorem closL_len (l : List (UInt8 × Nat)) : (closL l).length ≤ 2 * l.length := by
 induction l with
 | nil => exact Nat.le_refl _
 | cons a r ih =>
  have h : (closeB a.1).length ≤ 2 := by
   unfold closeB
   repeat' split
   all_goals simp
  unfold closL at *
  rw [List.flatMap_cons, List.length_append, List.length_cons]
  omega
theorem closL_app (a b : List (UInt8 × Nat)) : closL (a ++ b) = closL a ++ closL b := List.flatMap_append
theorem cells_of_ty {W : World} {k : Nat} {t : TypeId} (h : tyOf W k = some t) : ∃ o, W.heap[k]? = some o ∧ o.isCells = true := by
 unfold tyOf at h
 split at h
 ·rename_i x; exact ⟨_, x, rfl⟩
 ·cases h
structure CloI (w : World) (b0 B : Nat) (pre : List (UInt8 × Nat)) (v : Value) (W : World) : Prop where
 o : BoxOwn W b0 B 1 v (closL pre).length ((closL pre).flatMap byC)
 t : TyS W v 5
 b : Below w.heap.size w W
theorem tyS_lull {A : Nat} {W W' : World} {v : Value} {e : TypeId} (h : TyS W v e) (hL : Lull A W W') : TyS W' v e := fun k hk => by
 obtain ⟨o, h1, h2⟩ := cells_of_ty (h k hk)
 exact (tyOf_of_block ((hL.cells k o h1 h2).trans h1.symm)).trans (h k hk)
theorem CloI.lull {w W W' : World} {A b0 B : Nat} {pre : List (UInt8 × Nat)} {v : Value} (h : CloI w b0 B pre v W) (hL : Lull A W W') (hA : w.heap.size ≤ A) : CloI w b0 B pre v W' :=
 ⟨h.o.lull hL, tyS_lull h.t hL, hL.below h.b hA (Nat.le_refl _)⟩
theorem closing_any (s : List UInt8) (w : World) (hs : s.length ≤ 536870912) : Calls Tryz.prog 121 #[.string (B s)] w fun e w' => e = .returned (.string (B (closL (run s).l))) ∧ Below w.heap.size w w' := by
 obtain ⟨i1, hi1, hz10, hz11, hz12⟩ := info_parts info_u8
 have hrl := run_len s
 have HWF := Lib.hid (wf_run s)
 have HR := Lib.hid fun W => mrun_any s W hs
 generalize run s = x at *
 refine (callsIn_wide (n := 9)).1 ?_; refine callsIn_of_wp_marks Tryz.func121 rfl trivial ?_ rfl; simp only [Tryz.ntmps121, List.size_toArray, List.length_cons, List.length_nil, Nat.reduceAdd, Nat.reduceSub, Array.replicate_succ, Array.replicate_zero, List.push_toArray, List.append_toArray, List.nil_append, List.cons_append]
 refine wpIn_wide.2 ?_
 go_wp2_with (first
  | (go_at_call 145; refine (HR.out _).mono ?_; rintro e w1 ⟨v1, rfl, ho1, hb1⟩; obtain ⟨A1, c1, rfl, -⟩ := ho1.form0; have HO1 := Lib.hid ho1; have HB1 := Lib.hid hb1; clear ho1 hb1)
  | (go_at_call 146; refine (last_any _ _ _ _).mono ?_; rintro e w2 ⟨rfl, rfl⟩))
 obtain ⟨w3, hw3⟩ : ∃ w3, w3 = (w1.alloc (.cells #[.slice none 0 0] 42)).alloc (.cells #[.slice A1 x.l.length c1] 175) := ⟨_, rfl⟩
 have hsz3 : w3.heap.size = w1.heap.size + 2 := by rw [hw3]; simp
 have hb13 : Below w1.heap.size w1 w3 := by rw [hw3]; exact below_alloc (below_alloc (Below.refl _ _) _) _
 have hws := HB1.out.size
 have HGi : Hid (Gives Tryz.prog 168 #[.pointer (some ⟨w1.heap.size + 1, 0, none⟩)] encM (fun k => k = w1.heap.size + 1 ∨ (Value.slice A1 x.l.length c1).ownBlock = some k) x.l w3) := by
  intro n hn l J Jx W hW hJ _ hY h0
  refine last1 n hn l _ w.heap.size _ x.l (by omega) J Jx hY W ?_ ((HO1.out.below hb13).below hW) h0
  rw [hW.cell (p := ⟨w1.heap.size + 1, 0, none⟩) (show w1.heap.size + 1 < w3.heap.size by omega), hw3]
  simp [go_sem]
 have HI0 : Hid (CloI w w3.heap.size w1.heap.size [] (.slice none 0 0) w3) := by
  refine ⟨⟨by omega, by rw [hw3]; go_simp, by rw [hw3]; simp [go_sem], Own.nil _ _ _, by simp [Value.ownBlock]⟩, (fun k h => by cases h), below_then HB1.out hb13⟩
 rw [← hw3]
 clear hw3
 refine (wpIn_wide (n := 9)).1 ?_
 refine wpIn_iter1 (n := 9) 14 6 (fun e : UInt8 × Nat => .int .i64 (mo e.1)) (by omega) rfl (enters_of Tryz.func168 (by kernel_rfl) rfl) HGi.out (fun k hk => by
   rcases hk with rfl | e
   ·omega
   ·have := HO1.out.lt k e; omega)
  (fun pre W => ∃ v, CloI w w3.heap.size w1.heap.size pre v W) (fun _ _ _ => False) ?hI (fun _ _ _ _ _ h => h) ?h0 ?assign ?body ?done ?stop
 case hI => exact fun s W W' hL ⟨v, h⟩ => ⟨v, h.lull hL (by omega)⟩
 case h0 => exact ⟨_, HI0.out⟩
 case assign =>
  intro l y W K hK
  gi_wp2
  exact hK
 case body =>
  rintro l pre y W hs1 ⟨v, g⟩ hpl
  have hc := g.o.c
  have hf := g.o.f
  have hlt := g.o.lt
  have hcl := closL_len pre
  have hcl1 : (closeB y.1).length ≤ 2 := by have := closL_len [y]; simpa [closL] using this
  have HCL := Lib.hid fun w => closer_any y.1 w
  have G := Lib.hid g
  haveI : Old W w1.heap.size := ⟨hlt⟩
  clear g
  gi_wp2
  (refine wpIn_region_grow_tail 3 (lax_round _) (by kernel_rfl) (by kernel_rfl) (by kernel_rfl) ?_; simp only [List.take_succ_cons, List.take_zero, List.drop_succ_cons, List.drop_zero]; (repeat (go_big_quiet_step ((go_at_call 147; exact grow_same (HCL.out _))))); refine wpQuiet_nil ?_; intro _ hw'; obtain ⟨gq, hw''⟩ := hw'; subst hw'')
  refine wpListIn_append_str rfl (.tmp 15) (.tmp 17) 42 9 rfl w3.heap.size 5 i1 Tryz.underlying42 Tryz.underlying9 hi1 hz10 hz11 hz12 v _ (closL pre) rfl (G.out.o.own.below (grow_below _ _)) (closeB y.1) rfl (by omega) (Nat.le_trans hs1 (grow_below W gq).size) ?_
  intro v2 w2 hown2 hg2 hat2 hty2
  obtain ⟨A2, c2, rfl, -⟩ := hown2.form0
  have hgb := grow_below W gq
  obtain ⟨s1, s2, s3, s4⟩ := (G.out.o.below hgb).store hown2 hg2 hat2
  have HT := Lib.hid (TyS.append (tyS_below G.out.t hgb) (tyS_lt (tyS_below G.out.t hgb)) hg2 hat2 hty2)
  have hK := (Keeps.of_below (F := fun k => k = w1.heap.size ∨ (v.ownBlock = some k ∧ w3.heap.size ≤ k)) hgb).trans s4
  have R := Lib.hid (And.intro s1 hK)
  clear hown2 hg2 hat2 hty2 s1 s4 hK
  gi_wp2
  have hgz : ∀ k, (k = w1.heap.size + 1 ∨ (Value.slice A1 x.l.length c1).ownBlock = some k) → k < w1.heap.size + 2 ∧ k ≠ w1.heap.size := fun k hk => by
   rcases hk with rfl | e
   ·omega
   ·have := HO1.out.lt k e; omega
  refine ⟨KeepsFrom.of_keeps R.out.2 fun k hF _ hA => ?_, KeepG.of_keeps R.out.2 (fun k hk => ?_) (fun k hk hF => ?_), .slice A2 ((closL pre).length + (closeB y.1).length) c2, ?_, ?_, below_keeps G.out.b R.out.2 (fun k hk => by omega)⟩
  ·rcases hF with e | ⟨e, _⟩
   ·omega
   ·exact cells_of_ty (G.out.t k e)
  ·have := hgz k hk; omega
  ·have := hgz k hk; omega
  ·rw [closL_app, List.length_append, show closL [y] = closeB y.1 by simp [closL]]
   exact R.out.1
  ·exact tyS_keeps HT.out (Keeps.setCell (F := fun k => k = w1.heap.size) w2 (a := ⟨w1.heap.size, 0, none⟩) rfl _)
 case done =>
  rintro D W hD ⟨v, g⟩ hK
  have hc := g.o.c
  have hlt := g.o.lt
  have hcv := conv_by g.o.own rfl
  have HB := Lib.hid g.b
  haveI : Old W w1.heap.size := ⟨hlt⟩
  clear g
  gi_wp2
  go_wp2
  have hL : Lull w3.heap.size W (W.putObj D (.deferred none)) := Lull.of_grown (grownBy_putObj' _ D _) (fun r e => by cases e; exact ⟨hD, _, hK, rfl⟩)
  refine ⟨by simp, .inl ⟨_, _, rfl, run_takeDeferred hK, ?_⟩⟩
  exact ⟨_, results_tmp rfl _ _ _, rfl, hL.below HB.out (by omega) (Nat.le_refl _)⟩
 case stop =>
  rintro D c pre W _ _ h _
  exact h.elim
end Go.Proofs.YtfmecpnokefokaaGreatDoor.Mc
