/-
  What a word means (layer 8): literal.Value; every form of a text (layer 17) means that text.
-/
import Derived.Test.YtadaeecokkokjaaGreatDoorLit5
import Derived.Test.YtadaeecokkokjaaGreatDoorBld
import Derived.Test.YtadaeecokkokjaaGreatDoorIter
import Derived.Test.YtadaeecokkokjaaGreatDoorWordPlain
import Derived.Test.YtadaeecokkokjaaGreatDoorTailIn
set_option linter.unusedSimpArgs false
set_option linter.unusedVariables false
/-
  What a word means (layer 8), plainly, on: how long the pieces' texts are; a text's value. No program in sight.
-/
namespace Go.Proofs.YtadaeecokkokjaaGreatDoor.Li
set_option linter.unusedSimpArgs false
set_option linter.unusedVariables false
open Cls Md Mc Pa
def txL (l : List Pc) : List UInt8 := l.flatMap Pc.tx
theorem txL_app (a b : List Pc) : txL (a ++ b) = txL a ++ txL b := List.flatMap_append
theorem txL_cons (a : Pc) (b : List Pc) : txL (a :: b) = a.tx ++ txL b := rfl
theorem valP_eq (l : List Pc) (a : List UInt8) : valP l a = if l.all (fun p => !p.ex) = true then (a ++ txL l, true) else ([], false) := by
  induction l generalizing a with
  | nil => simp [valP, txL]
  | cons p r ih =>
    unfold valP
    cases h : p.ex with
    | true => simp [h]
    | false =>
      rw [if_neg (by simp), ih, txL_cons]
      simp [h]
theorem flushP_tx (pl : List UInt8) : txL (flushP pl) = pl := by
  unfold flushP
  split
  · rename_i h; rw [h]; rfl
  · simp [txL]
theorem dblP_tx {s : List UInt8} {L : List Part} (hS : Sound s L) {tt : Nat} (ht : tt ≤ s.length + 3) (f at_ : Nat) (here : List UInt8) (x : Bool) : (txL (dblP s L tt f at_ here x)).length ≤ here.length + (s.length + 3 - at_) := by
  induction f generalizing at_ here x with
  | zero => simp [dblP, txL]
  | succ f ih =>
    by_cases h1 : at_ < tt
    · cases hA : atP L at_ with
      | none =>
        rw [dblP_none h1 hA]
        have := ih (at_ + 1) (here ++ [s.getD at_ 0]) x
        rw [List.length_append, List.length_singleton] at this
        omega
      | some k =>
        obtain ⟨hkm, hkf⟩ := atP_mem hA
        have hk := hS k hkm
        rw [dblP_some h1 hA]
        by_cases h2 : loneP k = true
        · rw [if_pos h2]
          have := ih (at_ + 1) (here ++ [s.getD at_ 0]) x
          rw [List.length_append, List.length_singleton] at this
          omega
        · rw [if_neg h2]
          by_cases h3 : k.c = 88
          · rw [if_pos h3]
            have := ih k.fin (here ++ escT s k) x
            have h4 := escT_len s k hk.1
            rw [List.length_append] at this
            omega
          · rw [if_neg h3]
            have := ih k.fin [] true
            have h4 := subT_len s k.fr k.fin hk.2
            rw [txL_app, txL_cons, List.length_append, List.length_append]
            have h5 : (txL (if here = [] then [] else [⟨false, true, here⟩])).length ≤ here.length := by
              split <;> simp [txL]
            simp only [h4, List.length_nil] at *
            omega
    · rw [dblP_end h1]
      split <;> simp [txL]
theorem eachP_tx {s : List UInt8} {L : List Part} (hS : Sound s L) (f at_ : Nat) (pl : List UInt8) : (txL (eachP s L f at_ pl)).length ≤ pl.length + (s.length - at_) * (s.length + 4) := by
  induction f generalizing at_ pl with
  | zero => simp [eachP, txL]
  | succ f ih =>
    by_cases h1 : at_ < s.length
    · have mul : ∀ fin, at_ < fin → (s.length - fin) * (s.length + 4) + (s.length + 4) ≤ (s.length - at_) * (s.length + 4) := fun fin h => by
        have h2 : s.length - fin + 1 ≤ s.length - at_ := by omega
        have := Nat.mul_le_mul_right (s.length + 4) h2
        rw [Nat.add_mul, Nat.one_mul] at this
        exact this
      cases hA : atP L at_ with
      | none =>
        rw [eachP_none h1 hA]
        have := ih (at_ + 1) (pl ++ [s.getD at_ 0])
        have h2 := mul (at_ + 1) (by omega)
        rw [List.length_append, List.length_singleton] at this
        omega
      | some p =>
        obtain ⟨hpm, hpf⟩ := atP_mem hA
        have hp := hS p hpm
        have h2 := mul p.fin (by omega)
        have h0 := ih p.fin []
        have hn := ih p.fin pl
        have hsub := subT_len s p.fr p.fin hp.2
        simp only [List.length_nil] at h0
        rw [eachP_some h1 hA]
        by_cases c1 : loneP p = true ∨ p.c = 35
        · rw [if_pos c1]
          have := ih p.fin (pl ++ subT s p.fr p.fin)
          rw [List.length_append, hsub] at this
          omega
        rw [if_neg c1]
        by_cases c2 : p.c = 88 ∨ p.c = 83
        · rw [if_pos c2]
          cases hq : quoP s p with
          | none => dsimp only; omega
          | some q =>
            dsimp only
            rw [txL_app, txL_cons, flushP_tx, List.length_append, List.length_append]
            have hql : q.tx.length ≤ s.length := by
              unfold quoP at hq
              split at hq
              · cases hq
                show ((s.take (insT p)).drop (insF p)).length ≤ s.length
                rw [List.length_drop, List.length_take]; omega
              · split at hq
                · cases hq
                · cases hq
                  show ((s.take p.fin).drop (p.fr + 1)).length ≤ s.length
                  rw [List.length_drop, List.length_take]; omega
            omega
        rw [if_neg c2]
        by_cases c3 : p.c = 68
        · rw [if_pos c3, txL_app, txL_app, flushP_tx, List.length_append, List.length_append]
          have htt : insT p ≤ s.length + 3 := by
            have h3 := headI_le (mo p.c)
            unfold insT insF
            omega
          have := dblP_tx hS htt (s.length + 1) (insF p) [] false
          have h4 : 1 ≤ headI (mo p.c) := by rw [c3]; decide +kernel
          unfold insF at this ⊢
          simp only [List.length_nil] at this
          omega
        rw [if_neg c3, txL_app, txL_cons, flushP_tx, List.length_append, List.length_append, hsub]
        omega
    · rw [eachP_end h1, flushP_tx]
      omega
theorem pieces_tx (s : List UInt8) (hs : s.length ≤ 30000) {pre : List Pc} (h : pre <+: piecesL s) : (txL pre).length ≤ 1000000000 := by
  obtain ⟨t, ht⟩ := h
  have h1 := eachP_tx (parts_sound s) (s.length + 1) 0 []
  have h2 : (s.length - 0) * (s.length + 4) ≤ 30000 * 30004 := Nat.mul_le_mul (by omega) (by omega)
  have h3 : (txL (piecesL s)).length = (txL pre).length + (txL t).length := by rw [← ht, txL_app, List.length_append]
  unfold piecesL at h3
  simp only [List.length_nil] at h1
  omega
end Go.Proofs.YtadaeecokkokjaaGreatDoor.Li
/-
  strings.Builder in a block of the caller's own: just what its functions may write. Conditions: at most 2^46 bytes.
-/
namespace Go.Proofs.YtadaeecokkokjaaGreatDoor.Bd
open Go.ChangeShapes Go.WideShapes Go.Deep Go.RowKit
set_option maxRecDepth 100000
theorem wstr_own {w : World} {b R : Nat} {v : Value} {l s : List UInt8} (h : Bld w b R v l) (hlen : l.length + s.length ≤ 70368744177664) (hR : R ≤ w.heap.size) :
    Calls Tryz.prog 28 #[.pointer (some ⟨b, 0, none⟩), .string (B s)] w fun e w' => e = .returned (.tuple #[.int .i64 s.length, .nilIface]) ∧ ∃ v', Bld w' b R v' (l ++ s) ∧ Keeps (fun k => k = b ∨ v.ownBlock = some k) w w' := by
  obtain ⟨i0, hi, hz0, hz1, hz2⟩ := info_parts info_u8
  have HC := Lib.hid (copy_any h)
  clear h
  go_enter Tryz.func28, Tryz.ntmps28
  go_wp2_with (go_at_call 45; refine HC.out.mono ?_)
  rintro e w1 ⟨rfl, h1, c0, hk1⟩
  have HK1 := Lib.hid hk1
  have hR1 : R ≤ w1.heap.size := Nat.le_trans hR hk1.size
  obtain ⟨_, c1, f0, f1, sh⟩ := h1.c
  have H1 := Lib.hid h1
  clear h1 hk1 sh
  go_wp2_with (at_builtin; refine wpList_append_row rfl (.tmp 12) (.tmp 13) 55 9 rfl R 5 i0 Tryz.underlying55 Tryz.underlying9 hi hz0 hz1 hz2 _ _ _ rfl H1.out.row (B s) rfl (by rw [B_size]; omega) hR1 ?_)
  intro v' w2 hown' hk2 hgrow
  rw [byC_str, byC_cells, ← List.flatMap_append, ← byC_cells, ← List.length_append] at hown'
  obtain ⟨d0, d1, e1, hB⟩ := H1.out.store c0 hown' hgrow
  have HB := Lib.hid hB
  have HK2 := Lib.hid (show Keeps (fun k => v.ownBlock = some k) w1 w2 from ⟨hgrow.os, hgrow.tape, hgrow.output, hgrow.size, fun k hk hne => hgrow.block k hk (fun e => hne e.symm), hk2.ty⟩)
  obtain ⟨ao, n', cap, rfl⟩ : ∃ ao n' cap, v' = .slice ao n' cap := by
    rcases hown'.2 with ⟨hv, _⟩ | ⟨g, cap, cur, hv, _⟩
    · exact ⟨_, _, _, hv⟩
    · exact ⟨_, _, _, hv⟩
  clear hB hk2 hown' hgrow
  go_wp2
  go_ret2
  refine ⟨rfl, _, HB.out, ?_⟩
  exact ((HK1.out.mono fun k _ e => .inl e).trans (HK2.out.mono fun k _ e => .inr e)).trans (Keeps.setCell (F := fun k => k = b ∨ v.ownBlock = some k) w2 (a := ⟨b, 1, none⟩) (.inl rfl) _)
theorem keeps_freeze (w : World) (g n : Nat) : Keeps (fun k => k = g) w (w.freeze ⟨g, 0, none⟩ n) := by
  unfold World.freeze
  split
  · exact Keeps.refl _ _
  · refine ⟨rfl, rfl, rfl, by simp, fun k hk hne => ?_, fun k hk => ?_⟩
    · simp only [Array.getElem?_modify]
      rw [if_neg (fun e => hne e.symm)]
    · by_cases e : k = g
      · subst e
        unfold tyOf
        simp only [Array.getElem?_modify, if_true]
        cases hh : w.heap[k]? with
        | none => simp
        | some o => cases o <;> simp
      · refine tyOf_of_block ?_
        simp only [Array.getElem?_modify]
        rw [if_neg (fun q => e q.symm)]
/-- The library's own names of (*Builder).String's closure, at this program. -/
def sren : Go.Shelf.Ren := ⟨fun | 169 => 29 | n => n, fun | 0 => 0 | 3 => 3 | 9 => 9 | 37 => 55 | 70 => 54 | 72 => 57 | 127 => 77 | 5 => 5 | n => n, fun n => n⟩
theorem slays : Go.Proofs.Lays.n169 Tryz.prog sren := {
  mixed := by kernel_rfl
  f169 := Tryz.func29.trans (congrArg some (by kernel_rfl))
  t0 := Tryz.underlying0
  a0 := Tryz.isAgg0
  z0 := Tryz.sizeOf0
  v0 := Tryz.zeroValue0
  t3 := Tryz.underlying3
  a3 := Tryz.isAgg3
  z3 := Tryz.sizeOf3
  v3 := Tryz.zeroValue3
  t9 := Tryz.underlying9
  a9 := Tryz.isAgg9
  z9 := Tryz.sizeOf9
  v9 := Tryz.zeroValue9
  t37 := Tryz.underlying55
  a37 := Tryz.isAgg55
  z37 := Tryz.sizeOf55
  v37 := Tryz.zeroValue55
  t70 := Tryz.underlying54
  a70 := Tryz.isAgg54
  z70 := Tryz.sizeOf54
  v70 := Tryz.zeroValue54
  t72 := Tryz.underlying57
  a72 := Tryz.isAgg57
  z72 := Tryz.sizeOf57
  v72 := Tryz.zeroValue57
  t127 := Tryz.underlying77
  a127 := Tryz.isAgg77
  z127 := Tryz.sizeOf77
  v127 := Tryz.zeroValue77 }
theorem sextra : Builder.Extra Tryz.prog sren := {
  sizeBuilder := by kernel_rfl
  liesBuilder := by kernel_rfl
  t5 := Tryz.underlying5
  a5 := Tryz.isAgg5
  z5 := Tryz.sizeOf5
  v5 := Tryz.zeroValue5
  infoByte := by kernel_rfl
  cellsByte := by kernel_rfl
  sizeByte := by kernel_rfl
  neB5 := by decide }
set_option maxHeartbeats 2000000 in
/-- The builder's text; only its row is touched. -/
theorem bstr_own {w : World} {b R : Nat} {v : Value} {l : List UInt8} (h : Bld w b R v l) :
    Calls Tryz.prog 29 #[.pointer (some ⟨b, 0, none⟩)] w fun e w' => e = .returned (.string (B l)) ∧ Keeps (fun k => v.ownBlock = some k) w w' := by
  obtain ⟨p, hp, hbk⟩ := h.at_
  have hown := h.row
  rcases hown.2 with ⟨hv, hn⟩ | ⟨g, cap, cur, hv, hbg, hg, hnc, hcm, hcs, htake⟩
  · have hl := List.eq_nil_of_length_eq_zero hn
    subst hl hv
    exact (Any.Builder_String_nil slays sextra w.heap.size b p w hbk).mono fun e w' q => ⟨q.1, Keeps.of_below q.2⟩
  · subst hv
    by_cases h0 : l = []
    · subst h0
      by_cases hc0 : cap = 0
      · subst hc0
        exact (Any.Builder_String_noroom slays sextra w.heap.size b g p cur w (Nat.le_refl _) hbk hg).mono fun e w' q => ⟨q.1, Keeps.of_below q.2⟩
      · exact (Any.Builder_String_room slays sextra w.heap.size b g cap p w hc0 hbk).mono fun e w' q => ⟨q.1, Keeps.of_below q.2⟩
    · have hl0 : l.length ≠ 0 := by simpa using h0
      have c1 : w.drew.cell? ⟨b, 1, none⟩ = some (.slice (some ⟨g, 0, none⟩) l.length cap) := by
        have : w.drew.heap[b]? = some (.cells #[p, .slice (some ⟨g, 0, none⟩) l.length cap] 57 (0, 0)) := hbk
        rw [Lib.cell_of_heap this]; rfl
      have hSD : (Builtin.unsafeSliceData_ #[55] 77 #[.slice (some ⟨g, 0, none⟩) l.length cap]).run Tryz.prog w.drew = .ok (.pointer (some ⟨g, 0, none⟩)) w.drew :=
        Lib.run_unsafeSliceData_row _ _ _ _ _ _ (by omega)
      have hUS : (Builtin.unsafeString_ #[77, 3] 9 #[.pointer (some ⟨g, 0, none⟩), .int .i64 l.length]).run Tryz.prog w.drew = .ok (.string ⟨l.toArray⟩) (w.drew.freeze ⟨g, 0, none⟩ l.length) := by
        refine Lib.run_unsafeString_row w.drew 77 3 9 5 Tryz.underlying77 sextra.cellsByte g cur.size (by have hg' : w.drew.heap[g]? = some (.cells cur 5 (0, 0)) := hg; simp [World.shape?, hg']) l h0 (by omega) (by unfold maxLen at hcm; omega) ?_
        intro j x hx
        exact hown.cells (g := g) rfl j (.int .u8 x.toNat) (by simp [Lib.byteCells, hx])
      have HK := Lib.hid (show Keeps (fun k => (Value.slice (some ⟨g, 0, none⟩) l.length cap).ownBlock = some k) w (w.drew.freeze ⟨g, 0, none⟩ l.length) from (Keeps.of_below (below_drew (Below.refl _ _))).trans ((keeps_freeze w.drew g l.length).mono fun k _ e => by rw [show k = g from e]; rfl))
      have mixed : Tryz.prog.follows .mixedOrders = true := by kernel_rfl
      clear hown h
      go_enter Tryz.func29, Tryz.ntmps29
      go_wp2
      go_region_o
      all_goals (go_wp2; go_ret; exact ⟨rfl, HK.out⟩)
end Go.Proofs.YtadaeecokkokjaaGreatDoor.Bd
/-
  The walk of layer 8 (literal), on: a text's value. Conditions: texts of at most 30000 bytes.
-/
namespace Go.Proofs.YtadaeecokkokjaaGreatDoor.Bd
open Go.ChangeShapes Go.WideShapes Go.Deep Go.RowKit
theorem Bld.lull {A : Nat} {w w' : World} {b R : Nat} {v : Value} {l : List UInt8} (h : Bld w b R v l) (hL : Lull A w w') : Bld w' b R v l := by
  obtain ⟨p, hp, hh⟩ := h.at_
  refine ⟨⟨p, hp, hL.cells b _ hh rfl⟩, ?_, h.ne⟩
  obtain ⟨h1, h2⟩ := h.row
  refine ⟨h1, ?_⟩
  rcases h2 with h2 | ⟨g, c, cur, e, hg, hhg, r⟩
  · exact .inl h2
  · exact .inr ⟨g, c, cur, e, hg, hL.cells g _ hhg rfl, r⟩
theorem Bld.keepsV {F : Nat → Prop} {w w' : World} {b R : Nat} {v : Value} {l : List UInt8} (h : Bld w b R v l) (hk : Keeps F w w') (hb : ¬ F b) (hv : ∀ k, v.ownBlock = some k → ¬ F k) : Bld w' b R v l := by
  obtain ⟨p, hp, hh⟩ := h.at_
  refine ⟨⟨p, hp, (hk.block b h.lt hb).trans hh⟩, ?_, h.ne⟩
  obtain ⟨h1, h2⟩ := h.row
  refine ⟨h1, ?_⟩
  rcases h2 with h2 | ⟨g, c, cur, e, hg, hhg, r⟩
  · exact .inl h2
  · exact .inr ⟨g, c, cur, e, hg, (hk.block g (Array.getElem?_eq_some_iff.1 hhg).1 (hv g (by rw [e]; rfl))).trans hhg, r⟩
theorem Bld.tyb {w : World} {b R : Nat} {v : Value} {l : List UInt8} (h : Bld w b R v l) : tyOf w b = some 57 := by
  obtain ⟨p, hp, hh⟩ := h.at_
  unfold tyOf
  rw [hh]
theorem Bld.tyv {w : World} {b R : Nat} {v : Value} {l : List UInt8} (h : Bld w b R v l) {k : Nat} (hk : v.ownBlock = some k) : tyOf w k = some 5 ∧ R ≤ k ∧ ∃ o : Obj, w.heap[k]? = some o ∧ o.isCells = true := by
  rcases h.row.2 with ⟨h1, h2⟩ | ⟨g, c, cur, e, hg, hhg, r⟩
  · rw [h1] at hk; cases hk
  · rw [e] at hk
    simp only [Value.ownBlock, Option.map_some, Option.some.injEq] at hk
    subst hk
    exact ⟨by unfold tyOf; rw [hhg], hg, _, hhg, rfl⟩
end Go.Proofs.YtadaeecokkokjaaGreatDoor.Bd
namespace Go.Proofs.YtadaeecokkokjaaGreatDoor.Li
open Go.ChangeShapes Go.WideShapes Go.Deep Go.RowKit Go.Shelf Cls Md Mc Pa NM Bd
attribute [local go_sem] Oper.semAt_some
set_option linter.unusedSimpArgs false
set_option linter.unusedVariables false
set_option maxRecDepth 100000
theorem each_any (rb : Nat) (w : World) : Calls Tryz.prog 57 #[.pointer (some ⟨rb, 0, none⟩)] w fun e w' => e = .returned (.func (.func 78) #[] #[.pointer (some ⟨w.heap.size, 0, none⟩)]) ∧ w' = w.alloc (.cells #[.pointer (some ⟨rb, 0, none⟩)] 85) := by
  go_enter Tryz.func57, Tryz.ntmps57
  go_wp2
  go_ret
  exact ⟨rfl, rfl⟩
theorem each_gives {w0 w : World} {rb mb : Nat} {lv : Value} {s : List UInt8} (hs : s.length ≤ 30000) (h : RdI w0 rb mb w lv s (partsL s) (partsL s).length) (hL : (partsL s).length ≤ 1073741824) :
    GivesT Tryz.prog 78 #[.pointer (some ⟨w.heap.size, 0, none⟩)] encPc (eaK rb mb lv (partsL s).length w.heap.size) 55 (piecesL s) (w.alloc (.cells #[.pointer (some ⟨rb, 0, none⟩)] 85)) := by
  intro n hn l J Jx W hW hJ hJx hY h0
  have hr : Rd w rb mb lv s (partsL s) (idxP (partsL s)) (partsL s).length := by have := h.r; rwa [List.take_length] at this
  have hal := below_alloc (Below.refl w.heap.size w) (.cells #[.pointer (some ⟨rb, 0, none⟩)] 85)
  exact each_in n hn l _ rb mb _ lv s (partsL s) hs hL (parts_sound s) w.heap.size J Jx hJ hJx hY W (by rw [hW.cell (by simp)]; simp [go_sem]) ((hr.below hal).below hW) hW.size h0
/-- What holds at each round: what is gathered, the results not set yet. -/
structure VaI (w : World) (R : Nat) (pre : List Pc) (v : Value) (W : World) : Prop where
  bd : Bld W (w.heap.size + 1 + 1) R v (txL pre)
  r0 : W.cell? ⟨w.heap.size, 0, none⟩ = some (.string (B []))
  f0 : W.frozen? ⟨w.heap.size, 0, none⟩ = false
  r1 : W.cell? ⟨w.heap.size + 1, 0, none⟩ = some (.bool false)
  f1 : W.frozen? ⟨w.heap.size + 1, 0, none⟩ = false
  a : ∀ x ∈ pre, x.ex = false
  b : Below w.heap.size w W
  s : R ≤ W.heap.size
  g : w.heap.size + 1 + 1 + 1 ≤ R
theorem VaI.lull {w W W' : World} {R : Nat} {pre : List Pc} {v : Value} (h : VaI w R pre v W) (hL : Lull R W W') : VaI w R pre v W' :=
  ⟨h.bd.lull hL, hL.cell h.r0, (hL.frozen h.r0).trans h.f0, hL.cell h.r1, (hL.frozen h.r1).trans h.f1, h.a, hL.below h.b (by have := h.g; omega) (Nat.le_refl _), Nat.le_trans h.s hL.size, h.g⟩
theorem VaI.keeps {w W W' : World} {R : Nat} {pre : List Pc} {v : Value} {F : Nat → Prop} (h : VaI w R pre v W) (hk : Keeps F W W') (hF : ∀ k, F k → R ≤ k) (hv : ∀ k, v.ownBlock = some k → ¬ F k) : VaI w R pre v W' := by
  have hg := h.g
  have l0 := World.block_lt_of_cell? W _ h.r0
  have l1 := World.block_lt_of_cell? W _ h.r1
  have n0 : ¬ F w.heap.size := fun q => by have := hF _ q; omega
  have n1 : ¬ F (w.heap.size + 1) := fun q => by have := hF _ q; omega
  exact ⟨h.bd.keepsV hk (fun q => by have := hF _ q; omega) hv, (World.cell?_of_block (hk.block _ l0 n0)).trans h.r0, (World.frozen?_of_block (hk.block _ l0 n0)).trans h.f0, (World.cell?_of_block (hk.block _ l1 n1)).trans h.r1, (World.frozen?_of_block (hk.block _ l1 n1)).trans h.f1, h.a, below_keeps h.b hk (fun k q => by have := hF k q; omega), Nat.le_trans h.s hk.size, hg⟩
/-- Value has ended: something is to be expanded. -/
structure VaX (w : World) (R : Nat) (pre : List Pc) (W : World) : Prop where
  x : pre.all (fun p => !p.ex) = false
  r0 : W.cell? ⟨w.heap.size, 0, none⟩ = some (.string (B []))
  r1 : W.cell? ⟨w.heap.size + 1, 0, none⟩ = some (.bool false)
  b : Below w.heap.size w W
  s : R ≤ W.heap.size
  g : w.heap.size + 1 + 1 + 1 ≤ R
theorem VaX.lull {w W W' : World} {R : Nat} {pre : List Pc} (h : VaX w R pre W) (hL : Lull R W W') : VaX w R pre W' :=
  ⟨h.x, hL.cell h.r0, hL.cell h.r1, hL.below h.b (by have := h.g; omega) (Nat.le_refl _), Nat.le_trans h.s hL.size, h.g⟩
theorem VaX.keeps {w W W' : World} {R : Nat} {pre : List Pc} {F : Nat → Prop} (h : VaX w R pre W) (hk : Keeps F W W') (hF : ∀ k, F k → R ≤ k) : VaX w R pre W' := by
  have hg := h.g
  have l0 := World.block_lt_of_cell? W _ h.r0
  have l1 := World.block_lt_of_cell? W _ h.r1
  have n0 : ¬ F w.heap.size := fun q => by have := hF _ q; omega
  have n1 : ¬ F (w.heap.size + 1) := fun q => by have := hF _ q; omega
  exact ⟨h.x, (World.cell?_of_block (hk.block _ l0 n0)).trans h.r0, (World.cell?_of_block (hk.block _ l1 n1)).trans h.r1, below_keeps h.b hk (fun k q => by have := hF k q; omega), Nat.le_trans h.s hk.size, hg⟩
set_option maxHeartbeats 3200000 in
theorem value_any (s : List UInt8) (w : World) (hs : s.length ≤ 30000) : Calls Tryz.prog 35 #[.string (B s)] w fun e w' => e = .returned (.tuple #[.string (B (valueL s).1), .bool (valueL s).2]) ∧ Below w.heap.size w w' := by
  have HRD := Lib.hid fun W => read_any s W hs
  have HL := Lib.hid (show (partsL s).length ≤ 1073741824 by
    have := (par_len (s := s) s.length (Nat.le_refl _)).1
    have h2 : s.length * (s.length + 1) ≤ 30000 * 30001 := Nat.mul_le_mul (by omega) (by omega)
    rw [List.take_length] at this
    unfold partsL
    rw [List.length_map]
    omega)
  have HTX := Lib.hid fun pre (h : pre <+: piecesL s) => pieces_tx s hs h
  have HEG := Lib.hid fun (w0 w1 : World) (rb mb : Nat) (lv : Value) (h : RdI w0 rb mb w1 lv s (partsL s) (partsL s).length) => each_gives hs h HL.out
  obtain ⟨T, hT⟩ : ∃ T, valueL s = T := ⟨_, rfl⟩
  rw [hT]
  unfold valueL at hT
  rw [valP_eq] at hT
  have HT := Lib.hid hT
  clear hT
  generalize hm : (partsL s).length = m at *
  have HM := Lib.hid hm
  clear hm
  generalize piecesL s = xs at *
  refine (callsIn_wide (n := 9)).1 ?_; refine callsIn_of_wp_marks Tryz.func35 rfl trivial ?_ rfl; simp only [Tryz.ntmps35, List.size_toArray, List.length_cons, List.length_nil, Nat.reduceAdd, Nat.reduceSub, Array.replicate_succ, Array.replicate_zero, List.push_toArray, List.append_toArray, List.nil_append, List.cons_append]
  refine wpIn_wide.2 ?_
  go_wp2_with (first
    | (go_at_call 56; refine (HRD.out _).mono ?_; rintro e w1 ⟨rb, mb, lv, rfl, hri⟩)
    | (go_at_call 57; refine (each_any _ _).mono ?_; rintro e w2 ⟨rfl, rfl⟩))
  have HG := HEG.out _ _ _ _ _ hri
  have hsz : (((w.alloc (.cells #[.string (B [])] 9)).alloc (.cells #[.bool false] 4)).alloc (.cells #[.pointer none, .slice none 0 0] 57)).heap.size = w.heap.size + 1 + 1 + 1 := by simp
  have hbe := hri.be
  have hal := below_alloc (Below.refl w1.heap.size w1) (.cells #[.pointer (some ⟨rb, 0, none⟩)] 85)
  have hb3 := below_then hbe hal
  have hs3 : (w1.alloc (.cells #[.pointer (some ⟨rb, 0, none⟩)] 85)).heap.size = w1.heap.size + 1 := by simp
  have HGB : Hid (∀ k, eaG rb mb lv m w1.heap.size k → k < (w1.alloc (.cells #[.pointer (some ⟨rb, 0, none⟩)] 85)).heap.size ∧ w.heap.size + 1 + 1 + 1 ≤ k) := Lib.hid fun k hk => by
    have hsb := hbe.size
    have hml : m = (partsL s).length := HM.out.symm
    rcases hk with hk | hk
    · have h1 := hri.r.lts k (hml ▸ hk)
      rcases hk with hk | hk | ⟨h0, hk⟩
      · have := hri.g1; omega
      · have := hri.g2; omega
      · have := hri.g3 k (hml ▸ h0) hk; omega
    · omega
  have HI0 : Hid (VaI w (w1.alloc (.cells #[.pointer (some ⟨rb, 0, none⟩)] 85)).heap.size [] (.slice none 0 0) (w1.alloc (.cells #[.pointer (some ⟨rb, 0, none⟩)] 85))) := by
    have hsb := hbe.size
    have hbd := (Bld.new ((w.alloc (.cells #[.string (B [])] 9)).alloc (.cells #[.bool false] 4)) (w1.alloc (.cells #[.pointer (some ⟨rb, 0, none⟩)] 85)).heap.size).below hb3
    rw [show ((w.alloc (.cells #[.string (B [])] 9)).alloc (.cells #[.bool false] 4)).heap.size = w.heap.size + 1 + 1 by simp] at hbd
    refine Lib.hid ⟨hbd, ?_, ?_, ?_, ?_, (fun x h => by cases h), below_then (below_alloc (below_alloc (below_alloc (Below.refl _ _) _) _) _) hb3, Nat.le_refl _, by omega⟩
    · rw [hb3.cell (by simp; omega)]; simp [go_sem]
    · rw [hb3.frozen (by simp; omega)]; simp [go_sem]
    · rw [hb3.cell (by simp)]; simp [go_sem]
    · rw [hb3.frozen (by simp)]; simp [go_sem]
  clear hri hbe hal hb3 hs3 hsz HEG HRD
  generalize w1.heap.size = rx at *
  generalize w1.alloc (.cells #[.pointer (some ⟨rb, 0, none⟩)] 85) = w3 at *
  clear w1
  have hw3 := HI0.out.g
  refine (wpIn_wide (n := 9)).1 ?_
  refine wpIn_iterT (n := 9) (by omega) (gf := 78) rfl (enters_of Tryz.func78 (by kernel_rfl) rfl) HG (fun _ _ _ => KeepT.trans) (fun W l o o' hl h ho => keepT_b (fun k hk => (HGB.out k hk).1) W l o o' hl h ho) (fun _ => rfl)
    (fun pre W => ∃ v, VaI w w3.heap.size pre v W) (fun c pre W => c = .ret ∧ VaX w w3.heap.size pre W)
    (fun _ W W' hL ⟨v, h⟩ => ⟨v, h.lull hL⟩) (fun c _ W W' hL ⟨e, h⟩ => ⟨e, h.lull hL⟩)
    (fun _ W W' hk ⟨v, h⟩ => ⟨v, h.keeps hk (fun k q => q.1) (fun k e q => by have := (h.bd.tyv e).1; rw [q.2] at this; exact absurd this (by decide))⟩) (fun c _ W W' hk ⟨e, h⟩ => ⟨e, h.keeps hk (fun k q => q.1)⟩)
    ⟨.slice none 0 0, HI0.out⟩
    (fun x a' W' => ∃ ub, a' = { tmps := #[.string (B s), undef, .pointer (some ⟨w.heap.size, 0, none⟩), .pointer (some ⟨w.heap.size + 1, 0, none⟩), .pointer (some ⟨w.heap.size + 1 + 1, 0, none⟩), .pointer (some ⟨ub, 0, none⟩), .string (B s), .pointer (some ⟨rb, 0, none⟩), .func (.func 78) #[] #[.pointer (some ⟨rx, 0, none⟩)], pcV x, undef, undef, undef, undef, undef, undef], defers := [] } ∧ BoxN W' ub [.bool x.ex, .bool x.qu, .string (B x.tx)]) (fun x a' W W' hL ⟨ub, e, h⟩ => ⟨ub, e, h.block (hL.block (h.c 0 _ rfl)) hL.size⟩) ?assign ?body ?done ?stop
  case assign =>
    intro l pre x W K ⟨v, hi⟩ hs hK
    have hK := hK { tmps := #[.string (B s), undef, .pointer (some ⟨w.heap.size, 0, none⟩), .pointer (some ⟨w.heap.size + 1, 0, none⟩), .pointer (some ⟨w.heap.size + 1 + 1, 0, none⟩), .pointer (some ⟨W.heap.size, 0, none⟩), .string (B s), .pointer (some ⟨rb, 0, none⟩), .func (.func 78) #[] #[.pointer (some ⟨rx, 0, none⟩)], pcV x, undef, undef, undef, undef, undef, undef], defers := [] } _
      (KeepsFrom.allocN _ W (.cells #[.bool x.ex, .bool x.qu, .string (B x.tx)] 89))
      (KeepT.of_keeps (F := fun _ => False) (Keeps.of_below (below_alloc (Below.refl _ _) _)) (fun k hk => by have := (HGB.out k hk).1; omega) (fun _ _ h => h) (fun _ _ h => h.elim))
      ⟨v, hi.keeps (F := fun _ => False) (Keeps.of_below (below_alloc (Below.refl _ _) _)) (fun _ h => h.elim) (fun _ _ h => h)⟩ ⟨_, rfl, BoxN.new W _ _⟩
    unfold encPc pcV at *
    have HK := Lib.hid hK
    clear hK
    gi_wp2
    exact HK.out
  case body =>
    rintro l pre x a' W hs ⟨v, h1⟩ ⟨ub, rfl, hB⟩ hlt
    have b0' := hB.c 0 _ rfl
    have b2' := hB.c 2 _ rfl
    haveI : Old W ub := ⟨hB.lt⟩
    have r0 := h1.r0
    have r1 := h1.r1
    have f0 := h1.f0
    have f1 := h1.f1
    haveI : Old W (w.heap.size) := ⟨by omega⟩
    haveI : Old W (w.heap.size + 1) := ⟨by omega⟩
    have H1 := Lib.hid h1
    have hall : (txL (pre ++ [x])).length ≤ 1000000000 := HTX.out _ hlt
    have hpl : txL (pre ++ [x]) = txL pre ++ x.tx := by rw [txL_app]; simp [txL]
    have HWS := Lib.hid (wstr_own (s := x.tx) h1.bd (by rw [hpl, List.length_append] at hall; omega) h1.s)
    clear h1 hB hall
    unfold pcV
    cases hb : x.ex with
    | true =>
      rw [hb] at b0'
      gi_wp2
      have hS := (Keeps.setCell (F := fun k => k = w.heap.size ∨ k = w.heap.size + 1) W (a := ⟨w.heap.size, 0, none⟩) (.inl rfl) (.string (B []))).trans (Keeps.setCell (F := fun k => k = w.heap.size ∨ k = w.heap.size + 1) (W.setCell ⟨w.heap.size, 0, none⟩ (.string (B []))) (a := ⟨w.heap.size + 1, 0, none⟩) (.inr rfl) (.bool false))
      refine ⟨KeepsFrom.of_keeps hS (fun k hF _ hA => by omega), rfl, ⟨by simp [hb], ?_, ?_, below_keeps H1.out.b hS (fun k hk => by omega), Nat.le_trans H1.out.s hS.size, H1.out.g⟩⟩
      · rw [World.cell?_setCell_other _ _ _ _ (by simp)]
        exact World.cell?_setCell_same' _ _ _ (by rw [r0]; rfl)
      · exact World.cell?_setCell_same' _ _ _ (by rw [World.cell?_setCell_other _ _ _ _ (by simp), r1]; rfl)
    | false =>
      rw [hb] at b0'
      gi_wp2_with (with_reducible (show CallsIn _ _ _ 28 _ _ _); refine (CallsIn.inRound _ (callsIn_wide.2 (HWS.out))).mono ?_; rintro e w5 ⟨rfl, v5, hb5, hk5⟩; have HB5 := Lib.hid hb5; have HK5 := Lib.hid hk5; clear hb5 hk5)
      have hk := HK5.out
      have hF : ∀ k, (k = w.heap.size + 1 + 1 ∨ v.ownBlock = some k) → k = w.heap.size + 1 + 1 ∨ w3.heap.size ≤ k := fun k q => q.imp id fun e => (H1.out.bd.tyv e).2.1
      have hn : ∀ k, k < w3.heap.size → k ≠ w.heap.size + 1 + 1 → ¬ (k = w.heap.size + 1 + 1 ∨ v.ownBlock = some k) := fun k h1 h2 q => by rcases hF k q with q | q <;> omega
      have l0 := World.block_lt_of_cell? W _ r0
      have l1 := World.block_lt_of_cell? W _ r1
      have n0 := hn w.heap.size (by omega) (by omega)
      have n1 := hn (w.heap.size + 1) (by omega) (by omega)
      refine ⟨KeepsFrom.of_keeps hk (fun k hF _ hA => ?_), KeepT.of_keeps hk (fun k hk2 => ?_) (fun k hk2 => ?_) (fun k t hF _ ht => ?_), v5, ⟨?_, ?_, ?_, ?_, ?_, fun y hy => ?_, below_keeps H1.out.b hk (fun k q => by have := hF k q; omega), Nat.le_trans H1.out.s hk.size, H1.out.g⟩⟩
      · rcases hF with q | q
        · omega
        · exact (H1.out.bd.tyv q).2.2
      · have := (HGB.out k hk2).1; omega
      · have := HGB.out k hk2
        exact hn k this.1 (by omega)
      · rcases hF with q | q
        · rw [q, H1.out.bd.tyb] at ht
          injection ht with ht
          subst ht
          decide
        · rw [(H1.out.bd.tyv q).1] at ht
          injection ht with ht
          subst ht
          decide
      · rw [hpl]; exact HB5.out
      · exact (World.cell?_of_block (hk.block _ l0 n0)).trans r0
      · exact (World.frozen?_of_block (hk.block _ l0 n0)).trans f0
      · exact (World.cell?_of_block (hk.block _ l1 n1)).trans r1
      · exact (World.frozen?_of_block (hk.block _ l1 n1)).trans f1
      · rcases List.mem_append.1 hy with hy | hy
        · exact H1.out.a y hy
        · simp at hy; subst hy; exact hb
  case done =>
    rintro D W hD ⟨v, h1⟩ hK
    have hT := HT.out
    rw [if_pos (by rw [List.all_eq_true]; intro x hx; simp [h1.a x hx]), List.nil_append] at hT
    subst hT
    have r0 := h1.r0
    have r1 := h1.r1
    have f0 := h1.f0
    have f1 := h1.f1
    have hs' := h1.s
    haveI : Old W (w.heap.size) := ⟨by omega⟩
    haveI : Old W (w.heap.size + 1) := ⟨by omega⟩
    have HBS := Lib.hid (bstr_own h1.bd)
    have H1 := Lib.hid h1
    clear h1
    gi_wp2
    go_wp2_with fail
    refine HBS.out.mono ?_
    rintro e w5 ⟨rfl, hk5⟩
    have l0 : w.heap.size < W.heap.size := World.block_lt_of_cell? W _ r0
    have l1 : w.heap.size + 1 < W.heap.size := World.block_lt_of_cell? W _ r1
    have hv : ∀ k, v.ownBlock = some k → w3.heap.size ≤ k := fun k hv => (H1.out.bd.tyv hv).2.1
    have e0 := hk5.block w.heap.size l0 (fun q => by have := hv _ q; omega)
    have e1 := hk5.block (w.heap.size + 1) l1 (fun q => by have := hv _ q; omega)
    have s0 := (World.cell?_of_block (w := W) (w' := w5) (a := ⟨w.heap.size, 0, none⟩) e0).trans r0
    have s1 := (World.cell?_of_block (w := W) (w' := w5) (a := ⟨w.heap.size + 1, 0, none⟩) e1).trans r1
    have g0 := (World.frozen?_of_block (w := W) (w' := w5) (a := ⟨w.heap.size, 0, none⟩) e0).trans f0
    have g1 := (World.frozen?_of_block (w := W) (w' := w5) (a := ⟨w.heap.size + 1, 0, none⟩) e1).trans f1
    haveI : Old w5 (w.heap.size) := ⟨World.block_lt_of_cell? _ _ s0⟩
    haveI : Old w5 (w.heap.size + 1) := ⟨World.block_lt_of_cell? _ _ s1⟩
    have hD5 : w5.heap[D]? = some (.deferred (some [])) := (hk5.block D (Array.getElem?_eq_some_iff.1 hK).1 (fun q => by
      obtain ⟨_, _, o, ho, hc⟩ := H1.out.bd.tyv q
      rw [hK] at ho
      cases ho
      cases hc)).trans hK
    have HB5 := Lib.hid (below_keeps H1.out.b hk5 (fun k q => by have := hv k q; omega))
    have HD5 := Lib.hid hD5
    clear hk5 e0 e1 l0 l1 hv hD5 hK
    go_wp2
    have hS := (Keeps.setCell (F := fun k => k = w.heap.size ∨ k = w.heap.size + 1) w5 (a := ⟨w.heap.size, 0, none⟩) (.inl rfl) (.string (B (txL xs)))).trans (Keeps.setCell (F := fun k => k = w.heap.size ∨ k = w.heap.size + 1) (w5.setCell ⟨w.heap.size, 0, none⟩ (.string (B (txL xs)))) (a := ⟨w.heap.size + 1, 0, none⟩) (.inr rfl) (.bool true))
    have q0 : ((w5.setCell ⟨w.heap.size, 0, none⟩ (.string (B (txL xs)))).setCell ⟨w.heap.size + 1, 0, none⟩ (.bool true)).cell? ⟨w.heap.size, 0, none⟩ = some (.string (B (txL xs))) := by
      rw [World.cell?_setCell_other _ _ _ _ (by simp)]
      exact World.cell?_setCell_same' _ _ _ (by rw [s0]; rfl)
    have q1 : ((w5.setCell ⟨w.heap.size, 0, none⟩ (.string (B (txL xs)))).setCell ⟨w.heap.size + 1, 0, none⟩ (.bool true)).cell? ⟨w.heap.size + 1, 0, none⟩ = some (.bool true) :=
      World.cell?_setCell_same' _ _ _ (by rw [World.cell?_setCell_other _ _ _ _ (by simp), s1]; rfl)
    have hK' := (hS.block D (Array.getElem?_eq_some_iff.1 HD5.out).1 (by omega)).trans HD5.out
    have hB2 := below_keeps HB5.out hS (fun k hk => by omega)
    generalize (w5.setCell ⟨w.heap.size, 0, none⟩ (.string (B (txL xs)))).setCell ⟨w.heap.size + 1, 0, none⟩ (.bool true) = W2 at *
    have hL : Lull w3.heap.size W2 (W2.putObj D (.deferred none)) := Lull.of_grown (grownBy_putObj' _ D _) (fun r e => by cases e; exact ⟨hD, _, hK', rfl⟩)
    have p0 := hL.cell q0
    have p1 := hL.cell q1
    refine ⟨by simp, .inl ⟨_, _, rfl, run_takeDeferred hK', ?_⟩⟩
    exact ⟨.tuple #[.string (B (txL xs)), .bool true], by simp [results, Tryz.results35, go_sem, p0, p1], rfl, hL.below hB2 (by omega) (Nat.le_refl _)⟩
  case stop =>
    rintro D c pre W hD hpre ⟨rfl, hx⟩ hK
    have hg := hx.g
    have hL : Lull w3.heap.size W (W.putObj D (.deferred none)) := Lull.of_grown (grownBy_putObj' _ D _) (fun r e => by cases e; exact ⟨hD, _, hK, rfl⟩)
    have p0 := hL.cell hx.r0
    have p1 := hL.cell hx.r1
    have hlb : xs.all (fun p => !p.ex) = false := by
      obtain ⟨t, ht⟩ := hpre
      rw [← ht, List.all_append, hx.x, Bool.false_and]
    have hT := HT.out
    rw [hlb, if_neg (by simp)] at hT
    subst hT
    have hB2 := hL.below hx.b (by omega) (Nat.le_refl _)
    gi_wp2
    refine ⟨by simp, .inl ⟨_, _, rfl, run_takeDeferred hK, ?_⟩⟩
    exact ⟨.tuple #[.string (B []), .bool false], by simp [results, Tryz.results35, go_sem, p0, p1], rfl, hB2⟩
end Go.Proofs.YtadaeecokkokjaaGreatDoor.Li
/-
  The value of quoted texts (layers 7, 8, 17), plainly: every form's value is its text, and the state behind it. No program in sight.
-/
/-
  The value of quoted texts (layers 7, 8, 17), plainly: the parts of a row of quotes. No program in sight.
-/
namespace Go.Proofs.YtadaeecokkokjaaGreatDoor.Li
set_option linter.unusedSimpArgs false
set_option linter.unusedVariables false
open Cls Md Mc Pa Quo Lx
/-- A stack of Top alone. -/
def TopX (x : St) : Prop := ∃ q f, x = ⟨[(84, q)], f⟩
def SngX (x : St) (a : Nat) : Prop := ∃ q f, x = ⟨[(83, a), (84, q)], f⟩
def DblX (x : St) (a : Nat) : Prop := ∃ q f, x = ⟨[(68, a), (84, q)], f⟩
theorem top_by {x : St} (h : TopX x) (p : Nat) {b : UInt8} (hb : topB b.toNat = true) : TopX (Md.step x b.toNat p) := by
  obtain ⟨q, f, rfl⟩ := h
  unfold topB at hb
  generalize hn : (b.toNat : Int) = n at *
  simp only [Bool.and_eq_true, Bool.not_eq_true', Bool.or_eq_false_iff] at hb
  obtain ⟨⟨⟨⟨⟨⟨⟨⟨h1, h2⟩, h3⟩, h4⟩, h5⟩, h6⟩, h7⟩, h8⟩, ⟨c1, c2⟩, c3⟩ := hb
  show TopX (Md.program ⟨[(84, q)], f⟩ 84 n p)
  unfold Md.program
  simp only [h1, h2, h3, h4, h5, h6, h7, h8, Bool.false_and, Bool.false_eq_true, if_false]
  exact ⟨_, _, rfl⟩
theorem top_es {x : St} (h : TopX x) (p : Nat) : ∃ q f, Md.step x (92 : UInt8).toNat p = ⟨[(88, p), (84, q)], f⟩ := by
  obtain ⟨q, f, rfl⟩ := h
  exact ⟨q, f, rfl⟩
theorem es_top (a q : Nat) (f : Bool) (p : Nat) (b : UInt8) : TopX (Md.step ⟨[(88, a), (84, q)], f⟩ b.toNat p) := by
  show TopX (if ((b.toNat : Int) == 10) = true then _ else _)
  split <;> exact ⟨_, _, rfl⟩
theorem top_sg {x : St} (h : TopX x) (p : Nat) : SngX (Md.step x (39 : UInt8).toNat p) p := by
  obtain ⟨q, f, rfl⟩ := h
  exact ⟨q, _, rfl⟩
theorem sg_sg {x : St} {a : Nat} (h : SngX x a) (p : Nat) {b : UInt8} (hb : b ≠ 39) : SngX (Md.step x b.toNat p) a := by
  obtain ⟨q, f, rfl⟩ := h
  show SngX (if ((b.toNat : Int) == 39) = true then _ else _) a
  rw [if_neg (by rw [Pat.not_b (n := 39) rfl hb]; simp)]
  exact ⟨_, _, rfl⟩
theorem sg_top {x : St} {a : Nat} (h : SngX x a) (p : Nat) : TopX (Md.step x (39 : UInt8).toNat p) := by
  obtain ⟨q, f, rfl⟩ := h
  exact ⟨q, _, rfl⟩
theorem top_db {x : St} (h : TopX x) (p : Nat) : DblX (Md.step x (34 : UInt8).toNat p) p := by
  obtain ⟨q, f, rfl⟩ := h
  exact ⟨q, _, rfl⟩
theorem db_db {x : St} {a : Nat} (h : DblX x a) (p : Nat) {b : UInt8} (hb : dblI b.toNat = false) : DblX (Md.step x b.toNat p) a := by
  obtain ⟨q, f, rfl⟩ := h
  show DblX (Md.plain ⟨[(68, a), (84, q)], f⟩ 68 b.toNat p) a
  unfold dblI at hb
  generalize (b.toNat : Int) = n at *
  simp only [Bool.or_eq_false_iff] at hb
  obtain ⟨⟨⟨h1, h2⟩, h3⟩, h4⟩ := hb
  show DblX (if (n == 92) = true then _ else if (n == 36) = true then _ else if (n == 96) = true then _ else if (n == 34) = true then _ else _) a
  rw [h1, h2, h3, h4]
  exact ⟨_, _, rfl⟩
theorem db_es {x : St} {a : Nat} (h : DblX x a) (p : Nat) : ∃ q f, Md.step x (92 : UInt8).toNat p = ⟨[(88, p), (68, a), (84, q)], f⟩ := by
  obtain ⟨q, f, rfl⟩ := h
  exact ⟨q, f, rfl⟩
theorem es_db (r a q : Nat) (f : Bool) (p : Nat) (b : UInt8) : DblX (Md.step ⟨[(88, r), (68, a), (84, q)], f⟩ b.toNat p) a := by
  show DblX (if ((b.toNat : Int) == 10) = true then _ else _) a
  split <;> exact ⟨_, _, rfl⟩
theorem db_top {x : St} {a : Nat} (h : DblX x a) (p : Nat) : TopX (Md.step x (34 : UInt8).toNat p) := by
  obtain ⟨q, f, rfl⟩ := h
  exact ⟨q, _, rfl⟩
theorem frs_top {x : St} (h : TopX x) : frs x = [] := by obtain ⟨q, f, rfl⟩ := h; rfl
theorem frs_sg {x : St} {a : Nat} (h : SngX x a) : frs x = [(83, a)] := by obtain ⟨q, f, rfl⟩ := h; rfl
theorem frs_db {x : St} {a : Nat} (h : DblX x a) : frs x = [(68, a)] := by obtain ⟨q, f, rfl⟩ := h; rfl
/-- What is noted: nothing open. -/
theorem see_nn (p : Nat) (L : List Part) : seeP p [] (L, []) = (L, []) := rfl
theorem see_open (p : Nat) (c : UInt8) (a : Nat) (hc : cnt c = c) (L : List Part) : seeP p [(c, a)] (L, []) = (L ++ [⟨c, a, 0, -1, true⟩], [L.length]) := by
  simp [seeP, shutP, openP, hc]
theorem modify_last (L : List Part) (q : Part) (f : Part → Part) : (L ++ [q]).modify L.length f = L ++ [f q] := modify_mid L [] q f
theorem see_shut (p : Nat) (L : List Part) (q : Part) : seeP p [] (L ++ [q], [L.length]) = (L ++ [shutOne (p + 1) q], []) := by
  simp only [seeP, List.reverse_cons, List.reverse_nil, List.nil_append, shutP, List.length_nil, Nat.lt_irrefl, false_and, if_false, modify_last]
  rfl
theorem getD_mid (L R : List Part) (q : Part) : (L ++ q :: R).getD L.length pt0 = q := by simp [List.getD_eq_getElem?_getD]
theorem see_stay (p : Nat) (c : UInt8) (a : Nat) (L R : List Part) (q : Part) (hq : q.c = cnt c) (ha : q.fr = a) : seeP p [(c, a)] (L ++ q :: R, [L.length]) = (L ++ q :: R, [L.length]) := by
  obtain ⟨qc, qf, qn, qu, qo⟩ := q
  simp only at hq ha
  subst hq ha
  simp only [seeP, List.reverse_cons, List.reverse_nil, List.nil_append, shutP, List.length_nil, List.length_cons, getD_mid]
  rw [if_pos ⟨by omega, rfl⟩]
  simp only [openP, List.reverse_cons, List.reverse_nil, List.nil_append, List.length_cons, List.length_nil]
  rw [if_pos (by omega)]
  simp only [List.getD_cons_zero, modify_mid, markOne]
end Go.Proofs.YtadaeecokkokjaaGreatDoor.Li
/-
  The value of quoted texts (layers 7, 8, 17), plainly, on: segments, their parts, their pieces. No program in sight.
-/
namespace Go.Proofs.YtadaeecokkokjaaGreatDoor.Li
set_option linter.unusedSimpArgs false
set_option linter.unusedVariables false
open Cls Md Mc Pa Quo Lx
theorem see_shutM (p : Nat) (L R : List Part) (q : Part) : seeP p [] (L ++ q :: R, [L.length]) = (L ++ shutOne (p + 1) q :: R, []) := by
  simp only [seeP, List.reverse_cons, List.reverse_nil, List.nil_append, shutP, List.length_nil, Nat.lt_irrefl, false_and, if_false, modify_mid]
  rfl
theorem see_esO (p a : Nat) (L R : List Part) (q : Part) (hc : q.c = 68) (ha : q.fr = a) : seeP p [(68, a), (88, p)] (L ++ q :: R, [L.length]) = (L ++ q :: (R ++ [⟨88, p, 0, (L.length : Int), true⟩]), [L.length, L.length + R.length + 1]) := by
  obtain ⟨qc, qf, qn, qu, qo⟩ := q
  simp only at hc ha
  subst hc ha
  simp only [seeP, List.reverse_cons, List.reverse_nil, List.nil_append, shutP, List.length_nil, List.length_cons, getD_mid]
  rw [if_pos ⟨by omega, rfl⟩]
  simp only [openP, List.reverse_cons, List.reverse_nil, List.nil_append, List.length_cons, List.length_nil]
  rw [if_pos (by omega), if_neg (by omega), if_pos (by omega)]
  simp only [List.getD_cons_zero, modify_mid, markOne, Nat.add_sub_cancel, List.length_append, List.length_cons, List.append_assoc, List.cons_append, List.nil_append]
  rfl
theorem see_esC (p a : Nat) (L R : List Part) (q z : Part) (hc : q.c = 68) (ha : q.fr = a) : seeP p [(68, a)] (L ++ q :: (R ++ [z]), [L.length, L.length + R.length + 1]) = (L ++ q :: (R ++ [shutOne (p + 1) z]), [L.length]) := by
  obtain ⟨qc, qf, qn, qu, qo⟩ := q
  simp only at hc ha
  subst hc ha
  have e : (L ++ ⟨68, qf, qn, qu, qo⟩ :: (R ++ [z])).modify (L.length + R.length + 1) (shutOne (p + 1)) = L ++ ⟨68, qf, qn, qu, qo⟩ :: (R ++ [shutOne (p + 1) z]) := by
    have := modify_mid (L ++ ⟨68, qf, qn, qu, qo⟩ :: R) [] z (shutOne (p + 1))
    simp only [List.append_assoc, List.cons_append, List.length_append, List.length_cons] at this
    rw [show L.length + R.length + 1 = L.length + (R.length + 1) by omega]
    exact this
  simp only [seeP, List.reverse_cons, List.reverse_nil, List.nil_append, List.cons_append, shutP, List.length_nil, List.length_cons]
  rw [if_neg (by omega), e, getD_mid, if_pos ⟨by omega, rfl⟩]
  simp only [openP, List.reverse_cons, List.reverse_nil, List.nil_append, List.length_cons, List.length_nil]
  rw [if_pos (by omega)]
  simp only [List.getD_cons_zero, modify_mid, markOne]
  rfl
/-- A segment: a byte for itself, an Escape, a Single, a Double. -/
inductive Seg where
  | bt (b : UInt8)
  | es (b : UInt8)
  | sq (t : List UInt8)
  | dq (t : List UInt8)
def dblE (b : UInt8) : List UInt8 := if dblB b = true then [92, b] else [b]
def Seg.text : Seg → List UInt8
  | bt b => [b]
  | es b => [92, b]
  | sq t => 39 :: (t ++ [39])
  | dq t => 34 :: (t.flatMap dblE ++ [34])
def Seg.val : Seg → List UInt8
  | bt b => [b]
  | es b => [b]
  | sq t => t
  | dq t => t
def Seg.ok : Seg → Prop
  | bt b => topB b.toNat = true
  | es b => b ≠ 10
  | sq t => 39 ∉ t
  | dq _ => True
/-- The Escapes of a Double's inside, from a place on; the Double's number. -/
def dqP (q : Nat) (n : Nat) : List UInt8 → List Part
  | [] => []
  | b :: t => if dblB b = true then ⟨88, q, q + 2, (n : Int), false⟩ :: dqP (q + 2) n t else dqP (q + 1) n t
def Seg.parts (p n : Nat) : Seg → List Part
  | bt _ => []
  | es _ => [⟨88, p, p + 2, -1, false⟩]
  | sq t => [⟨83, p, p + t.length + 2, -1, false⟩]
  | dq t => ⟨68, p, p + (t.flatMap dblE).length + 2, -1, false⟩ :: dqP (p + 1) n t
theorem frs_es (p q : Nat) (f : Bool) : frs ⟨[(88, p), (84, q)], f⟩ = [(88, p)] := rfl
theorem frs_des (p a q : Nat) (f : Bool) : frs ⟨[(88, p), (68, a), (84, q)], f⟩ = [(68, a), (88, p)] := rfl
theorem par_sg (t : List UInt8) (ht : 39 ∉ t) : ∀ (x : St) (a q : Nat) (L : List Part) (n : Nat) (h : SngX x a),
    parK x q (L ++ [⟨83, a, n, -1, true⟩], [L.length]) t = (L ++ [⟨83, a, n, -1, true⟩], [L.length]) ∧ SngX (runK x q t) a := by
  induction t with
  | nil => intro x a q L n h; exact ⟨rfl, h⟩
  | cons b t ih =>
    intro x a q L n h
    have hb : b ≠ 39 := fun e => ht (by rw [e]; exact List.mem_cons_self)
    have h1 := sg_sg h q hb
    have h2 := ih (fun e => ht (List.mem_cons_of_mem _ e)) _ a (q + 1) L n h1
    refine ⟨?_, h2.2⟩
    unfold parK
    rw [frs_sg h1, see_stay q 83 a L [] ⟨83, a, n, -1, true⟩ (show (83 : UInt8) = cnt 83 by decide) rfl]
    exact h2.1
theorem par_db (t : List UInt8) : ∀ (x : St) (a q : Nat) (L R : List Part) (h : DblX x a),
    parK x q (L ++ ⟨68, a, 0, -1, true⟩ :: R, [L.length]) (t.flatMap dblE) = (L ++ ⟨68, a, 0, -1, true⟩ :: (R ++ dqP q L.length t), [L.length]) ∧ DblX (runK x q (t.flatMap dblE)) a := by
  induction t with
  | nil => intro x a q L R h; exact ⟨by simp [parK, dqP], h⟩
  | cons b t ih =>
    intro x a q L R h
    rw [List.flatMap_cons]
    by_cases hb : dblB b = true
    · have e : dblE b = [92, b] := if_pos hb
      rw [e]
      simp only [List.cons_append, List.nil_append]
      unfold parK runK
      unfold parK runK
      obtain ⟨r, f, hx⟩ := db_es h q
      rw [hx, frs_des, see_esO q a L R ⟨68, a, 0, -1, true⟩ rfl rfl]
      have h1 := es_db q a r f (q + 1) b
      rw [frs_db h1, see_esC (q + 1) a L R ⟨68, a, 0, -1, true⟩ ⟨88, q, 0, (L.length : Int), true⟩ rfl rfl]
      have h2 := ih _ a (q + 1 + 1) L (R ++ [⟨88, q, q + 1 + 1, (L.length : Int), false⟩]) h1
      refine ⟨?_, h2.2⟩
      conv => rhs; unfold dqP
      rw [if_pos hb]
      refine h2.1.trans ?_
      simp
    · have e : dblE b = [b] := if_neg hb
      rw [e]
      simp only [List.cons_append, List.nil_append]
      unfold parK runK
      have h1 := db_db h q (b := b) (by rw [← dblI_eq]; simpa using hb)
      have h2 := ih _ a (q + 1) L R h1
      refine ⟨?_, h2.2⟩
      rw [frs_db h1, see_stay q 68 a L R ⟨68, a, 0, -1, true⟩ (show (68 : UInt8) = cnt 68 by decide) rfl]
      conv => rhs; unfold dqP
      rw [if_neg hb]
      exact h2.1
theorem par_seg (g : Seg) (hg : g.ok) (x : St) (p : Nat) (L : List Part) (h : TopX x) : parK x p (L, []) g.text = (L ++ g.parts p L.length, []) ∧ TopX (runK x p g.text) := by
  cases g with
  | bt b =>
    have h1 := top_by h p hg
    refine ⟨?_, h1⟩
    show seeP p (frs (Md.step x b.toNat p)) (L, []) = _
    rw [frs_top h1, see_nn]
    simp [Seg.parts]
  | es b =>
    obtain ⟨q, f, hx⟩ := top_es h p
    show parK (Md.step x (92 : UInt8).toNat p) (p + 1) (seeP p (frs (Md.step x (92 : UInt8).toNat p)) (L, [])) [b] = _ ∧ TopX (Md.step (Md.step x (92 : UInt8).toNat p) b.toNat (p + 1))
    rw [hx, frs_es, see_open p 88 p (by decide)]
    have h1 := es_top p q f (p + 1) b
    refine ⟨?_, h1⟩
    show seeP (p + 1) (frs (Md.step ⟨[(88, p), (84, q)], f⟩ b.toNat (p + 1))) _ = _
    rw [frs_top h1, see_shut]
    rfl
  | sq t =>
    have h1 := top_sg h p
    show parK (Md.step x (39 : UInt8).toNat p) (p + 1) (seeP p (frs (Md.step x (39 : UInt8).toNat p)) (L, [])) (t ++ [39]) = _ ∧ TopX (runK (Md.step x (39 : UInt8).toNat p) (p + 1) (t ++ [39]))
    rw [frs_sg h1, see_open p 83 p (by decide), parK_append, runK_append]
    obtain ⟨h2, h3⟩ := par_sg t hg _ p (p + 1) L 0 h1
    rw [h2]
    have h4 := sg_top h3 (p + 1 + t.length)
    refine ⟨?_, h4⟩
    show seeP (p + 1 + t.length) (frs (Md.step _ (39 : UInt8).toNat (p + 1 + t.length))) _ = _
    rw [frs_top h4, see_shut]
    show (L ++ [Part.mk 83 p (p + 1 + t.length + 1) (-1) false], []) = (L ++ [Part.mk 83 p (p + t.length + 2) (-1) false], [])
    rw [show p + 1 + t.length + 1 = p + t.length + 2 by omega]
  | dq t =>
    have h1 := top_db h p
    show parK (Md.step x (34 : UInt8).toNat p) (p + 1) (seeP p (frs (Md.step x (34 : UInt8).toNat p)) (L, [])) (t.flatMap dblE ++ [34]) = _ ∧ TopX (runK (Md.step x (34 : UInt8).toNat p) (p + 1) (t.flatMap dblE ++ [34]))
    rw [frs_db h1, see_open p 68 p (by decide), parK_append, runK_append]
    obtain ⟨h2, h3⟩ := par_db t _ p (p + 1) L [] h1
    rw [h2]
    have h4 := db_top h3 (p + 1 + (t.flatMap dblE).length)
    refine ⟨?_, h4⟩
    show seeP (p + 1 + (t.flatMap dblE).length) (frs (Md.step _ (34 : UInt8).toNat (p + 1 + (t.flatMap dblE).length))) _ = _
    rw [frs_top h4, see_shutM]
    show (L ++ Part.mk 68 p (p + 1 + (t.flatMap dblE).length + 1) (-1) false :: ([] ++ dqP (p + 1) L.length t), []) = (L ++ Part.mk 68 p (p + (t.flatMap dblE).length + 2) (-1) false :: dqP (p + 1) L.length t, [])
    rw [show p + 1 + (t.flatMap dblE).length + 1 = p + (t.flatMap dblE).length + 2 by omega]
    rfl
end Go.Proofs.YtadaeecokkokjaaGreatDoor.Li
/-
  The value of quoted texts (layers 7, 8, 17), plainly, on: the pieces of segments. No program in sight.
-/
namespace Go.Proofs.YtadaeecokkokjaaGreatDoor.Li
set_option linter.unusedSimpArgs false
set_option linter.unusedVariables false
open Cls Md Mc Pa Quo Lx
theorem idxR_app (a b : List Part) (n : Nat) (h : ∀ p ∈ a, p.fr ≠ n) : idxR (a ++ b) n = idxR b n := by
  induction a with
  | nil => rfl
  | cons p a ih =>
    show (if p.fr = n then _ else _) = _
    rw [if_neg (h p List.mem_cons_self)]
    exact ih fun q hq => h q (List.mem_cons_of_mem _ hq)
theorem at_some {A Z : List Part} {p : Part} {n : Nat} (hp : p.fr = n) (hZ : ∀ r ∈ Z, r.fr ≠ n) : atP (A ++ p :: Z) n = some p := by
  have h : idxP (A ++ p :: Z) n = A.length + 1 := by
    unfold idxP
    rw [List.reverse_append, List.reverse_cons, List.append_assoc, idxR_app _ _ _ (fun q hq => hZ q (List.mem_reverse.1 hq))]
    show (if p.fr = n then _ else _) = _
    rw [if_pos hp]
    show ([] ++ A.reverse).length + 1 = A.length + 1
    rw [List.nil_append, List.length_reverse]
  unfold atP
  rw [h, if_neg (by omega), Nat.add_sub_cancel]
  simp
theorem at_none {L : List Part} {n : Nat} (h : ∀ p ∈ L, p.fr ≠ n) : atP L n = none := by
  refine atP_none ?_
  unfold idxP
  have := idxR_app L.reverse [] n fun q hq => h q (List.mem_reverse.1 hq)
  rw [List.append_nil] at this
  rw [this]
  rfl
/-- All pieces stand for themselves, and their texts are this. -/
def Says (l : List Pc) (v : List UInt8) : Prop := l.all (fun p => !p.ex) = true ∧ txL l = v
theorem says_app {a b : List Pc} {v w : List UInt8} (ha : Says a v) (hb : Says b w) : Says (a ++ b) (v ++ w) := by
  refine ⟨?_, ?_⟩
  · rw [List.all_append, ha.1, hb.1]; rfl
  · rw [txL_app, ha.2, hb.2]
theorem says_flush (pl : List UInt8) : Says (flushP pl) pl := by
  refine ⟨?_, flushP_tx pl⟩
  unfold flushP
  split <;> rfl
theorem says_one (q : Bool) (t : List UInt8) : Says [⟨false, q, t⟩] t := ⟨rfl, by simp [txL]⟩
/-- From a place on, the pieces say this. -/
def From (s : List UInt8) (L : List Part) (n : Nat) (v : List UInt8) : Prop := ∀ f pl, s.length < f + n → Says (eachP s L f n pl) (pl ++ v)
theorem from_end (s : List UInt8) (L : List Part) : From s L s.length [] := by
  intro f pl h
  obtain ⟨f, rfl⟩ : ∃ g, f = g + 1 := ⟨f - 1, by omega⟩
  rw [eachP_end (by omega), List.append_nil]
  exact says_flush pl
theorem sub_at (pre mid post : List UInt8) {a b : Nat} (ha : a = pre.length) (hb : b = a + mid.length) : subT (pre ++ mid ++ post) a b = mid := by
  subst hb ha
  unfold subT
  rw [← List.length_append, List.take_left, List.drop_left]
theorem from_bt {s : List UInt8} {L : List Part} {n : Nat} {v : List UInt8} {b : UInt8} (hn : n < s.length) (hA : atP L n = none) (hb : s.getD n 0 = b) (h : From s L (n + 1) v) : From s L n (b :: v) := by
  intro f pl hf
  obtain ⟨f, rfl⟩ : ∃ g, f = g + 1 := ⟨f - 1, by omega⟩
  rw [eachP_none hn hA, hb]
  have := h f (pl ++ [b]) (by omega)
  rwa [List.append_assoc] at this
theorem from_quo {s : List UInt8} {L : List Part} {n : Nat} {v : List UInt8} {p : Part} {t : List UInt8} (hn : n < s.length) (hA : atP L n = some p) (hc : p.c = 88 ∨ p.c = 83) (hl : n < p.fin) (hq : quoP s p = some ⟨false, true, t⟩) (h : From s L p.fin v) : From s L n (t ++ v) := by
  intro f pl hf
  obtain ⟨f, rfl⟩ : ∃ g, f = g + 1 := ⟨f - 1, by omega⟩
  have hlo : loneP p = false := by unfold loneP; rcases hc with e | e <;> rw [e] <;> rfl
  rw [eachP_some hn hA, if_neg (by rw [hlo]; rcases hc with e | e <;> rw [e] <;> decide), if_pos hc, hq]
  dsimp only
  refine says_app (says_flush pl) ?_
  exact says_app (says_one true t) (h f [] (by omega))
theorem from_dbl {s : List UInt8} {L : List Part} {n : Nat} {v : List UInt8} {p : Part} {t : List UInt8} (hn : n < s.length) (hA : atP L n = some p) (hc : p.c = 68) (hl : n < p.fin) (hd : Says (dblP s L (insT p) (s.length + 1) (insF p) [] false) t) (h : From s L p.fin v) : From s L n (t ++ v) := by
  intro f pl hf
  obtain ⟨f, rfl⟩ : ∃ g, f = g + 1 := ⟨f - 1, by omega⟩
  have hlo : loneP p = false := by unfold loneP; rw [hc]; rfl
  rw [eachP_some hn hA, if_neg (by rw [hlo, hc]; decide), if_neg (by rw [hc]; decide), if_pos hc]
  have := says_app (says_app (says_flush pl) hd) (h f [] (by omega))
  rw [List.nil_append, List.append_assoc pl] at this
  exact this
theorem dqP_fr (q n : Nat) (t : List UInt8) : ∀ p ∈ dqP q n t, q ≤ p.fr ∧ p.fr < q + (t.flatMap dblE).length := by
  induction t generalizing q with
  | nil => intro p h; cases h
  | cons b t ih =>
    intro p h
    rw [List.flatMap_cons, List.length_append]
    unfold dqP at h
    unfold dblE
    split at h
    · rename_i hb
      rw [if_pos hb]
      rcases List.mem_cons.1 h with rfl | h
      · exact ⟨Nat.le_refl _, by simp only [List.length_cons, List.length_nil]; omega⟩
      · have := ih (q + 2) p h
        simp only [List.length_cons, List.length_nil]
        unfold dblE at this
        omega
    · rename_i hb
      rw [if_neg hb]
      have := ih (q + 1) p h
      simp only [List.length_cons, List.length_nil]
      unfold dblE at this
      omega
/-- The inside of a Double. -/
theorem dbl_says (s : List UInt8) (n : Nat) (Z : List Part) : ∀ (t pre post : List UInt8) (A : List Part) (f : Nat) (here : List UInt8), s = pre ++ t.flatMap dblE ++ post → (∀ p ∈ Z, pre.length + (t.flatMap dblE).length < p.fr) → (∀ p ∈ A, p.fr < pre.length) →
    (t.flatMap dblE).length < f → Says (dblP s (A ++ (dqP pre.length n t ++ Z)) (pre.length + (t.flatMap dblE).length) f pre.length here false) (here ++ t) := by
  intro t
  induction t with
  | nil =>
    intro pre post A f here hs hZ hA hf
    obtain ⟨f, rfl⟩ : ∃ g, f = g + 1 := ⟨f - 1, by simp at hf; omega⟩
    rw [dblP_end (by simp), List.append_nil, if_neg (by simp)]
    exact says_one true here
  | cons b t ih =>
    intro pre post A f here hs hZ hA hf
    rw [List.flatMap_cons, List.length_append] at *
    obtain ⟨f, rfl⟩ : ∃ g, f = g + 1 := ⟨f - 1, by omega⟩
    have hfr := dqP_fr
    by_cases hb : dblB b = true
    · have e : dblE b = [92, b] := if_pos hb
      rw [e] at hs hZ hf ⊢
      simp only [List.length_cons, List.length_nil] at hZ hf ⊢
      have hd : dqP pre.length n (b :: t) = ⟨88, pre.length, pre.length + 2, (n : Int), false⟩ :: dqP (pre.length + 2) n t := by
        conv => lhs; unfold dqP
        rw [if_pos hb]
      have hk : atP (A ++ (dqP pre.length n (b :: t) ++ Z)) pre.length = some ⟨88, pre.length, pre.length + 2, (n : Int), false⟩ := by
        rw [hd, List.cons_append]
        refine at_some rfl fun r hr => ?_
        rcases List.mem_append.1 hr with h | h
        · have := hfr _ _ _ r h; omega
        · have := hZ r h; omega
      rw [dblP_some (by omega) hk, if_neg (show ¬ loneP ⟨88, pre.length, pre.length + 2, (n : Int), false⟩ = true by simp [loneP]), if_pos rfl]
      have hesc : escT s ⟨88, pre.length, pre.length + 2, (n : Int), false⟩ = [b] := by
        have hg : s.getD (pre.length + 1) 0 = b := by
          rw [hs]; simp [List.getD_eq_getElem?_getD, List.getElem?_append]
        unfold escT
        dsimp only
        rw [if_neg (by omega), hg, if_pos]
        unfold dblB at hb
        have h2 : ∀ n : Fin 256, dblB (UInt8.ofNat n.val) = true → Li.escB (UInt8.ofNat n.val).toNat = true := by decide +kernel
        have := h2 ⟨b.toNat, b.toNat_lt⟩
        simp only [UInt8.ofNat_toNat] at this
        exact this hb
      rw [hesc]
      dsimp only
      have := ih (pre ++ [92, b]) post (A ++ [⟨88, pre.length, pre.length + 2, (n : Int), false⟩]) f (here ++ [b]) (by rw [hs]; simp) (by intro p hp; have := hZ p hp; simp only [List.length_append, List.length_cons, List.length_nil]; omega) (by
        intro p hp
        rcases List.mem_append.1 hp with h | h
        · have := hA p h; simp only [List.length_append, List.length_cons, List.length_nil]; omega
        · rw [List.mem_singleton] at h; subst h; simp) (by omega)
      rw [hd]
      simp only [List.length_append, List.length_cons, List.length_nil, List.append_assoc, List.cons_append, List.nil_append] at this ⊢
      rw [show pre.length + (0 + 1 + 1 + (t.flatMap dblE).length) = pre.length + (0 + 1 + 1) + (t.flatMap dblE).length by omega]
      exact this
    · have e : dblE b = [b] := if_neg hb
      rw [e] at hs hZ hf ⊢
      simp only [List.length_cons, List.length_nil] at hZ hf ⊢
      have hd : dqP pre.length n (b :: t) = dqP (pre.length + 1) n t := by
        conv => lhs; unfold dqP
        rw [if_neg hb]
      have hk : atP (A ++ (dqP pre.length n (b :: t) ++ Z)) pre.length = none := by
        rw [hd]
        refine at_none fun r hr => ?_
        rcases List.mem_append.1 hr with h | h
        · have := hA r h; omega
        rcases List.mem_append.1 h with h | h
        · have := hfr _ _ _ r h; omega
        · have := hZ r h; omega
      have hg : s.getD pre.length 0 = b := by
        rw [hs]; simp [List.getD_eq_getElem?_getD]
      rw [dblP_none (by omega) hk, hg]
      have := ih (pre ++ [b]) post A f (here ++ [b]) (by rw [hs]; simp) (by intro p hp; have := hZ p hp; simp only [List.length_append, List.length_cons, List.length_nil]; omega) (by
        intro p hp
        have := hA p hp; simp only [List.length_append, List.length_cons, List.length_nil]; omega) (by omega)
      rw [hd]
      simp only [List.length_append, List.length_cons, List.length_nil, List.append_assoc, List.cons_append, List.nil_append] at this ⊢
      rw [show pre.length + (0 + 1 + (t.flatMap dblE).length) = pre.length + (0 + 1) + (t.flatMap dblE).length by omega]
      exact this
end Go.Proofs.YtadaeecokkokjaaGreatDoor.Li
/-
  The value of quoted texts (layers 7, 8, 17), plainly, on: every form's value is its text. No program in sight.
-/
namespace Go.Proofs.YtadaeecokkokjaaGreatDoor.Li
set_option linter.unusedSimpArgs false
set_option linter.unusedVariables false
open Cls Md Mc Pa Quo Lx
theorem text_pos (g : Seg) : 0 < g.text.length := by cases g <;> simp [Seg.text]
theorem parts_fr (g : Seg) (p n : Nat) : ∀ r ∈ g.parts p n, p ≤ r.fr ∧ r.fr < p + g.text.length := by
  intro r h
  cases g with
  | bt b => cases h
  | es b => cases List.mem_singleton.1 h; simp [Seg.text]
  | sq t => cases List.mem_singleton.1 h; simp [Seg.text]
  | dq t =>
    simp only [Seg.text, List.length_cons, List.length_append, List.length_nil]
    rcases List.mem_cons.1 h with rfl | h
    · dsimp only; omega
    · have := dqP_fr _ _ _ r h; omega
theorem ins_1 (c : UInt8) (hc : headI (mo c) = 1) (a b : Nat) (u : Int) (o : Bool) : insF ⟨c, a, b, u, o⟩ = a + 1 := by unfold insF; rw [hc]
theorem insT_o (c : UInt8) (hc : headI (mo c) = 1) (a b : Nat) (u : Int) (h : a < b) : insT ⟨c, a, b, u, true⟩ = b := by
  unfold insT; rw [ins_1 c hc]; show max (b - 0) (a + 1) = b; omega
theorem insT_c (c : UInt8) (hc : headI (mo c) = 1) (ht : tailI (mo c) false = 1) (a b : Nat) (u : Int) (h : a + 1 < b) : insT ⟨c, a, b, u, false⟩ = b - 1 := by
  unfold insT; rw [ins_1 c hc]; show max (b - tailI (mo c) false) (a + 1) = b - 1; rw [ht]; omega
theorem quo_sg (pre t post : List UInt8) (p : Part) (hc : p.c = 83) (hf : insF p = pre.length + 1) (ht : insT p = pre.length + 1 + t.length) : quoP (pre ++ 39 :: (t ++ post)) p = some ⟨false, true, t⟩ := by
  unfold quoP
  rw [if_pos hc, hf, ht]
  have := sub_at (pre ++ [39]) t post (a := pre.length + 1) (b := pre.length + 1 + t.length) (by simp) rfl
  simp only [List.append_assoc, List.cons_append, List.nil_append] at this
  rw [this]
theorem from_seg (g : Seg) (hg : g.ok) {s pre post : List UInt8} {A Z : List Part} {n : Nat} {v : List UInt8} (hs : s = pre ++ g.text ++ post) (hA : ∀ r ∈ A, r.fr < pre.length) (hZ : ∀ r ∈ Z, pre.length + g.text.length ≤ r.fr)
    (h : From s (A ++ (g.parts pre.length n ++ Z)) (pre.length + g.text.length) v) : From s (A ++ (g.parts pre.length n ++ Z)) pre.length (g.val ++ v) := by
  have hpos := text_pos g
  have hlen : pre.length < s.length := by rw [hs]; simp only [List.length_append]; omega
  cases g with
  | bt b =>
    refine from_bt hlen (at_none ?_) ?_ h
    · intro r hr
      rcases List.mem_append.1 hr with k | k
      · have := hA r k; omega
      · have := hZ r k; omega
    · rw [hs]; simp [Seg.text, List.getD_eq_getElem?_getD]
  | es b =>
    refine from_quo (p := ⟨88, pre.length, pre.length + 2, -1, false⟩) hlen (at_some rfl ?_) (.inl rfl) (by dsimp only; omega) ?_ h
    · intro r hr; have := hZ r hr; omega
    · have hb : b ≠ 10 := hg
      have := sub_at (pre ++ [92]) [b] post (a := pre.length + 1) (b := pre.length + 2) (by simp) (by simp)
      unfold quoP
      rw [if_neg (show ¬ (88 : UInt8) = 83 by decide), hs]
      dsimp only [Seg.text]
      simp only [List.append_assoc, List.cons_append, List.nil_append] at this ⊢
      rw [this, if_neg (by simp [hb])]
      rfl
  | sq t =>
    have hl : (Seg.sq t).text.length = t.length + 2 := by simp [Seg.text]
    refine from_quo (p := ⟨83, pre.length, pre.length + t.length + 2, -1, false⟩) hlen (at_some rfl ?_) (.inr rfl) (by dsimp only; omega) ?_ (by rw [hl] at h; exact h)
    · intro r hr; have := hZ r hr; omega
    · rw [hs]
      have := quo_sg pre t ([39] ++ post) ⟨83, pre.length, pre.length + t.length + 2, -1, false⟩ rfl (ins_1 _ (by decide +kernel) _ _ _ _) (by rw [insT_c _ (by decide +kernel) (by decide +kernel) _ _ _ (by omega)]; omega)
      simp only [Seg.text, List.append_assoc, List.cons_append, List.nil_append, Seg.val] at this ⊢
      exact this
  | dq t =>
    have hl : (Seg.dq t).text.length = (t.flatMap dblE).length + 2 := by simp only [Seg.text, List.length_cons, List.length_append, List.length_nil]
    have hsl : s.length = pre.length + ((t.flatMap dblE).length + 2) + post.length := by rw [hs, List.length_append, List.length_append, hl]
    have hfr := dqP_fr (pre.length + 1) n t
    refine from_dbl (p := ⟨68, pre.length, pre.length + (t.flatMap dblE).length + 2, -1, false⟩) hlen (at_some (Z := dqP (pre.length + 1) n t ++ Z) rfl ?_) rfl (by dsimp only; omega) ?_ (by rw [hl] at h; exact h)
    · intro r hr
      rcases List.mem_append.1 hr with k | k
      · have := hfr r k; omega
      · have := hZ r k; omega
    · rw [ins_1 _ (by decide +kernel), insT_c _ (by decide +kernel) (by decide +kernel) _ _ _ (by omega)]
      have := dbl_says s n Z t (pre ++ [34]) ([34] ++ post) (A ++ [⟨68, pre.length, pre.length + (t.flatMap dblE).length + 2, -1, false⟩]) (s.length + 1) [] (by rw [hs]; simp [Seg.text]) (by
        intro r hr; have := hZ r hr; rw [hl] at this; simp only [List.length_append, List.length_cons, List.length_nil]; omega) (by
        intro r hr
        rcases List.mem_append.1 hr with k | k
        · have := hA r k; simp only [List.length_append, List.length_cons, List.length_nil]; omega
        · cases List.mem_singleton.1 k; simp only [List.length_append, List.length_cons, List.length_nil]; omega) (by omega)
      simp only [List.length_append, List.length_cons, List.length_nil, List.append_assoc, List.cons_append, List.nil_append, Nat.zero_add] at this
      rw [show pre.length + (t.flatMap dblE).length + 2 - 1 = pre.length + 1 + (t.flatMap dblE).length by omega]
      exact this
def segT (l : List Seg) : List UInt8 := l.flatMap Seg.text
def segV (l : List Seg) : List UInt8 := l.flatMap Seg.val
def segP (p n : Nat) : List Seg → List Part
  | [] => []
  | g :: l => g.parts p n ++ segP (p + g.text.length) (n + (g.parts p n).length) l
theorem par_segs (l : List Seg) : ∀ (x : St) (p : Nat) (L : List Part), (∀ g ∈ l, g.ok) → TopX x → parK x p (L, []) (segT l) = (L ++ segP p L.length l, []) ∧ TopX (runK x p (segT l)) := by
  induction l with
  | nil => intro x p L _ h; exact ⟨by simp [segT, segP, parK], h⟩
  | cons g l ih =>
    intro x p L hg h
    obtain ⟨h1, h2⟩ := par_seg g (hg g List.mem_cons_self) x p L h
    have h3 := ih _ (p + g.text.length) (L ++ g.parts p L.length) (fun k hk => hg k (List.mem_cons_of_mem _ hk)) h2
    unfold segT at *
    rw [List.flatMap_cons, parK_append, runK_append, h1]
    refine ⟨?_, h3.2⟩
    rw [h3.1, List.length_append]
    simp only [segP, List.append_assoc]
theorem segP_fr (l : List Seg) : ∀ p n, ∀ r ∈ segP p n l, p ≤ r.fr ∧ r.fr < p + (segT l).length := by
  induction l with
  | nil => intro p n r h; cases h
  | cons g l ih =>
    intro p n r h
    unfold segT at *
    rw [List.flatMap_cons, List.length_append]
    rcases List.mem_append.1 h with k | k
    · have := parts_fr g p n r k; omega
    · have := ih _ _ r k; omega
theorem from_segs (s post : List UInt8) (v : List UInt8) (l : List Seg) : ∀ (pre : List UInt8) (A Z : List Part) (n : Nat), (∀ g ∈ l, g.ok) → s = pre ++ segT l ++ post → (∀ r ∈ A, r.fr < pre.length) → (∀ r ∈ Z, pre.length + (segT l).length ≤ r.fr) →
    From s (A ++ (segP pre.length n l ++ Z)) (pre.length + (segT l).length) v → From s (A ++ (segP pre.length n l ++ Z)) pre.length (segV l ++ v) := by
  induction l with
  | nil => intro pre A Z n _ _ _ _ h; exact h
  | cons g l ih =>
    intro pre A Z n hg hs hA hZ h
    have hT : segT (g :: l) = g.text ++ segT l := List.flatMap_cons
    have hV : segV (g :: l) = g.val ++ segV l := List.flatMap_cons
    rw [hT] at hs hZ h
    rw [hV, List.append_assoc]
    simp only [segP, List.append_assoc, List.length_append] at hs hZ h ⊢
    refine from_seg g (hg g List.mem_cons_self) (post := segT l ++ post) (by rw [hs]; simp) hA ?_ ?_
    · intro r hr
      rcases List.mem_append.1 hr with k | k
      · exact (segP_fr _ _ _ r k).1
      · have := hZ r k; omega
    · have := ih (pre ++ g.text) (A ++ g.parts pre.length n) Z (n + (g.parts pre.length n).length) (fun k hk => hg k (List.mem_cons_of_mem _ hk)) (by rw [hs]; simp) (by
        intro r hr
        rw [List.length_append]
        rcases List.mem_append.1 hr with k | k
        · have := hA r k; omega
        · exact (parts_fr g _ _ r k).2) (by intro r hr; have := hZ r hr; rw [List.length_append]; omega)
      simp only [List.length_append, List.append_assoc] at this
      refine this ?_
      rw [← Nat.add_assoc] at h
      exact h
end Go.Proofs.YtadaeecokkokjaaGreatDoor.Li
/-
  The value of quoted texts (layers 7, 8, 17), plainly, on: every form's value is its text, and the state behind it. No program in sight.
-/
namespace Go.Proofs.YtadaeecokkokjaaGreatDoor.Li
set_option linter.unusedSimpArgs false
set_option linter.unusedVariables false
open Cls Md Mc Pa Quo Lx
theorem top_first : TopX first := ⟨_, _, rfl⟩
theorem says_val {l : List Pc} {v : List UInt8} (h : Says l v) : valP l [] = (v, true) := by
  rw [valP_eq, if_pos h.1, h.2, List.nil_append]
/-- Parts that are closed, and no parameter's. -/
def Fin (L : List Part) : Prop := ∀ p ∈ L, p.c ≠ 76 ∧ p.op = false
theorem fin_map {s : List UInt8} {L : List Part} (h : Fin L) : L.map (finP s) = L := by
  refine (List.map_congr_left fun p hp => ?_).trans (List.map_id L)
  obtain ⟨h1, h2⟩ := h p hp
  unfold finP
  rw [if_neg h1, if_neg (by rw [h2]; simp)]
  rfl
theorem dqP_fin (q n : Nat) (t : List UInt8) : Fin (dqP q n t) := by
  induction t generalizing q with
  | nil => intro p h; cases h
  | cons b t ih =>
    unfold dqP
    split
    · intro p h
      rcases List.mem_cons.1 h with rfl | h
      · exact ⟨(by decide : (88 : UInt8) ≠ 76), rfl⟩
      · exact ih _ p h
    · exact ih _
theorem parts_fin (g : Seg) (p n : Nat) : Fin (g.parts p n) := by
  intro r h
  cases g with
  | bt b => cases h
  | es b => cases List.mem_singleton.1 h; exact ⟨(by decide : (88 : UInt8) ≠ 76), rfl⟩
  | sq t => cases List.mem_singleton.1 h; exact ⟨(by decide : (83 : UInt8) ≠ 76), rfl⟩
  | dq t =>
    rcases List.mem_cons.1 h with rfl | h
    · exact ⟨(by decide : (68 : UInt8) ≠ 76), rfl⟩
    · exact dqP_fin _ _ _ r h
theorem segP_fin (l : List Seg) : ∀ p n, Fin (segP p n l) := by
  induction l with
  | nil => intro p n r h; cases h
  | cons g l ih =>
    intro p n r h
    rcases List.mem_append.1 h with k | k
    · exact parts_fin g p n r k
    · exact ih _ _ r k
/-- Segments alone. -/
theorem value_segs (l : List Seg) (hg : ∀ g ∈ l, g.ok) : valueL (segT l) = (segV l, true) := by
  have h1 := (par_segs l first 0 [] hg top_first).1
  have hP : partsL (segT l) = segP 0 0 l := by
    unfold partsL par
    rw [h1]
    exact fin_map (segP_fin l 0 0)
  unfold valueL piecesL
  rw [hP]
  have := from_segs (segT l) [] [] l [] [] [] 0 hg (by simp) (by simp) (by simp) (by
    simp only [List.nil_append, List.append_nil, List.length_nil, Nat.zero_add]
    exact from_end _ _)
  simp only [List.nil_append, List.append_nil, List.length_nil] at this
  refine says_val ?_
  have h2 := this ((segT l).length + 1) [] (by omega)
  rwa [List.nil_append] at h2
/-- Segments, and an open Single. -/
theorem value_osg (l : List Seg) (hg : ∀ g ∈ l, g.ok) (t : List UInt8) (ht : 39 ∉ t) : valueL (segT l ++ 39 :: t) = (segV l ++ t, true) ∧ ∃ a, SngX (run (segT l ++ 39 :: t)) a := by
  obtain ⟨h1, h2⟩ := par_segs l first 0 [] hg top_first
  rw [List.nil_append, List.length_nil] at h1
  have h3 := top_sg h2 (segT l).length
  have h4 := par_sg t ht _ (segT l).length ((segT l).length + 1) (segP 0 0 l) 0 h3
  have hR : SngX (run (segT l ++ 39 :: t)) (segT l).length := by
    unfold run
    rw [runK_append, Nat.zero_add]
    exact h4.2
  refine ⟨?_, _, hR⟩
  have hP : partsL (segT l ++ 39 :: t) = segP 0 0 l ++ [⟨83, (segT l).length, (segT l ++ 39 :: t).length, -1, true⟩] := by
    have : par (segT l ++ 39 :: t) = (segP 0 0 l ++ [⟨83, (segT l).length, 0, -1, true⟩], [(segP 0 0 l).length]) := by
      unfold par
      rw [parK_append, h1, Nat.zero_add]
      show parK (Md.step _ (39 : UInt8).toNat (segT l).length) ((segT l).length + 1) (seeP (segT l).length (frs (Md.step _ (39 : UInt8).toNat (segT l).length)) (segP 0 0 l, [])) t = _
      rw [frs_sg h3, see_open _ 83 _ (by decide)]
      exact h4.1
    unfold partsL
    rw [this, List.map_append, fin_map (segP_fin l 0 0)]
    rfl
  generalize hn : (segT l ++ 39 :: t).length = N at *
  have hN : N = (segT l).length + 1 + t.length := by rw [← hn]; simp only [List.length_append, List.length_cons]; omega
  unfold valueL piecesL
  rw [hP]
  refine says_val ?_
  have hlast : From (segT l ++ 39 :: t) (segP 0 0 l ++ [⟨83, (segT l).length, N, -1, true⟩]) (segT l).length (t ++ []) := by
    refine from_quo (p := ⟨83, (segT l).length, N, -1, true⟩) (by omega) (at_some rfl (by simp)) (.inr rfl) (by dsimp only; omega) ?_ (by dsimp only; rw [← hn]; exact from_end _ _)
    have := quo_sg (segT l) t [] ⟨83, (segT l).length, N, -1, true⟩ rfl (ins_1 _ (by decide +kernel) _ _ _ _) (by rw [insT_o _ (by decide +kernel) _ _ _ (by omega)]; omega)
    rwa [List.append_nil] at this
  have := from_segs (segT l ++ 39 :: t) (39 :: t) (t ++ []) l [] [] [⟨83, (segT l).length, N, -1, true⟩] 0 hg (by simp) (by simp) (by simp) (by
    simp only [List.nil_append, List.length_nil, Nat.zero_add]
    exact hlast)
  simp only [List.nil_append, List.append_nil, List.length_nil] at this
  have h2 := this ((segT l ++ 39 :: t).length + 1) [] (by omega)
  rwa [List.nil_append] at h2
/-- An open Double. -/
theorem value_odb (t : List UInt8) : valueL (34 :: t.flatMap dblE) = (t, true) ∧ ∃ a, DblX (run (34 :: t.flatMap dblE)) a := by
  have h3 := top_db top_first 0
  have h4 := par_db t _ 0 1 [] [] h3
  refine ⟨?_, _, h4.2⟩
  generalize hn : (34 :: t.flatMap dblE).length = N at *
  have hN : N = 1 + (t.flatMap dblE).length := by rw [← hn]; simp only [List.length_cons]; omega
  have hP : partsL (34 :: t.flatMap dblE) = ⟨68, 0, N, -1, true⟩ :: dqP 1 0 t := by
    have : par (34 :: t.flatMap dblE) = (⟨68, 0, 0, -1, true⟩ :: dqP 1 0 t, [0]) := by
      unfold par
      show parK (Md.step _ (34 : UInt8).toNat 0) 1 (seeP 0 (frs (Md.step _ (34 : UInt8).toNat 0)) ([], [])) _ = _
      rw [frs_db h3, see_open _ 68 _ (by decide)]
      exact h4.1
    unfold partsL
    rw [this, List.map_cons, fin_map (dqP_fin 1 0 t)]
    show Part.mk 68 0 (34 :: t.flatMap dblE).length (-1) true :: _ = _
    rw [hn]
  unfold valueL piecesL
  rw [hP]
  refine says_val ?_
  have hlast : From (34 :: t.flatMap dblE) (⟨68, 0, N, -1, true⟩ :: dqP 1 0 t) 0 (t ++ []) := by
    refine from_dbl (p := ⟨68, 0, N, -1, true⟩) (by omega) (at_some (A := []) rfl ?_) rfl (by dsimp only; omega) ?_ (by dsimp only; rw [← hn]; exact from_end _ _)
    · intro r hr; have := dqP_fr 1 0 t r hr; omega
    · rw [ins_1 _ (by decide +kernel), insT_o _ (by decide +kernel) _ _ _ (by omega)]
      have := dbl_says (34 :: t.flatMap dblE) 0 [] t [34] [] [⟨68, 0, N, -1, true⟩] ((34 :: t.flatMap dblE).length + 1) [] (by simp) (by simp) (by simp) (by omega)
      simp only [List.length_append, List.length_cons, List.length_nil, List.append_assoc, List.cons_append, List.nil_append, Nat.zero_add, List.append_nil] at this hn ⊢
      rw [← hN] at this
      exact this
  have h2 := hlast ((34 :: t.flatMap dblE).length + 1) [] (by omega)
  rwa [List.nil_append, List.append_nil] at h2
/-- A Single's segments. -/
def sgI (acc : List UInt8) : List UInt8 → List Seg × List UInt8
  | [] => ([], acc)
  | b :: r => if b = 39 then (.sq acc :: .es 39 :: (sgI [] r).1, (sgI [] r).2) else sgI (acc ++ [b]) r
theorem sgI_text (r : List UInt8) : ∀ acc, segT (sgI acc r).1 ++ 39 :: (sgI acc r).2 = 39 :: (acc ++ r.flatMap fun b => if b = 39 then [39, 92, 39, 39] else [b]) := by
  induction r with
  | nil => intro acc; simp [sgI, segT]
  | cons b r ih =>
    intro acc
    unfold sgI
    by_cases hb : b = 39
    · rw [if_pos hb]
      have := ih []
      simp only [segT, List.flatMap_cons, Seg.text, List.cons_append, List.append_assoc, List.nil_append] at this ⊢
      rw [this, if_pos hb]
      simp
    · rw [if_neg hb, ih, List.flatMap_cons, if_neg hb]
      simp
theorem sgI_val (r : List UInt8) : ∀ acc, segV (sgI acc r).1 ++ (sgI acc r).2 = acc ++ r := by
  induction r with
  | nil => intro acc; simp [sgI, segV]
  | cons b r ih =>
    intro acc
    unfold sgI
    by_cases hb : b = 39
    · rw [if_pos hb]
      have := ih []
      simp only [segV, List.flatMap_cons, Seg.val, List.cons_append, List.append_assoc, List.nil_append] at this ⊢
      rw [this, hb]
    · rw [if_neg hb, ih]
      simp
theorem sgI_ok (r : List UInt8) : ∀ acc, 39 ∉ acc → (∀ g ∈ (sgI acc r).1, g.ok) ∧ 39 ∉ (sgI acc r).2 := by
  induction r with
  | nil => intro acc h; exact ⟨fun g hg => (by cases hg), h⟩
  | cons b r ih =>
    intro acc h
    unfold sgI
    by_cases hb : b = 39
    · rw [if_pos hb]
      have := ih [] (by simp)
      refine ⟨fun g hg => ?_, this.2⟩
      rcases List.mem_cons.1 hg with rfl | hg
      · exact h
      rcases List.mem_cons.1 hg with rfl | hg
      · exact (by decide : (39 : UInt8) ≠ 10)
      · exact this.1 g hg
    · rw [if_neg hb]
      refine ih _ fun e => ?_
      rcases List.mem_append.1 e with e | e
      · exact h e
      · exact hb (List.mem_singleton.1 e).symm
def escS (b : UInt8) : Seg := if b = 10 then .sq [10] else if safeB b = true then .bt b else .es b
theorem escS_ok (b : UInt8) : (escS b).ok := by
  unfold escS
  split
  · exact (by decide : (39 : UInt8) ∉ [10])
  · split
    · rename_i h; exact safe_top b h
    · rename_i h _; exact h
theorem escS_text (s : List UInt8) : segT (s.map escS) = s.flatMap Quo.escB := by
  unfold segT
  rw [List.flatMap_map]
  congr 1
  funext b
  unfold escS Quo.escB
  split
  · rfl
  · split <;> rfl
theorem escS_val (s : List UInt8) : segV (s.map escS) = s := by
  unfold segV
  rw [List.flatMap_map]
  have : (fun b => (escS b).val) = fun b => [b] := by
    funext b
    unfold escS
    split
    · rename_i h; rw [h]; rfl
    · split <;> rfl
  rw [this]
  simp
theorem segs_pln (s : List UInt8) : ∃ l : List Seg, (∀ g ∈ l, g.ok) ∧ segT l = plnL s ∧ segV l = s := by
  by_cases h0 : s = []
  · subst h0
    exact ⟨[.sq []], fun g hg => by cases List.mem_singleton.1 hg; exact List.not_mem_nil, rfl, rfl⟩
  have hall : ∀ l : List UInt8, ∀ g ∈ l.map escS, g.ok := fun l g hg => by
    obtain ⟨b, _, rfl⟩ := List.mem_map.1 hg
    exact escS_ok b
  unfold plnL
  rw [if_neg h0]
  unfold headL
  cases hr : (riskB s && safeB (s.getD 0 0)) with
  | false => exact ⟨s.map escS, hall s, by rw [escS_text]; rfl, escS_val s⟩
  | true =>
    obtain ⟨b, l, rfl⟩ := List.exists_cons_of_ne_nil h0
    have hs : safeB b = true := by rw [Bool.and_eq_true] at hr; exact hr.2
    have h10 : b ≠ 10 := by rintro rfl; revert hs; decide +kernel
    refine ⟨.es b :: l.map escS, ?_, ?_, ?_⟩
    · intro g hg
      rcases List.mem_cons.1 hg with rfl | hg
      · exact h10
      · exact hall l g hg
    · have := escS_text l
      unfold segT at *
      rw [List.flatMap_cons, this, List.flatMap_cons, if_pos rfl]
      show [92, b] ++ _ = [92] ++ (Quo.escB b ++ _)
      unfold Quo.escB
      rw [if_neg h10, if_pos hs]
      rfl
    · have := escS_val l
      unfold segV at *
      rw [List.flatMap_cons, this]
      rfl
theorem dblL_eq (s : List UInt8) : dblL s = 34 :: s.flatMap dblE := rfl
/-- Every form's value is its text. -/
theorem value_enc (s : List UInt8) (state : Int) (closed : Bool) : valueL (encL s state closed) = (s, true) := by
  unfold encL
  by_cases h4 : state = 4
  · rw [if_pos h4]
    obtain ⟨ok, hl⟩ := sgI_ok s [] (by simp)
    have ht := sgI_text s []
    have hv := sgI_val s []
    rw [List.nil_append] at ht hv
    cases closed with
    | false =>
      show valueL (sglL s ++ []) = _
      rw [List.append_nil]
      show valueL (39 :: s.flatMap fun b => if b = 39 then [39, 92, 39, 39] else [b]) = _
      rw [← ht, (value_osg _ ok _ hl).1, hv]
    | true =>
      show valueL ((39 :: s.flatMap fun b => if b = 39 then [39, 92, 39, 39] else [b]) ++ [39]) = _
      rw [← ht]
      have := value_segs ((sgI [] s).1 ++ [.sq (sgI [] s).2]) (fun g hg => by
        rcases List.mem_append.1 hg with k | k
        · exact ok g k
        · cases List.mem_singleton.1 k; exact hl)
      unfold segT segV at *
      rw [List.flatMap_append, List.flatMap_append] at this
      simp only [List.flatMap_cons, List.flatMap_nil, List.append_nil, Seg.text, Seg.val, List.append_assoc, List.cons_append] at this hv ⊢
      rw [this, hv]
  rw [if_neg h4]
  by_cases h5 : state = 5
  · rw [if_pos h5, dblL_eq]
    cases closed with
    | false =>
      show valueL (34 :: s.flatMap dblE ++ []) = _
      rw [List.append_nil, (value_odb s).1]
    | true =>
      have := value_segs [.dq s] (fun g hg => by cases List.mem_singleton.1 hg; trivial)
      unfold segT segV at this
      simp only [List.flatMap_cons, List.flatMap_nil, List.append_nil, Seg.text, Seg.val] at this
      exact this
  · rw [if_neg h5]
    obtain ⟨l, ok, ht, hv⟩ := segs_pln s
    rw [← ht, value_segs l ok, hv]
/-- How long a form is. -/
theorem enc_len (s : List UInt8) (state : Int) (closed : Bool) : (encL s state closed).length ≤ 4 * s.length + 4 := by
  have hf : ∀ (f : UInt8 → List UInt8), (∀ b, (f b).length ≤ 4) → (s.flatMap f).length ≤ 4 * s.length := by
    intro f hf
    induction s with
    | nil => simp
    | cons b s ih => rw [List.flatMap_cons, List.length_append, List.length_cons]; have := hf b; omega
  have hE : ∀ c, (endL closed c).length ≤ 1 := fun c => by unfold endL; split <;> simp
  unfold encL
  split
  · unfold sglL
    have := hf (fun b => if b = 39 then [39, 92, 39, 39] else [b]) (fun b => by split <;> simp)
    have := hE 39
    simp only [List.length_append, List.length_cons] at *
    omega
  · split
    · unfold dblL
      have := hf (fun b => if dblB b = true then [92, b] else [b]) (fun b => by split <;> simp)
      have := hE 34
      simp only [List.length_append, List.length_cons] at *
      omega
    · unfold plnL
      split
      · simp
      · have := hf Quo.escB (fun b => by unfold Quo.escB; split; simp; split <;> simp)
        have h2 : (headL s).length ≤ 1 := by unfold headL; split <;> simp
        rw [List.length_append]
        omega
end Go.Proofs.YtadaeecokkokjaaGreatDoor.Li
