/-
  The walks of layer 25 (expand), on: the pieces of a word, told one by one, expanded. Conditions: texts of at most 30000 bytes.
-/
import Derived.Test.YtfmecpnokefokaaGreatDoorIterQ
set_option linter.unusedSimpArgs false
set_option linter.unusedVariables false
namespace Go.Proofs.YtfmecpnokefokaaGreatDoor.Ex
open Go.ChangeShapes Go.WideShapes Go.Deep Go.RowKit Cls Md Mc Pa Li Pat
attribute [local go_sem] Oper.semAt_some
set_option maxRecDepth 100000
def encQ (x : Pc × Int) : Array Value := #[pcV x.1, .int .i64 x.2]
structure PxAt (w0 : World) (pb vb : Nat) (vv : Value) (s : List UInt8) (W : World) : Prop where
 b : Below w0.heap.size w0 W
 cp : W.cell? ⟨pb, 0, none⟩ = some (.string (B s))
 cv : W.cell? ⟨vb, 0, none⟩ = some vv
section
variable {w0 W W' : World} {pb vb : Nat} {vv : Value} {s : List UInt8}
theorem PxAt.below (h : PxAt w0 pb vb vv s W) (hb : Below W.heap.size W W') : PxAt w0 pb vb vv s W' :=
 have c := fun {k : Nat} {v : Value} (e : W.cell? ⟨k, 0, none⟩ = some v) => (hb.cell (p := ⟨k, 0, none⟩) (World.block_lt_of_cell? W _ e)).trans e
 ⟨below_then h.b hb, c h.cp, c h.cv⟩
theorem PxAt.kc {F F' : Nat → Prop} (h : PxAt w0 pb vb vv s W) (hk : KcQ w0.heap.size F F' W W') (h1 : ¬ F pb) (h2 : ¬ F vb) : PxAt w0 pb vb vv s W' := ⟨h.b.trans hk.low, hk.cell h.cp h1, hk.cell h.cv h2⟩
end
theorem own_pc {w : World} {b0 g off n c : Nat} {N : List Pc} (h : Own w b0 3 (.slice (some ⟨g, off, none⟩) n c) N.length (N.flatMap pcC)) {k : Nat} {a : Pc} (hk : N[k]? = some a) :
  b0 ≤ g ∧ w.cell? ⟨g, off + k * 3, none⟩ = some (.bool a.ex) ∧ w.cell? ⟨g, off + k * 3 + 1, none⟩ = some (.bool a.qu) ∧ w.cell? ⟨g, off + k * 3 + 2, none⟩ = some (.string (B a.tx)) := by
 have hlt := (List.getElem?_eq_some_iff.1 hk).1
 obtain ⟨A, c', e, _, _, _, h4⟩ := h.sl pcC_len rfl
 obtain ⟨b, o, rfl, hl, hc⟩ := h4 (by omega)
 cases e
 refine ⟨?_, hc k a hk 0 _ rfl, hc k a hk 1 _ rfl, hc k a hk 2 _ rfl⟩
 rcases h.2 with ⟨h0, _⟩ | ⟨g', off', c', e, h1, _⟩
 ·omega
 ·cases e; exact h1
theorem pieces_any (a : Option Addr) (s : List UInt8) (w : World) : Calls Tryz.prog 35 #[.pointer a, .string (B s)] w fun e w' =>
  e = .returned (.func (.func 55) #[] #[.pointer (some ⟨w.heap.size + 1, 0, none⟩), .pointer (some ⟨w.heap.size, 0, none⟩)]) ∧
  PxAt w (w.heap.size + 1) w.heap.size (.pointer a) s w' ∧ w'.heap.size = w.heap.size + 2 := by
 go_enter Tryz.func35, Tryz.ntmps35
 go_wp2
 go_ret
 exact ⟨by simp, ⟨below_alloc (below_alloc (Below.refl _ _) _) _, by simp [go_sem], by simp [go_sem]⟩, by simp⟩
set_option maxHeartbeats 6400000 in
theorem pieces_gives {w0 w : World} {pb vb : Nat} {vv : Value} {s : List UInt8} {one : Pc → Res} (h : PxAt w0 pb vb vv s w) (hs : s.length ≤ 30000)
  (hl : ∀ p, (one p).1.length ≤ 1048576) (hone : ∀ p ∈ piecesL s, p.ex = true → ∀ W, Below w0.heap.size w0 W → Calls Tryz.prog 57 #[vv, pcV p] W (ResP (one p) W)) :
  GivesQ Tryz.prog 55 #[.pointer (some ⟨pb, 0, none⟩), .pointer (some ⟨vb, 0, none⟩)] encQ (fun k => k = pb ∨ k = vb) w0.heap.size (tellE one 0 (piecesL s)) w := by
 intro n hn l J Jx W hW hJ hJx hF hY F hFG h0
 have h := h.below hW
 have HLP := Lib.hid (literalPieces_any s W hs)
 have HCN := Lib.hid (pieces_cnt hs)
 have HPM := Lib.hid fun q (hq : q ∈ piecesL s) => pieces_mem hs hq
 have HONE := Lib.hid hone
 have HL := Lib.hid hl
 have HY := Lib.hid hY
 have HJ := Lib.hid hJ
 have HF := Lib.hid hF
 have HFG := Lib.hid hFG
 have HN := Lib.hid h
 have H0 := Lib.hid h0
 obtain ⟨hb, cp, cv⟩ := h
 have hb1 := World.block_lt_of_cell? W _ cp
 have hb2 := World.block_lt_of_cell? W _ cv
 haveI : Old W pb := ⟨hb1⟩
 haveI : Old W vb := ⟨hb2⟩
 have HB0 := Lib.hid hb
 clear hY hJ hJx hF h0 hFG hb hone hl
 generalize piecesL s = xs at *
 obtain ⟨L, hL⟩ : ∃ L, L = tellE one 0 xs := ⟨_, rfl⟩
 rw [← hL] at HY ⊢
 have HLL := Lib.hid hL
 clear hL
 refine callsIn_of_wp Tryz.func55 rfl trivial ?_ rfl
 simp only [Tryz.ntmps55, List.size_toArray, List.length_cons, List.length_nil, Nat.reduceAdd, Nat.reduceSub, Array.replicate_succ, Array.replicate_zero, List.push_toArray, List.append_toArray, List.nil_append, List.cons_append]
 gi_wp2
 refine (callsIn_wide.2 HLP.out).mono ?_
 rintro e w2 ⟨v, rfl, ho, hb2⟩
 obtain ⟨A, c, rfl, hA⟩ := ho.form0
 have HO := Lib.hid ho
 have HB2 := Lib.hid hb2
 have HA := Lib.hid hA
 have HM2 := Lib.hid (HN.out.below hb2)
 have hnl : xs.length ≤ 2000000000 := HCN.out
 clear ho hb2 hA cp cv
 gi_wp2
 gi_loopw [4, 11] (fun s4 i wr => ∃ (k m : Nat) (F2 : Nat → Prop) (pre : List (Pc × Int)), i = .int .i64 k ∧ s4 = .int .i64 m ∧ k ≤ xs.length ∧ Hid (m ≤ k * 1073741824) ∧ Hid (KcQ w0.heap.size F F2 w2 wr) ∧ Hid (J pre F2 wr) ∧ Hid (L = pre ++ tellE one m (xs.drop k))) (fun _ i _ => xs.length - (intOf i).toNat)
 case atStart => exact ⟨0, 0, F, [], rfl, rfl, by omega, Lib.hid (by omega), KcQ.refl _ _ _, HJ.out _ _ _ _ (Lull.of_below HB2.out).q H0.out, HLL⟩
 case round =>
  obtain ⟨k, m, F2, pre, rfl, rfl, hk, HM, HK, HJ2, HE⟩ := hrel
  by_cases hlt : k < xs.length
  rotate_left
  ·have hj := HJ2.out
   have he := HE.out
   rw [List.drop_eq_nil_of_le (by omega), show tellE one m [] = [] from rfl, List.append_nil] at he
   rw [← he] at hj
   have H3 := Lib.hid hj
   have d0 := no hlt
   clear hj he
   gi_wp2
   go_end0
   exact ⟨⟨_, rfl⟩, _, .inl H3.out⟩
  have k0 : (0 : Int) ≤ (k : Int) := by omega
  have k1 : (k : Int) < (xs.length : Int) := by omega
  obtain ⟨g, off, rfl⟩ := HA.out (by omega)
  obtain ⟨p, hp⟩ : ∃ p, xs[k]? = some p := ⟨_, List.getElem?_eq_getElem hlt⟩
  obtain ⟨hg1, e0, e1, e2⟩ := own_pc HO.out hp
  have hbF : ∀ j, W.heap.size ≤ j → ¬ F j := fun j hj q => by have := HF.out [] F W H0.out j q; omega
  have e0 := HK.out.cell e0 (hbF g hg1)
  have e1 := HK.out.cell e1 (hbF g hg1)
  have e2 := HK.out.cell e2 (hbF g hg1)
  have HM3 := Lib.hid (HM2.out.kc HK.out (fun q => HFG.out _ q (.inl rfl)) (fun q => HFG.out _ q (.inr rfl)))
  have cv3 := HM3.out.cv
  haveI : Old wr vb := ⟨World.block_lt_of_cell? wr _ cv3⟩
  haveI : Old wr g := ⟨World.block_lt_of_cell? wr _ e0⟩
  have HSz := Lib.hid (HM3.out.b.size)
  have HSw := Lib.hid (show W.heap.size ≤ wr.heap.size by have h1 := HK.out.low.size; have h2 := HB2.out.size; omega)
  have hdr : xs.drop k = p :: xs.drop (k + 1) := by
   obtain ⟨h1, h2⟩ := List.getElem?_eq_some_iff.1 hp
   rw [← h2, List.drop_eq_getElem_cons h1]
  have HT := Lib.hid (show L = pre ++ (((⟨p.ex, p.qu, (stepE one p).1⟩ : Pc), errE m (stepE one p)) :: tellE one (m + (stepE one p).1.length) (xs.drop (k + 1))) by rw [HE.out, hdr]; rfl)
  have hpl := HPM.out p (List.mem_of_getElem? hp)
  have HON := Lib.hid fun (hx : p.ex = true) W (hW : Below w0.heap.size w0 W) => HONE.out p (List.mem_of_getElem? hp) hx W hW
  have hol := HL.out p
  have hmb : m ≤ 2147483648000000000 := by have := HM.out; omega
  have HLT := Lib.hid hlt
  have HBX := Lib.hid (BoxN.new wr [.bool p.ex, .bool p.qu, .string (B p.tx)] 35)
  have HBA := Lib.hid (below_alloc (Below.refl wr.heap.size wr) (.cells #[.bool p.ex, .bool p.qu, .string (B p.tx)] 35))
  have HJA := Lib.hid (HJ.out _ _ _ _ ((Lull.of_below HBA.out).mono HSw.out).q HJ2.out)
  have HYA := Lib.hid fun (x : Pc × Int) (hx : ∃ r, L = pre ++ x :: r) (X : World) (hj : J pre F2 X) => HY.out 0 pre x F2 X hj (by obtain ⟨r, e⟩ := hx; exact ⟨r, by rw [e]; simp⟩)
  clear hdr hp hlt hbF HE HY
  obtain ⟨ex, qu, tx⟩ := p
  dsimp only at HT HON e0 e1 e2 HBX HBA HJA hpl
  cases ex with
  | false =>
   rw [show stepE one ⟨false, qu, tx⟩ = (tx, 0) from rfl] at HT
   unfold errE at HT
   dsimp only at HT
   clear HON hol
   have w1 : IntKind.i64.wrap ((m : Int) + (tx.length : Int)) = ((m + tx.length : Nat) : Int) := by rw [IntWalk.i64_in _ (by omega)]; omega
   by_cases hgt : 1048576 < m + tx.length
   ·rw [if_pos ⟨rfl, hgt⟩] at HT
    have d1 : decide ((1048576 : Int) < ((m + tx.length : Nat) : Int)) = true := decide_eq_true (by omega)
    have d2 : decide ((1048576 : Int) < (m : Int) + (tx.length : Int)) = true := decide_eq_true (by omega)
    clear hgt
    obtain ⟨fn, tmps, assign, body, hy, hR⟩ := HYA.out _ ⟨_, HT.out⟩ _ HJA.out
    unfold encQ pcV at hy
    dsimp only at hy
    gi_wp2
    refine (roundIn_any hR).mono ?_
    rintro e W3 ⟨F', hk3, ⟨rfl, hJ3⟩ | ⟨rfl, hJ3⟩⟩
    ·have H3 := Lib.hid hJ3
     have HK3 := Lib.hid hk3
     clear hJ3 hk3
     gi_wp2
     go_roundw
     case rel => exact ⟨k + 1, m + tx.length, F', _, by go_num, by first | rfl | go_num, by omega, Lib.hid (by have := HM.out; omega), (HK.out.trans (KcQ.of_below HBA.out HSz.out)).trans HK3.out.toKcQ, H3, Lib.hid (by rw [HT.out]; simp)⟩
     case measure => simp [intOf]; omega
    ·have H3 := Lib.hid hJ3
     clear hJ3 hk3
     gi_wp2
     refine bodyPost_ret (results_none rfl _ _ _) rfl ?_
     exact ⟨⟨_, rfl⟩, F', .inr ⟨_, ⟨_, by rw [HT.out, List.append_assoc]; rfl⟩, H3.out⟩⟩
   ·rw [if_neg (fun q => hgt q.2)] at HT
    have d1 := no (show ¬ (1048576 : Int) < ((m + tx.length : Nat) : Int) by omega)
    have d2 := no (show ¬ (1048576 : Int) < (m : Int) + (tx.length : Int) by omega)
    clear hgt
    obtain ⟨fn, tmps, assign, body, hy, hR⟩ := HYA.out _ ⟨_, HT.out⟩ _ HJA.out
    unfold encQ pcV at hy
    dsimp only at hy
    gi_wp2
    refine (roundIn_any hR).mono ?_
    rintro e W3 ⟨F', hk3, ⟨rfl, hJ3⟩ | ⟨rfl, hJ3⟩⟩
    ·have H3 := Lib.hid hJ3
     have HK3 := Lib.hid hk3
     clear hJ3 hk3
     gi_wp2
     go_roundw
     case rel => exact ⟨k + 1, m + tx.length, F', _, by go_num, by first | rfl | go_num, by omega, Lib.hid (by have := HM.out; omega), (HK.out.trans (KcQ.of_below HBA.out HSz.out)).trans HK3.out.toKcQ, H3, Lib.hid (by rw [HT.out]; simp)⟩
     case measure => simp [intOf]; omega
    ·have H3 := Lib.hid hJ3
     clear hJ3 hk3
     gi_wp2
     refine bodyPost_ret (results_none rfl _ _ _) rfl ?_
     exact ⟨⟨_, rfl⟩, F', .inr ⟨_, ⟨_, by rw [HT.out, List.append_assoc]; rfl⟩, H3.out⟩⟩
  | true =>
   replace HON := Lib.hid (HON.out rfl)
   unfold ResP pcV at HON
   rw [show stepE one ⟨true, qu, tx⟩ = one ⟨true, qu, tx⟩ from rfl] at HT
   generalize one ⟨true, qu, tx⟩ = r at *
   obtain ⟨t, er⟩ := r
   unfold errE at HT
   dsimp only at HT HON hol
   have w1 : IntKind.i64.wrap ((m : Int) + (t.length : Int)) = ((m + t.length : Nat) : Int) := by rw [IntWalk.i64_in _ (by omega)]; omega
   by_cases he : er = 0
   ·subst he
    by_cases hgt : 1048576 < m + t.length
    ·rw [if_pos ⟨rfl, hgt⟩] at HT
     have d1 : decide ((1048576 : Int) < ((m + t.length : Nat) : Int)) = true := decide_eq_true (by omega)
     have d2 : decide ((1048576 : Int) < (m : Int) + (t.length : Int)) = true := decide_eq_true (by omega)
     clear hgt
     gi_wp2
     refine (callsIn_wide.2 (HON.out _ (below_then HM3.out.b HBA.out))).mono ?_
     rintro e w4 ⟨rfl, hb4⟩
     have hbx4 := HBX.out.below hb4
     have c0 := hbx4.c 0 _ rfl
     have c1 := hbx4.c 1 _ rfl
     have c2 := hbx4.c 2 _ rfl
     have f2 := hbx4.f 2
     haveI : Old w4 wr.heap.size := ⟨hbx4.lt⟩
     have HD := Lib.hid (below_keeps (below_then HBA.out hb4) (Keeps.setCell (F := fun k => k = wr.heap.size) w4 (a := ⟨wr.heap.size, 2, none⟩) rfl (.string (B t))) (fun k e => Nat.le_of_eq e.symm))
     have HJD := Lib.hid (HJ.out _ _ _ _ ((Lull.of_below HD.out).mono HSw.out).q HJ2.out)
     have HDX : Hid ((w4.setCell ⟨wr.heap.size, 2, none⟩ (.string (B t))).cell? ⟨wr.heap.size, 0, none⟩ = some (.bool true) ∧ (w4.setCell ⟨wr.heap.size, 2, none⟩ (.string (B t))).cell? ⟨wr.heap.size, 1, none⟩ = some (.bool qu) ∧ (w4.setCell ⟨wr.heap.size, 2, none⟩ (.string (B t))).cell? ⟨wr.heap.size, 2, none⟩ = some (.string (B t))) :=
      Lib.hid ⟨by rw [World.cell?_setCell_other _ _ _ _ (by simp)]; exact c0, by rw [World.cell?_setCell_other _ _ _ _ (by simp)]; exact c1, World.cell?_setCell_same' _ _ _ (by rw [c2]; rfl)⟩
     clear hb4 hbx4
     obtain ⟨fn, tmps, assign, body, hy, hR⟩ := HYA.out _ ⟨_, HT.out⟩ _ HJD.out
     unfold encQ pcV at hy
     dsimp only at hy
     gi_wp2
     refine (roundIn_any hR).mono ?_
     rintro e W3 ⟨F', hk3, ⟨rfl, hJ3⟩ | ⟨rfl, hJ3⟩⟩
     ·have H3 := Lib.hid hJ3
      have HK3 := Lib.hid hk3
      clear hJ3 hk3
      gi_wp2
      go_roundw
      case rel => exact ⟨k + 1, m + t.length, F', _, by go_num, by first | rfl | go_num, by omega, Lib.hid (by have := HM.out; omega), (HK.out.trans (KcQ.of_below HD.out HSz.out)).trans HK3.out.toKcQ, H3, Lib.hid (by rw [HT.out]; simp)⟩
      case measure => simp [intOf]; omega
     ·have H3 := Lib.hid hJ3
      clear hJ3 hk3
      gi_wp2
      refine bodyPost_ret (results_none rfl _ _ _) rfl ?_
      exact ⟨⟨_, rfl⟩, F', .inr ⟨_, ⟨_, by rw [HT.out, List.append_assoc]; rfl⟩, H3.out⟩⟩
    ·rw [if_neg (fun q => hgt q.2)] at HT
     have d1 := no (show ¬ (1048576 : Int) < ((m + t.length : Nat) : Int) by omega)
     have d2 := no (show ¬ (1048576 : Int) < (m : Int) + (t.length : Int) by omega)
     clear hgt
     gi_wp2
     refine (callsIn_wide.2 (HON.out _ (below_then HM3.out.b HBA.out))).mono ?_
     rintro e w4 ⟨rfl, hb4⟩
     have hbx4 := HBX.out.below hb4
     have c0 := hbx4.c 0 _ rfl
     have c1 := hbx4.c 1 _ rfl
     have c2 := hbx4.c 2 _ rfl
     have f2 := hbx4.f 2
     haveI : Old w4 wr.heap.size := ⟨hbx4.lt⟩
     have HD := Lib.hid (below_keeps (below_then HBA.out hb4) (Keeps.setCell (F := fun k => k = wr.heap.size) w4 (a := ⟨wr.heap.size, 2, none⟩) rfl (.string (B t))) (fun k e => Nat.le_of_eq e.symm))
     have HJD := Lib.hid (HJ.out _ _ _ _ ((Lull.of_below HD.out).mono HSw.out).q HJ2.out)
     have HDX : Hid ((w4.setCell ⟨wr.heap.size, 2, none⟩ (.string (B t))).cell? ⟨wr.heap.size, 0, none⟩ = some (.bool true) ∧ (w4.setCell ⟨wr.heap.size, 2, none⟩ (.string (B t))).cell? ⟨wr.heap.size, 1, none⟩ = some (.bool qu) ∧ (w4.setCell ⟨wr.heap.size, 2, none⟩ (.string (B t))).cell? ⟨wr.heap.size, 2, none⟩ = some (.string (B t))) :=
      Lib.hid ⟨by rw [World.cell?_setCell_other _ _ _ _ (by simp)]; exact c0, by rw [World.cell?_setCell_other _ _ _ _ (by simp)]; exact c1, World.cell?_setCell_same' _ _ _ (by rw [c2]; rfl)⟩
     clear hb4 hbx4
     obtain ⟨fn, tmps, assign, body, hy, hR⟩ := HYA.out _ ⟨_, HT.out⟩ _ HJD.out
     unfold encQ pcV at hy
     dsimp only at hy
     gi_wp2
     refine (roundIn_any hR).mono ?_
     rintro e W3 ⟨F', hk3, ⟨rfl, hJ3⟩ | ⟨rfl, hJ3⟩⟩
     ·have H3 := Lib.hid hJ3
      have HK3 := Lib.hid hk3
      clear hJ3 hk3
      gi_wp2
      go_roundw
      case rel => exact ⟨k + 1, m + t.length, F', _, by go_num, by first | rfl | go_num, by omega, Lib.hid (by have := HM.out; omega), (HK.out.trans (KcQ.of_below HD.out HSz.out)).trans HK3.out.toKcQ, H3, Lib.hid (by rw [HT.out]; simp)⟩
      case measure => simp [intOf]; omega
     ·have H3 := Lib.hid hJ3
      clear hJ3 hk3
      gi_wp2
      refine bodyPost_ret (results_none rfl _ _ _) rfl ?_
      exact ⟨⟨_, rfl⟩, F', .inr ⟨_, ⟨_, by rw [HT.out, List.append_assoc]; rfl⟩, H3.out⟩⟩
   ·rw [if_neg (fun q => he q.1)] at HT
    have d1 : (er == 0) = false := by simpa using he
    clear he
    gi_wp2
    refine (callsIn_wide.2 (HON.out _ (below_then HM3.out.b HBA.out))).mono ?_
    rintro e w4 ⟨rfl, hb4⟩
    have hbx4 := HBX.out.below hb4
    have c0 := hbx4.c 0 _ rfl
    have c1 := hbx4.c 1 _ rfl
    have c2 := hbx4.c 2 _ rfl
    have f2 := hbx4.f 2
    haveI : Old w4 wr.heap.size := ⟨hbx4.lt⟩
    have HD := Lib.hid (below_keeps (below_then HBA.out hb4) (Keeps.setCell (F := fun k => k = wr.heap.size) w4 (a := ⟨wr.heap.size, 2, none⟩) rfl (.string (B t))) (fun k e => Nat.le_of_eq e.symm))
    have HJD := Lib.hid (HJ.out _ _ _ _ ((Lull.of_below HD.out).mono HSw.out).q HJ2.out)
    have HDX : Hid ((w4.setCell ⟨wr.heap.size, 2, none⟩ (.string (B t))).cell? ⟨wr.heap.size, 0, none⟩ = some (.bool true) ∧ (w4.setCell ⟨wr.heap.size, 2, none⟩ (.string (B t))).cell? ⟨wr.heap.size, 1, none⟩ = some (.bool qu) ∧ (w4.setCell ⟨wr.heap.size, 2, none⟩ (.string (B t))).cell? ⟨wr.heap.size, 2, none⟩ = some (.string (B t))) :=
     Lib.hid ⟨by rw [World.cell?_setCell_other _ _ _ _ (by simp)]; exact c0, by rw [World.cell?_setCell_other _ _ _ _ (by simp)]; exact c1, World.cell?_setCell_same' _ _ _ (by rw [c2]; rfl)⟩
    clear hb4 hbx4
    obtain ⟨fn, tmps, assign, body, hy, hR⟩ := HYA.out _ ⟨_, HT.out⟩ _ HJD.out
    unfold encQ pcV at hy
    dsimp only at hy
    gi_wp2
    refine (roundIn_any hR).mono ?_
    rintro e W3 ⟨F', hk3, ⟨rfl, hJ3⟩ | ⟨rfl, hJ3⟩⟩
    ·have H3 := Lib.hid hJ3
     have HK3 := Lib.hid hk3
     clear hJ3 hk3
     gi_wp2
     go_roundw
     case rel => exact ⟨k + 1, m + t.length, F', _, by go_num, by first | rfl | go_num, by omega, Lib.hid (by have := HM.out; omega), (HK.out.trans (KcQ.of_below HD.out HSz.out)).trans HK3.out.toKcQ, H3, Lib.hid (by rw [HT.out]; simp)⟩
     case measure => simp [intOf]; omega
    ·have H3 := Lib.hid hJ3
     clear hJ3 hk3
     gi_wp2
     refine bodyPost_ret (results_none rfl _ _ _) rfl ?_
     exact ⟨⟨_, rfl⟩, F', .inr ⟨_, ⟨_, by rw [HT.out, List.append_assoc]; rfl⟩, H3.out⟩⟩
end Go.Proofs.YtfmecpnokefokaaGreatDoor.Ex
