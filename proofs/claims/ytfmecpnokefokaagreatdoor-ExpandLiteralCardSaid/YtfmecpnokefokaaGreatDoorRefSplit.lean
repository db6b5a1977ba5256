/-
  The walks of the definition's layers 8 and 17: a text's bare text; whether it expands; what a text splits into. Conditions: texts of at most 30000 bytes.
-/
import Derived.Test.YtfmecpnokefokaaGreatDoorRefPcs
set_option linter.unusedSimpArgs false
set_option linter.unusedVariables false
namespace Go.Proofs.YtfmecpnokefokaaGreatDoor.Li
open Go.ChangeShapes Go.WideShapes Go.Deep Go.RowKit Cls Md Mc Pa Pat Quo
set_option maxRecDepth 100000
theorem txL_take {P : List Pc} {k : Nat} {p : Pc} (h : P[k]? = some p) : txL (P.take (k + 1)) = txL (P.take k) ++ p.tx := by
 rw [List.take_add_one, h, txL_app]
 simp [txL]
set_option maxHeartbeats 2000000 in
theorem refExp_any (s : List UInt8) (w : World) (hs : s.length ≤ 30000) : Calls Tryz.prog 23 #[.string (B s)] w fun e w' => e = .returned (.bool ((piecesL s).any Pc.ex)) ∧ Below w.heap.size w w' := by
 have HP := Lib.hid (refPieces_any s w hs)
 have hpc := pieces_cnt hs
 generalize piecesL s = P at *
 go_enter Tryz.func23, Tryz.ntmps23
 go_wp2_with (go_at_call 38; refine HP.out.mono ?_; rintro e w1 ⟨v, rfl, ho, hb⟩; have HB := Lib.hid hb; obtain ⟨A, c, rfl, -, -, -, hA⟩ := ho.sl pcC_len rfl; have HA := Lib.hid hA; clear ho hb hA)
 go_loopw [4] (fun i wr => ∃ k : Nat, k ≤ P.length ∧ i = .int .i64 k ∧ Hid ((P.take k).any Pc.ex = false) ∧ Hid (w1 = wr)) (fun i _ => P.length - (intOf i).toNat)
 case atStart => exact ⟨0, by omega, rfl, Lib.hid rfl, Lib.hid rfl⟩
 case round =>
  obtain ⟨k, hk, rfl, HN, HW⟩ := hrel
  obtain rfl := HW.out
  clear HW
  by_cases hlt : k < P.length
  ·obtain ⟨b, off, rfl, hb, hcl⟩ := HA.out (by omega)
   obtain ⟨p, hp⟩ := get_some hlt
   have e0 := hcl k p hp 0 _ rfl
   rw [Nat.add_zero] at e0
   haveI : Old w1 b := ⟨hb⟩
   have k0 : (0 : Int) ≤ (k : Int) := by omega
   have k1 : (k : Int) < (P.length : Int) := by omega
   have HPM := Lib.hid (List.mem_of_getElem? hp)
   have HT := Lib.hid (show (P.take (k + 1)).any Pc.ex = p.ex by rw [List.take_add_one, hp, List.any_append, HN.out]; simp)
   clear hcl hp
   cases hx : p.ex with
   | true =>
    have HX := Lib.hid hx
    rw [hx] at e0
    clear hx
    go_wp2
    go_ret
    exact ⟨by rw [show P.any Pc.ex = true from List.any_eq_true.2 ⟨p, HPM.out, HX.out⟩]; rfl, HB.out⟩
   | false =>
    rw [hx] at e0 HT
    clear hx
    go_wp2
    go_roundw
    case rel => exact ⟨k + 1, by omega, by go_num, HT, by first | exact Lib.hid rfl | exact Lib.hid trivial⟩
    case measure => simp [intOf]; omega
  ·have hk' : k = P.length := by omega
   subst hk'
   have hn := HN.out
   rw [List.take_length] at hn
   have HN := Lib.hid hn
   clear hn
   go_wp2
   go_ret
   exact ⟨by rw [HN.out]; rfl, HB.out⟩
namespace Li2
end Li2
structure RsI (s : List UInt8) (w : World) (at_ f : Nat) (out : List (List UInt8)) (o : Value) (W : World) : Prop where
 eq : splitL s = splitW s (wordsF s (f + 1) (at_ + spanN blankB (s.drop at_))) out
 ft : s.length ≤ at_ + f
 own : Own W w.heap.size 1 o out.length (out.flatMap strC)
 nil : out = [] → o = .slice none 0 0
 be : Below w.heap.size w W
 al : at_ ≤ s.length
 ol : out.length ≤ at_
section
variable {s : List UInt8} {w W W' : World} {at_ f : Nat} {out : List (List UInt8)} {o o' : Value}
end
end Go.Proofs.YtfmecpnokefokaaGreatDoor.Li
