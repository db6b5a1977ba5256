/-
  The walks of the definition's layers 8 and 17: a text's bare text; whether it expands; what a text splits into. Conditions: texts of at most 30000 bytes.
-/
import Derived.Test.YtfmecpnokefokaaGreatDoorRefPcs
set_option linter.unusedSimpArgs false
set_option linter.unusedVariables false
namespace Go.Proofs.YtfmecpnokefokaaGreatDoor.Li
open Go.ChangeShapes Go.WideShapes Go.Deep Go.RowKit Cls Md Mc Pa Pat Quo
set_option maxRecDepth 100000
theorem txL_take {P:List Pc} {k:Nat} {p:Pc} (h:P[k]?=some p):txL (P.take (k+1))=txL (P.take k)++p.tx:=by
 rw [List.take_add_one,h,zaq]
 simp [txL]
set_option maxHeartbeats 2000000 in
theorem zp5 (s:List UInt8) (w:World) (hs:s.length≤30000):Calls Tryz.prog 23 #[.string (B s)] w fun e w'=>e = .returned (.bool ((piecesL s).any Pc.ex))∧Below w.heap.size w w':=by
 have HP:=Lib.hid (zfo s w hs)
 have hpc:=zba hs
 generalize piecesL s=P at *
 go_enter Tryz.func23,Tryz.ntmps23
 go_wp2_with (go_at_call 38;refine HP.out.mono ?_;rintro e w1 ⟨v,rfl,ho,hb⟩;have HB:=Lib.hid hb;obtain ⟨A,c,rfl,-,-,-,hA⟩:=ho.sl zav rfl;have HA:=Lib.hid hA;clear ho hb hA)
 go_loopw [4] (fun i wr=>∃ k:Nat,k≤P.length∧i = .int .i64 k∧Hid ((P.take k).any Pc.ex=false)∧Hid (w1=wr)) (fun i _=>P.length - (intOf i).toNat)
 case atStart=>exact ⟨0,by omega,rfl,Lib.hid rfl,Lib.hid rfl⟩
 case round =>
  obtain ⟨k,hk,rfl,HN,HW⟩:=hrel
  obtain rfl:=HW.out
  clear HW
  by_cases hlt:k<P.length
  ·obtain ⟨b,off,rfl,hb,hcl⟩:=HA.out (by omega)
   obtain ⟨p,hp⟩:=zac hlt
   have e0:=hcl k p hp 0 _ rfl
   rw [Nat.add_zero] at e0
   haveI:Old w1 b:=⟨hb⟩
   have k0:(0:Int)≤(k:Int):=by omega
   have k1:(k:Int)<(P.length:Int):=by omega
   have HPM:=Lib.hid (List.mem_of_getElem? hp)
   have HT:=Lib.hid (show (P.take (k+1)).any Pc.ex=p.ex by rw [List.take_add_one,hp,List.any_append,HN.out];simp)
   clear hcl hp
   cases hx:p.ex with
   | true =>
    have HX:=Lib.hid hx
    rw [hx] at e0
    clear hx
    go_wp2
    go_ret
    exact ⟨by rw [show P.any Pc.ex=true from List.any_eq_true.2 ⟨p,HPM.out,HX.out⟩];rfl,HB.out⟩
   | false =>
    rw [hx] at e0 HT
    clear hx
    go_wp2
    go_roundw
    case rel=>exact ⟨k+1,by omega,by go_num,HT,by first|exact Lib.hid rfl|exact Lib.hid trivial⟩
    case measure=>simp [intOf];omega
  ·have hk':k=P.length:=by omega
   subst hk'
   have hn:=HN.out
   rw [List.take_length] at hn
   have HN:=Lib.hid hn
   clear hn
   go_wp2
   go_ret
   exact ⟨by rw [HN.out];rfl,HB.out⟩
namespace Li2
theorem blank_head0 {c:UInt8} {t:List UInt8} (h:blankB c=false):spanN blankB (c :: t)=0:=by
 unfold spanN
 simp [List.takeWhile_cons,h]
end Li2
structure RsI (s:List UInt8) (w:World) (at_ f:Nat) (out:List (List UInt8)) (o:Value) (W:World):Prop where
 eq:splitL s=splitW s (wordsF s (f+1) (at_+spanN blankB (s.drop at_))) out
 ft:s.length≤at_+f
 own:Own W w.heap.size 1 o out.length (out.flatMap strC)
 nil:out=[]→o = .slice none 0 0
 be:Below w.heap.size w W
 al:at_≤s.length
 ol:out.length≤at_
theorem RsI.start (s:List UInt8) (w:World):RsI s w 0 s.length [] (.slice none 0 0) w :=
 ⟨by rw [Nat.zero_add];rfl,by omega,Own.nil _ _ _,fun _=>rfl,Below.refl _ _,Nat.zero_le _,Nat.le_refl _⟩
section
variable {s : List UInt8} {w W W' : World} {at_ f : Nat} {out : List (List UInt8)} {o o' : Value}
theorem RsI.below (h:RsI s w at_ f out o W) (hb:Below W.heap.size W W'):RsI s w at_ f out o W':=⟨h.eq,h.ft,h.own.below hb,h.nil,za h.be hb,h.al,h.ol⟩
theorem RsI.word (h:RsI s w at_ f out o W) (h1:at_<s.length) (hc:¬ clsB s[at_]=1):splitL s=if chkN s at_ (wendN s at_)≠0 then ([],at_,chkN s at_ (wendN s at_)) else splitW s (if wendN s at_=at_ then [] else wordsF s f (wendN s at_+spanN blankB (s.drop (wendN s at_)))) (out++[valT s (at_,wendN s at_)]):=by
 have hb:blankB s[at_]=false:=by
  unfold blankB
  simpa using hc
 have h0:spanN blankB (s.drop at_)=0:=by rw [List.drop_eq_getElem_cons h1];exact Li2.blank_head0 hb
 rw [h.eq,h0,Nat.add_zero]
 show splitW s (if at_<s.length then (at_,wendN s at_) :: (if wendN s at_=at_ then [] else wordsF s f (wendN s at_+spanN blankB (s.drop (wendN s at_)))) else []) out=_
 rw [if_pos h1]
 rfl
end
end Go.Proofs.YtfmecpnokefokaaGreatDoor.Li
