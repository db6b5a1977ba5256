/-
  The walk of the law ExpandPieces: it returns true, whatever its arguments. Conditions: the library's variable MaxLen holds some number (arguments as the row reads them).
-/
import Derived.Test.YtfmecpnokefokaaGreatDoorExp23
import Derived.Test.YtfmecpnokefokaaGreatDoorExpLaw
set_option linter.unusedSimpArgs false
set_option linter.unusedVariables false
namespace Go.Proofs.YtfmecpnokefokaaGreatDoor.expandPieces
open Go.ChangeShapes Go.WideShapes Go.Deep Go.ChangeAt Go.RowKit Cls Md Mc Pa Li Pat Ex
set_option maxRecDepth 100000
set_option maxHeartbeats 3200000 in
theorem walk {H:Type} (enc:TypeId×Value→H) (w:World) (base:Nat) {v0 v1:Value} {d0 d1:DataW H} {p0 p1:List MemPlace} (hm:MaxL w)
  (h0:DataW.Trod enc Tryz.prog w 0 (fun _=>true) true 22 v0 d0 p0) (k0:Value.okWide Tryz.prog w .any base 22 v0)
  (h1:DataW.Trod enc Tryz.prog w 0 (fun _=>true) true 9 v1 d1 p1) (k1:Value.okWide Tryz.prog w .any base 9 v1) :
  Calls Tryz.prog 3 #[v0,v1] w fun e w'=>e = .returned (.bool true)∧Below w.heap.size w w':=by
 obtain ⟨l,hv,-,hxl⟩:=zem Tab.Ent.cells Tab.Ent.Ok Tryz.underlying22 Tab.ent_cells (by omega) Tab.ent_dec h0 k0
 obtain ⟨s,rfl,hs0⟩:=zcn h1 k1
 clear h0 k0 h1 k1
 have HAW:=Lib.hid (zbn w hm)
 have HLI:=Lib.hid fun W (hW:Below w.heap.size w W)=>zdo l v0 W (hv.below hW)
 cases hli:lightB l with
 | false =>
  rw [hli] at HLI
  clear hv hli
  go_enter Tryz.func3,Tryz.ntmps3
  go_wp2_with (first
   | (go_at_call 10;refine HAW.out.mono ?_;rintro e w1 ⟨rfl,hb⟩;have HB:=Lib.hid hb;clear hb)
   | (go_at_call 11;refine (HLI.out _ HB.out).mono ?_;rintro e w2 ⟨rfl,hb⟩;have HB2:=Lib.hid (za HB.out hb);clear hb))
  go_ret
  exact ⟨rfl,HB2.out⟩
 | true =>
 rw [hli] at HLI
 by_cases l1:60<s.length
 ·clear hv hli
  go_enter Tryz.func3,Tryz.ntmps3
  go_wp2_with (first
   | (go_at_call 10;refine HAW.out.mono ?_;rintro e w1 ⟨rfl,hb⟩;have HB:=Lib.hid hb;clear hb)
   | (go_at_call 11;refine (HLI.out _ HB.out).mono ?_;rintro e w2 ⟨rfl,hb⟩;have HB2:=Lib.hid (za HB.out hb);clear hb))
  go_ret
  exact ⟨rfl,HB2.out⟩
 have c1:=no (show ¬ (60:Int)<(s.length:Int) by omega)
 obtain ⟨hll,hln⟩:=zer hli
 have HV:=Lib.hid hv
 have HM:=Lib.hid hm
 have HOF:=Lib.hid fun W (hW:Below w.heap.size w W)=>Tab.of_ok 1 l v0 W (by decide) (by decide) (hv.below hW) (by omega) (fun e he=>by have:=hln e he;omega)
 have HRO:=Lib.hid fun W (hW:Below w.heap.size w W)=>Tab.refOf_any 1 l v0 W (hv.below hW) (by omega) (fun e he=>by have:=hln e he;omega)
 have hyl:(Tab.ofL 1 l).length≤10:=Nat.le_trans (Tab.ofL_len 1 l) hll
 have hyr:=Tab.ofL_rises 1 l
 have hyv:∀ x∈Tab.ofL 1 l,x.val.length<100:=zgi fun x hx=>by have:=hln x hx;omega
 have hyw:∀ x∈Tab.ofL 1 l,x.val.length<1048577:=fun x hx=>by have:=hyv x hx;omega
 unfold Tab.OfP at HOF
 unfold Tab.RowP at HRO
 generalize Tab.ofL 1 l=ys at *
 have HTB:=Lib.hid fun (W:World) (hW:Below w.heap.size w W) (b0 tb:Nat) (lv:Value) (h:Tab.TabAt W b0 tb lv 1 ys)=>zbw W b0 tb lv 1 ys (HM.out.below hW) h hyr (by omega) (by decide) (by decide) (za6 W) hyv 100 (by omega)
 have HRW:=Lib.hid fun (W:World) (b0:Nat) (v:Value) (h:Own W b0 2 v ys.length (ys.flatMap Tab.Ent.cells))=>zfw W v ys (h.sl Tab.ent_len rfl) (by omega) hyw 100 (by omega)
 have HSL:=Lib.hid (show s.length<100 by omega)
 clear hv hli hln hll hyl hyr hyv hyw l1 hm hs0
 obtain ⟨rE,hrE⟩:∃ r,expG (lookR ys) 100 s=r:=⟨_,rfl⟩
 have hcn:rE.1.length≤2000000000:=by rw [← hrE];exact zen _ _ _ (by have:=HSL.out;omega)
 obtain ⟨xs,eE⟩:=rE
 have HRE:=Lib.hid hrE
 dsimp only at hcn
 clear hrE
 go_enter Tryz.func3,Tryz.ntmps3
 go_wp2_with (first
  | (go_at_call 10;refine HAW.out.mono ?_;rintro e w1 ⟨rfl,hb⟩;have HB1:=Lib.hid hb;clear hb)
  | (go_at_call 11;refine (HLI.out _ HB1.out).mono ?_;rintro e w2 ⟨rfl,hb⟩;have HB2:=Lib.hid (za HB1.out hb);clear hb)
  | (go_at_call 14;have hp:=HR5.out.1 s _ (Below.refl _ _) HSL.out;rw [HRE.out] at hp;unfold PcsP at hp;refine hp.mono ?_;rintro e w6 ⟨v6,rfl,ho,hb⟩;dsimp only at ho;obtain ⟨A6,c6,rfl,hA6⟩:=ho.form0;have HO6:=Lib.hid ho;have HA6:=Lib.hid hA6;have HO46:=Lib.hid (HO45.out.below hb);have HB6:=Lib.hid (za HB5.out hb);clear ho hb hp hA6)
  | (go_at_call 15;refine (HRO.out _ HB4.out).mono ?_;rintro e w5 ⟨x5,rfl,ho,hb⟩;have HR5:=Lib.hid (HRW.out w5 _ _ ho);have HB5:=Lib.hid (za HB4.out hb);have HO45:=Lib.hid (HO4.out.below hb);clear ho hb)
  | (go_at_call 12;have hp:=HX3.out.1 s _ (Below.refl _ _) HSL.out;rw [HRE.out] at hp;unfold PcsP at hp;refine hp.mono ?_;rintro e w4 ⟨v4,rfl,ho,hb⟩;dsimp only at ho;obtain ⟨A4,c4,rfl,hA4⟩:=ho.form0;have HO4:=Lib.hid ho;have HA4:=Lib.hid hA4;have HB4:=Lib.hid (za HB3.out hb);clear ho hb hp hA4)
  | (go_at_call 13;refine (HOF.out _ HB2.out).mono ?_;rintro e w3 ⟨rfl,⟨lv,ht⟩,hb⟩;have HX3:=Lib.hid (HTB.out _ (za HB2.out hb) _ _ lv ht);have HB3:=Lib.hid (za HB2.out hb);clear ht hb))
 go_loopw [9] (fun i wr=>∃ k:Nat,i = .int .i64 k∧k≤xs.length∧Hid (Below w6.heap.size w6 wr)) (fun i _=>xs.length - (intOf i).toNat)
 case atStart=>exact ⟨0,rfl,by omega,Below.refl _ _⟩
 case round =>
  obtain ⟨k,rfl,hk,HBW⟩:=hrel
  by_cases hlt:k<xs.length
  ·obtain ⟨p,hp⟩:=zac hlt
   obtain ⟨g4,o4,rfl⟩:=HA4.out (by omega)
   obtain ⟨g6,o6,rfl⟩:=HA6.out (by omega)
   obtain ⟨-,a0,a1,a2⟩:=own_pc (HO46.out.below HBW.out) hp
   obtain ⟨-,b0,b1,b2⟩:=own_pc (HO6.out.below HBW.out) hp
   haveI:Old wr g4:=⟨World.block_lt_of_cell? _ _ a0⟩
   haveI:Old wr g6:=⟨World.block_lt_of_cell? _ _ b0⟩
   have q0:(0:Int)≤(k:Int):=by omega
   have q1:(k:Int)<(xs.length:Int):=by omega
   clear hp
   go_wp2
   (refine zv (by kernel_rfl) (by kernel_rfl) ?_;(repeat (go_big_quiet_step (fail)));refine wpQuiet_nil ?_;intro _ hw';obtain ⟨gq,hw''⟩:=hw';subst hw'')
   go_wp2
   go_roundw
   case rel=>exact ⟨k+1,by go_num,by omega,Lib.hid (zt HBW.out _)⟩
   case measure=>simp [intOf];omega
  ·have hke:k=xs.length:=by omega
   subst hke
   have d0:=no hlt
   clear hlt
   go_wp2
   go_ret
   exact ⟨rfl,za HB6.out HBW.out⟩
end Go.Proofs.YtfmecpnokefokaaGreatDoor.expandPieces
