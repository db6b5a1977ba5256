/-
  The walk of the law ExpandTexts: it returns true, whatever its arguments. Conditions: the library's variable MaxLen holds some number (arguments as the row reads them).
-/
import Derived.Test.YtfmecpnokefokaaGreatDoorExp23
import Derived.Test.YtfmecpnokefokaaGreatDoorExpLaw
set_option linter.unusedSimpArgs false
set_option linter.unusedVariables false
namespace Go.Proofs.YtfmecpnokefokaaGreatDoor.expandTexts
open Go.ChangeShapes Go.WideShapes Go.Deep Go.ChangeAt Go.RowKit Cls Md Mc Pa Li Pat Ex
set_option maxRecDepth 100000
set_option maxHeartbeats 3200000 in
theorem walk {H:Type} (enc:TypeId×Value→H) (w:World) (base:Nat) {v0 v1:Value} {d0 d1:DataW H} {p0 p1:List MemPlace} (hm:MaxL w)
  (h0:DataW.Trod enc Tryz.prog w 0 (fun _=>true) true 22 v0 d0 p0) (k0:Value.okWide Tryz.prog w .any base 22 v0)
  (h1:DataW.Trod enc Tryz.prog w 0 (fun _=>true) true 9 v1 d1 p1) (k1:Value.okWide Tryz.prog w .any base 9 v1) :
  Calls Tryz.prog 4 #[v0,v1] w fun e w'=>e = .returned (.bool true)∧Below w.heap.size w w':=by
 obtain ⟨l,hv,-,hxl⟩:=zem Tab.Ent.cells Tab.Ent.Ok Tryz.underlying22 Tab.ent_cells (by omega) Tab.ent_dec h0 k0
 obtain ⟨s,rfl,hs0⟩:=zcn h1 k1
 clear h0 k0 h1 k1
 have HAW:=Lib.hid (zbn w hm)
 have HLI:=Lib.hid fun W (hW:Below w.heap.size w W)=>zdo l v0 W (hv.below hW)
 cases hli:lightB l with
 | false =>
  rw [hli] at HLI
  clear hv hli
  go_enter Tryz.func4,Tryz.ntmps4
  go_wp2_with (first
   | (go_at_call 10;refine HAW.out.mono ?_;rintro e w1 ⟨rfl,hb⟩;have HB:=Lib.hid hb;clear hb)
   | (go_at_call 11;refine (HLI.out _ HB.out).mono ?_;rintro e w2 ⟨rfl,hb⟩;have HB2:=Lib.hid (za HB.out hb);clear hb))
  go_ret
  exact ⟨rfl,HB2.out⟩
 | true =>
 rw [hli] at HLI
 by_cases l1:60<s.length
 ·clear hv hli
  go_enter Tryz.func4,Tryz.ntmps4
  go_wp2_with (first
   | (go_at_call 10;refine HAW.out.mono ?_;rintro e w1 ⟨rfl,hb⟩;have HB:=Lib.hid hb;clear hb)
   | (go_at_call 11;refine (HLI.out _ HB.out).mono ?_;rintro e w2 ⟨rfl,hb⟩;have HB2:=Lib.hid (za HB.out hb);clear hb))
  go_ret
  exact ⟨rfl,HB2.out⟩
 have c1:=no (show ¬ (60:Int)<(s.length:Int) by omega)
 obtain ⟨hll,hln⟩:=zer hli
 have HV:=Lib.hid hv
 have HM:=Lib.hid hm
 have HOF:=Lib.hid fun W (hW:Below w.heap.size w W)=>Tab.of_ok 1 l v0 W (by decide) (by decide) (hv.below hW) (by omega) (fun e he=>by have:=hln e he;omega)
 have HRO:=Lib.hid fun W (hW:Below w.heap.size w W)=>Tab.refOf_any 1 l v0 W (hv.below hW) (by omega) (fun e he=>by have:=hln e he;omega)
 have hyl:(Tab.ofL 1 l).length≤10:=Nat.le_trans (Tab.ofL_len 1 l) hll
 have hyr:=Tab.ofL_rises 1 l
 have hyv:∀ x∈Tab.ofL 1 l,x.val.length<100:=zgi fun x hx=>by have:=hln x hx;omega
 have hyw:∀ x∈Tab.ofL 1 l,x.val.length<1048577:=fun x hx=>by have:=hyv x hx;omega
 unfold Tab.OfP at HOF
 unfold Tab.RowP at HRO
 generalize Tab.ofL 1 l=ys at *
 have HTB:=Lib.hid fun (W:World) (hW:Below w.heap.size w W) (b0 tb:Nat) (lv:Value) (h:Tab.TabAt W b0 tb lv 1 ys)=>zbw W b0 tb lv 1 ys (HM.out.below hW) h hyr (by omega) (by decide) (by decide) (za6 W) hyv 100 (by omega)
 have HRW:=Lib.hid fun (W:World) (b0:Nat) (v:Value) (h:Own W b0 2 v ys.length (ys.flatMap Tab.Ent.cells))=>zfw W v ys (h.sl Tab.ent_len rfl) (by omega) hyw 100 (by omega)
 have HSL:=Lib.hid (show s.length<100 by omega)
 clear hv hli hln hll hyl hyr hyv hyw l1 hm hs0
 obtain ⟨rT,hrT⟩:∃ r,textG (lookR ys) 100 s=r:=⟨_,rfl⟩
 obtain ⟨rP,hrP⟩:∃ r,patG (lookR ys) 100 s=r:=⟨_,rfl⟩
 obtain ⟨tT,eT⟩:=rT
 obtain ⟨tP,eP⟩:=rP
 have HRT:=Lib.hid hrT
 have HRP:=Lib.hid hrP
 clear hrT hrP
 go_enter Tryz.func4,Tryz.ntmps4
 go_wp2_with (first
  | (go_at_call 10;refine HAW.out.mono ?_;rintro e w1 ⟨rfl,hb⟩;have HB1:=Lib.hid hb;clear hb)
  | (go_at_call 11;refine (HLI.out _ HB1.out).mono ?_;rintro e w2 ⟨rfl,hb⟩;have HB2:=Lib.hid (za HB1.out hb);clear hb)
  | (go_at_call 15;refine (HRO.out _ HB2.out).mono ?_;rintro e w3 ⟨x3,rfl,ho,hb⟩;have HR3:=Lib.hid (HRW.out w3 _ _ ho);have HB3:=Lib.hid (za HB2.out hb);clear ho hb)
  | (go_at_call 19;have hp:=HR3.out.2.2 s _ HC7.out HSL.out;rw [HRP.out] at hp;unfold ResP at hp;refine hp.mono ?_;rintro e w9 ⟨rfl,hb⟩;have HB9:=Lib.hid (za HB8.out hb);clear hb)
  | (go_at_call 18;have hp:=HR3.out.2.1 s _ HC6.out HSL.out;rw [HRT.out] at hp;unfold ResP at hp;refine hp.mono ?_;rintro e w8 ⟨rfl,hb⟩;have HB8:=Lib.hid (za HB7.out hb);have HC7:=Lib.hid (za HC6.out hb);clear hb hp)
  | (go_at_call 17;have hp:=HX6.out.2.2 s _ (Below.refl _ _) HSL.out;rw [HRP.out] at hp;unfold ResP at hp;refine hp.mono ?_;rintro e w7 ⟨rfl,hb⟩;have HB7:=Lib.hid (za HB6.out hb);have HC6:=Lib.hid (za HC5.out hb);clear hb hp)
  | (go_at_call 13;refine (HOF.out _ HB5.out).mono ?_;rintro e w6 ⟨rfl,⟨lv,ht⟩,hb⟩;have HX6:=Lib.hid (HTB.out _ (za HB5.out hb) _ _ lv ht);have HB6:=Lib.hid (za HB5.out hb);have HC5:=Lib.hid (za HC4.out hb);clear ht hb)
  | (go_at_call 16;have hp:=HX4.out.2.1 s _ (Below.refl _ _) HSL.out;rw [HRT.out] at hp;unfold ResP at hp;refine hp.mono ?_;rintro e w5 ⟨rfl,hb⟩;have HB5:=Lib.hid (za HB4.out hb);have HC4:=Lib.hid (za HC3.out hb);clear hb hp)
  | (go_at_call 13;refine (HOF.out _ HB3.out).mono ?_;rintro e w4 ⟨rfl,⟨lv,ht⟩,hb⟩;have HX4:=Lib.hid (HTB.out _ (za HB3.out hb) _ _ lv ht);have HB4:=Lib.hid (za HB3.out hb);have HC3:=Lib.hid hb;clear ht hb))
 go_ret
 exact ⟨rfl,HB9.out⟩
end Go.Proofs.YtfmecpnokefokaaGreatDoor.expandTexts
