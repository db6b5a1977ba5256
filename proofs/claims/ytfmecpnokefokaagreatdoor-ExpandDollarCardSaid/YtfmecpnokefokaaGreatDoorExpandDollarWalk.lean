/-
  The walk of the law ExpandDollar: it returns true, whatever its arguments. Conditions: the library's variable MaxLen holds some number (arguments as the row reads them).
-/
import Derived.Test.YtfmecpnokefokaaGreatDoorExpSym2
import Derived.Test.YtfmecpnokefokaaGreatDoorExpLaw
set_option linter.unusedSimpArgs false
set_option linter.unusedVariables false
namespace Go.Proofs.YtfmecpnokefokaaGreatDoor.expandDollar
open Go.ChangeShapes Go.WideShapes Go.Deep Go.ChangeAt Go.RowKit Cls Md Mc Pa Li Pat Ex
set_option maxRecDepth 100000
set_option maxHeartbeats 3200000 in
theorem walk {H:Type} (enc:TypeId×Value→H) (w:World) (base:Nat) {v0 v1:Value} {d0 d1:DataW H} {p0 p1:List MemPlace} (hm:MaxL w)
  (h0:DataW.Trod enc Tryz.prog w 0 (fun _=>true) true 22 v0 d0 p0) (k0:Value.okWide Tryz.prog w .any base 22 v0)
  (h1:DataW.Trod enc Tryz.prog w 0 (fun _=>true) true 9 v1 d1 p1) (k1:Value.okWide Tryz.prog w .any base 9 v1) :
  Calls Tryz.prog 5 #[v0,v1] w fun e w'=>e = .returned (.bool true)∧Below w.heap.size w w':=by
 obtain ⟨l,hv,-,hxl⟩:=zem Tab.Ent.cells Tab.Ent.Ok Tryz.underlying22 Tab.ent_cells (by omega) Tab.ent_dec h0 k0
 obtain ⟨s,rfl,hs0⟩:=zcn h1 k1
 clear h0 k0 h1 k1
 have HAW:=Lib.hid (zbn w hm)
 have HLI:=Lib.hid fun W (hW:Below w.heap.size w W)=>zdo l v0 W (hv.below hW)
 cases hli:lightB l with
 | false =>
  rw [hli] at HLI
  clear hv hli
  go_enter Tryz.func5,Tryz.ntmps5
  go_wp2_with (first
   | (go_at_call 10;refine HAW.out.mono ?_;rintro e w1 ⟨rfl,hb⟩;have HB:=Lib.hid hb;clear hb)
   | (go_at_call 11;refine (HLI.out _ HB.out).mono ?_;rintro e w2 ⟨rfl,hb⟩;have HB2:=Lib.hid (za HB.out hb);clear hb))
  go_ret
  exact ⟨rfl,HB2.out⟩
 | true =>
 rw [hli] at HLI
 by_cases l1:40<s.length
 ·clear hv hli
  go_enter Tryz.func5,Tryz.ntmps5
  go_wp2_with (first
   | (go_at_call 10;refine HAW.out.mono ?_;rintro e w1 ⟨rfl,hb⟩;have HB:=Lib.hid hb;clear hb)
   | (go_at_call 11;refine (HLI.out _ HB.out).mono ?_;rintro e w2 ⟨rfl,hb⟩;have HB2:=Lib.hid (za HB.out hb);clear hb))
  go_ret
  exact ⟨rfl,HB2.out⟩
 have c1:=no (show ¬ (40:Int)<(s.length:Int) by omega)
 obtain ⟨hll,hln⟩:=zer hli
 have HM:=Lib.hid hm
 have HIN:=Lib.hid fun W=>zbo s W (by omega)
 cases hin:isNameB s with
 | false =>
  rw [hin] at HIN
  clear hv hli hin hln hll
  go_enter Tryz.func5,Tryz.ntmps5
  go_wp2_with (first|(go_at_call 10;refine HAW.out.mono ?_;rintro e w1 ⟨rfl,hb⟩;have HB1:=Lib.hid hb;clear hb)|(go_at_call 11;refine (HLI.out _ HB1.out).mono ?_;rintro e w2 ⟨rfl,hb⟩;have HB2:=Lib.hid (za HB1.out hb);clear hb)|(go_at_call 20;refine (HIN.out _).mono ?_;rintro e w3 ⟨rfl,rfl⟩))
  go_ret
  exact ⟨rfl,HB2.out⟩
 | true =>
 rw [hin] at HIN
 have HOF:=Lib.hid fun W (hW:Below w.heap.size w W)=>Tab.of_ok 1 l v0 W (by decide) (by decide) (hv.below hW) (by omega) (fun e he=>by have:=hln e he;omega)
 have HRO:=Lib.hid fun W (hW:Below w.heap.size w W)=>Tab.refOf_any 1 l v0 W (hv.below hW) (by omega) (fun e he=>by have:=hln e he;omega)
 have hyl:(Tab.ofL 1 l).length≤10:=Nat.le_trans (Tab.ofL_len 1 l) hll
 have hyr:=Tab.ofL_rises 1 l
 have hyv:∀ x∈Tab.ofL 1 l,x.val.length<100:=zgi fun x hx=>by have:=hln x hx;omega
 unfold Tab.OfP at HOF
 unfold Tab.RowP at HRO
 generalize Tab.ofL 1 l=ys at *
 have HGE:=Lib.hid fun (v:Value) (W:World) (h:Sl W Tab.Ent.cells 2 v ys)=>Tab.refGet_any ys v s W h (by omega)
 have hlk:lookR ys s=(Tab.getE ys s).map (·.val):=by unfold lookR;rw [if_pos hin]
 have hgl:((lookR ys s).getD []).length≤1048576:=by
  cases h:lookR ys s with
  | none=>simp
  | some v=>have:=zhd hyv h;simp;omega
 have HTB:Hid (∀ (W:World),Below w.heap.size w W→∀ (b0 tb:Nat) (lv:Value),Tab.TabAt W b0 tb lv 1 ys →
   (∀ W',Below W.heap.size W W'→Calls Tryz.prog 16 #[.pointer (some ⟨tb,0,none⟩),.string (B (36 :: s))] W' (ResP ((lookR ys s).getD [],0) W')) ∧
   (∀ W',Below W.heap.size W W'→Calls Tryz.prog 16 #[.pointer (some ⟨tb,0,none⟩),.string (B (34 :: 36 :: 123 :: (s++[125,34])))] W' (ResP ((lookR ys s).getD [],0) W')) ∧
   (∀ W',Below W.heap.size W W'→Calls Tryz.prog 16 #[.pointer (some ⟨tb,0,none⟩),.string (B (36 :: 123 :: (s++[45,110,111,110,101,125])))] W' (ResP (if (lookR ys s).isSome=true then (lookR ys s).getD [] else [110,111,110,101],0) W')) ∧
   (∀ W',Below W.heap.size W W'→Calls Tryz.prog 16 #[.pointer (some ⟨tb,0,none⟩),.string (B (36 :: 123 :: (s++[43,115,111,109,101,125])))] W' (ResP (if (lookR ys s).isSome=true then [115,111,109,101] else [],0) W'))):=Lib.hid fun W hW b0 tb lv h=>by
  have hx:=(zbw W b0 tb lv 1 ys (HM.out.below hW) h hyr (by omega) (M:=100) (by decide) (by decide) (za6 W) hyv 100 (by omega)).2.1
  refine ⟨fun W' hW'=>?_,fun W' hW'=>?_,fun W' hW'=>?_,fun W' hW'=>?_⟩
  ·have:=hx (36 :: s) W' hW' (by simp;omega)
   rw [text_dol (f:=99) hin hgl] at this
   exact this
  ·have:=hx (34 :: 36 :: 123 :: (s++[125,34])) W' hW' (by simp;omega)
   rw [text_quo (f:=99) hin hgl] at this
   exact this
  ·have:=hx (36 :: 123 :: (s++[45,110,111,110,101]++[125])) W' hW' (by simp;omega)
   rw [zqv (f:=98) hin hgl] at this
   rw [List.append_assoc] at this
   exact this
  ·have:=hx (36 :: 123 :: (s++[43,115,111,109,101]++[125])) W' hW' (by simp;omega)
   rw [zqw (f:=98) hin] at this
   rw [List.append_assoc] at this
   exact this
 unfold ResP at HTB
 rw [hlk] at HTB
 have z1:¬ 9223372036854775807<1+s.length:=by omega
 have z2:¬ 9223372036854775807<3+s.length:=by omega
 have z3:¬ 9223372036854775807<2+s.length:=by omega
 have z4:¬ 9223372036854775807<s.length+1+1+1+2:=by omega
 have z5:¬ 9223372036854775807<s.length+1+1+6:=by omega
 clear hv hli hln hll hyl hyr hyv l1 hm hs0 hgl hlk hin
 cases hge:Tab.getE ys s with
 | none =>
  rw [hge] at HTB HGE
  dsimp only [Option.map_none,Option.getD_none,Option.isSome_none] at HTB
  simp only [Bool.false_eq_true,if_false,Option.map_none,Option.getD_none,Option.isSome_none] at HTB
  unfold Tab.getP at HGE
  dsimp only at HGE
  clear hge
  go_enter Tryz.func5,Tryz.ntmps5
  go_wp2_with (first|(go_at_call 10;refine HAW.out.mono ?_;rintro e w1 ⟨rfl,hb⟩;have HB1:=Lib.hid hb;clear hb)|(go_at_call 11;refine (HLI.out _ HB1.out).mono ?_;rintro e w2 ⟨rfl,hb⟩;have HB2:=Lib.hid (za HB1.out hb);clear hb)|(go_at_call 20;refine (HIN.out _).mono ?_;rintro e w3 ⟨rfl,rfl⟩)|(go_at_call 13;refine (HOF.out _ HB2.out).mono ?_;rintro e w4 ⟨rfl,⟨lv,ht⟩,hb⟩;have HX:=Lib.hid (HTB.out _ (za HB2.out hb) _ _ lv ht);have HB4:=Lib.hid (za HB2.out hb);have HC4:=Lib.hid (Below.refl w4.heap.size w4);clear ht hb)|(go_at_call 15;refine (HRO.out _ HB4.out).mono ?_;rintro e w5 ⟨x5,rfl,ho,hb⟩;have HSL:=Lib.hid (ho.sl Tab.ent_len rfl);have HB5:=Lib.hid (za HB4.out hb);have HC5:=Lib.hid hb;clear ho hb)|(go_at_call 21;refine (HGE.out _ _ HSL.out).mono ?_;rintro e w6 ⟨rfl,rfl⟩)|(go_at_call 16;refine (HX.out.2.2.2 _ HC9.out).mono ?_;rintro e w10 ⟨rfl,hb⟩;have HB10:=Lib.hid (za HB9.out hb);clear hb)|(go_at_call 16;refine (HX.out.2.2.1 _ HC8.out).mono ?_;rintro e w9 ⟨rfl,hb⟩;have HB9:=Lib.hid (za HB8.out hb);have HC9:=Lib.hid (za HC8.out hb);clear hb)|(go_at_call 16;refine (HX.out.2.1 _ HC7.out).mono ?_;rintro e w8 ⟨rfl,hb⟩;have HB8:=Lib.hid (za HB7.out hb);have HC8:=Lib.hid (za HC7.out hb);clear hb)|(go_at_call 16;refine (HX.out.1 _ HC5.out).mono ?_;rintro e w7 ⟨rfl,hb⟩;have HB7:=Lib.hid (za HB5.out hb);have HC7:=Lib.hid (za HC5.out hb);clear hb))
  go_ret
  exact ⟨rfl,HB10.out⟩
 | some x =>
  rw [hge] at HTB HGE
  simp only [if_true,Option.map_some,Option.getD_some,Option.isSome_some] at HTB
  unfold Tab.getP at HGE
  dsimp only at HGE
  clear hge
  obtain ⟨xn,xv⟩:=x
  dsimp only at HTB HGE
  go_enter Tryz.func5,Tryz.ntmps5
  go_wp2_with (first|(go_at_call 10;refine HAW.out.mono ?_;rintro e w1 ⟨rfl,hb⟩;have HB1:=Lib.hid hb;clear hb)|(go_at_call 11;refine (HLI.out _ HB1.out).mono ?_;rintro e w2 ⟨rfl,hb⟩;have HB2:=Lib.hid (za HB1.out hb);clear hb)|(go_at_call 20;refine (HIN.out _).mono ?_;rintro e w3 ⟨rfl,rfl⟩)|(go_at_call 13;refine (HOF.out _ HB2.out).mono ?_;rintro e w4 ⟨rfl,⟨lv,ht⟩,hb⟩;have HX:=Lib.hid (HTB.out _ (za HB2.out hb) _ _ lv ht);have HB4:=Lib.hid (za HB2.out hb);have HC4:=Lib.hid (Below.refl w4.heap.size w4);clear ht hb)|(go_at_call 15;refine (HRO.out _ HB4.out).mono ?_;rintro e w5 ⟨x5,rfl,ho,hb⟩;have HSL:=Lib.hid (ho.sl Tab.ent_len rfl);have HB5:=Lib.hid (za HB4.out hb);have HC5:=Lib.hid hb;clear ho hb)|(go_at_call 21;refine (HGE.out _ _ HSL.out).mono ?_;rintro e w6 ⟨rfl,rfl⟩)|(go_at_call 16;refine (HX.out.2.2.2 _ HC9.out).mono ?_;rintro e w10 ⟨rfl,hb⟩;have HB10:=Lib.hid (za HB9.out hb);clear hb)|(go_at_call 16;refine (HX.out.2.2.1 _ HC8.out).mono ?_;rintro e w9 ⟨rfl,hb⟩;have HB9:=Lib.hid (za HB8.out hb);have HC9:=Lib.hid (za HC8.out hb);clear hb)|(go_at_call 16;refine (HX.out.2.1 _ HC7.out).mono ?_;rintro e w8 ⟨rfl,hb⟩;have HB8:=Lib.hid (za HB7.out hb);have HC8:=Lib.hid (za HC7.out hb);clear hb)|(go_at_call 16;refine (HX.out.1 _ HC5.out).mono ?_;rintro e w7 ⟨rfl,hb⟩;have HB7:=Lib.hid (za HB5.out hb);have HC7:=Lib.hid (za HC5.out hb);clear hb))
  go_ret
  exact ⟨rfl,HB10.out⟩
end Go.Proofs.YtfmecpnokefokaaGreatDoor.expandDollar
