/-
  The walk of the law GlobQuoted: it returns true, whatever its arguments. Conditions: the library's variable MaxLen holds some number (arguments as the row reads them).
-/
import Derived.Test.YtjcdmjdofdnaoaaGreatDoorGlobPlain
import Derived.Test.YtjcdmjdofdnaoaaGreatDoorGwLight
import Derived.Test.YtjcdmjdofdnaoaaGreatDoorWordPlain
set_option linter.unusedSimpArgs false
set_option linter.unusedVariables false
namespace Go.Proofs.YtjcdmjdofdnaoaaGreatDoor.globQuoted
open Go.ChangeShapes Go.WideShapes Go.Deep Go.ChangeAt Go.RowKit Fil Spc Quo Gw Pat
set_option maxRecDepth 100000
theorem _root_.Go.Proofs.YtjcdmjdofdnaoaaGreatDoor.j7q {p:Prop} (h:p):Go.RowKit.Hid p:=Go.Lib.hid h
theorem zch {y:Wd} (h:lightW y=true):y.f.length≤20∧(∀ f∈y.f,f.path.length≤100)∧y.d.length≤100∧y.v.length≤20∧∀ e∈y.v,e.name.length≤100∧e.val.length≤100:=by
 unfold lightW at h;simp only [Bool.and_eq_true,decide_eq_true_eq] at h;obtain ⟨h1,h2,-,h4,-,-,-,h8,-⟩:=h;unfold shortF at h8;rw [List.all_eq_true] at h8;exact ⟨h1,fun f hf=>by simpa using h8 f hf,h2,(ent_of h4).1,(ent_of h4).2⟩
set_option maxHeartbeats 3200000 in
theorem walk {H:Type} (enc:TypeId×Value→H) (w:World) (base:Nat) {v0 v1:Value} {d0 d1:DataW H} {p0 p1:List MemPlace} (hm:MaxL w)
  (h0:DataW.Trod enc Tryz.prog w 0 (fun _=>true) true 26 v0 d0 p0) (k0:Value.okWide Tryz.prog w .any base 26 v0)
  (h1:DataW.Trod enc Tryz.prog w 0 (fun _=>true) true 9 v1 d1 p1) (k1:Value.okWide Tryz.prog w .any base 9 v1) :
  Calls Tryz.prog 3 #[v0,v1] w fun e w'=>e = .returned (.bool true)∧Below w.heap.size w w':=by
 obtain ⟨x,y,rfl,hx⟩:=zmo h0 k0;obtain ⟨s,rfl,hs0⟩:=zpz h1 k1;clear h0 k0 h1 k1;have HAW:=j7q fun W (hW:Below w.heap.size w W)=>Glob.awake27_any W (hm.below hW);have HLI:=j7q fun W (hW:Below w.heap.size w W)=>zkt x y W (hx.below hW);have HSH:=j7q fun W (hW:Below w.heap.size w W) (hs:s.length≤40)=>zkj s W (hm.below hW) (by omega);have HWD:=j7q fun W (hW:Below w.heap.size w W) (hl:lightW y=true) (hs:s.length≤40)=>zob x y s W (hx.below hW) (hm.below hW) (zch hl).1 (zch hl).2.1 (zch hl).2.2.1 (zch hl).2.2.2.1 (zch hl).2.2.2.2 hs;obtain ⟨vf,vv,va,vu,vb,vs⟩:=x;unfold wdV at *;unfold WrdP at HWD;dsimp only at *;generalize hq:shortL s=q at *;generalize y.d=yd at *;clear hx hm hq;by_cases hs:s.length≤40
 case neg =>
  have n1:(40:Int)<(s.length:Int):=by omega
  clear hs HSH HWD;generalize lightW y=ly at *;cases ly
  all_goals
   go_enter Tryz.func3,Tryz.ntmps3
   go_wp2_with (first
    | (go_at_call 4;refine (HAW.out _ (za (Below.refl _ _) _)).mono ?_;rintro e w1 ⟨rfl,hb⟩;have HB1:=j7q (zb (za (Below.refl w.heap.size w) _) hb);have BX1:=j7q ((BoxN.new w [vf,.string (B yd),vv,va,vu,vb,vs] 26).below hb);obtain ⟨c0,c1,c2,c3,c4,c5,c6⟩:=box7 BX1.out;haveI:Old w1 w.heap.size:=⟨BX1.out.lt⟩;clear hb)
    | (go_at_call 5;refine (HLI.out _ HB1.out).mono ?_;rintro e w2 ⟨rfl,hb⟩;have HB2:=j7q (zb HB1.out hb);clear hb))
   go_ret;exact ⟨rfl,HB2.out⟩
 have n1:¬ (40:Int)<(s.length:Int):=by omega
 cases hl:lightW y with
 | false =>
  rw [hl] at HLI;clear hl HSH HWD hs;go_enter Tryz.func3,Tryz.ntmps3
  go_wp2_with (first
   | (go_at_call 4;refine (HAW.out _ (za (Below.refl _ _) _)).mono ?_;rintro e w1 ⟨rfl,hb⟩;have HB1:=j7q (zb (za (Below.refl w.heap.size w) _) hb);have BX1:=j7q ((BoxN.new w [vf,.string (B yd),vv,va,vu,vb,vs] 26).below hb);obtain ⟨c0,c1,c2,c3,c4,c5,c6⟩:=box7 BX1.out;haveI:Old w1 w.heap.size:=⟨BX1.out.lt⟩;clear hb)
   | (go_at_call 5;refine (HLI.out _ HB1.out).mono ?_;rintro e w2 ⟨rfl,hb⟩;have HB2:=j7q (zb HB1.out hb);clear hb))
  go_ret;exact ⟨rfl,HB2.out⟩
 | true =>
  have HSH:=j7q fun W (hW:Below w.heap.size w W)=>HSH.out W hW hs;have HWD:=j7q fun W (hW:Below w.heap.size w W)=>HWD.out W hW hl hs;rw [hl] at HLI;clear hl hs;go_enter Tryz.func3,Tryz.ntmps3
  go_wp2_with (first
   | (go_at_call 4;refine (HAW.out _ (za (Below.refl _ _) _)).mono ?_;rintro e w1 ⟨rfl,hb⟩;have HB1:=j7q (zb (za (Below.refl w.heap.size w) _) hb);have BX1:=j7q ((BoxN.new w [vf,.string (B yd),vv,va,vu,vb,vs] 26).below hb);obtain ⟨c0,c1,c2,c3,c4,c5,c6⟩:=box7 BX1.out;haveI:Old w1 w.heap.size:=⟨BX1.out.lt⟩;clear hb)
   | (go_at_call 5;refine (HLI.out _ HB1.out).mono ?_;rintro e w2 ⟨rfl,hb⟩;have HB2:=j7q (zb HB1.out hb);have BX2:=j7q (BX1.out.below hb);clear c0 c1 c2 c3 c4 c5 c6;obtain ⟨c0,c1,c2,c3,c4,c5,c6⟩:=box7 BX2.out;haveI:Old w2 w.heap.size:=⟨BX2.out.lt⟩;clear hb))
  (refine za1 3 (by kernel_rfl) (by kernel_rfl) rfl ?_;simp only [List.take_succ_cons,List.take_zero,List.drop_succ_cons,List.drop_zero];(repeat (go_big_quiet_step ((go_at_call 7;exact zda (HSH.out _ (zj HB2.out _))))));refine wpQuiet_nil ?_;intro _ hw';obtain ⟨gq,hw''⟩:=hw';subst hw'';intro K hK;go_simp;((go_at_call 6;refine (HWD.out _ (zj HB2.out _)).mono ?_;rintro e w5 ⟨v,rfl,ho,hb⟩;obtain ⟨g,off,c,rfl,hg,hg2,-,-⟩:=ho.form' (by decide);have e0:=own_cell ho (by decide) (j:=0) rfl;rw [Nat.add_zero] at e0;haveI:Old w5 g:=⟨hg2⟩;have HB5:=j7q (zb (zj HB2.out _) hb);clear hb ho hg));refine hK.out _ _ ?_;clear hK K;(repeat (go_big_quiet_step (fail)));refine wpQuiet_nil ?_;intro _ hw';obtain ⟨gq2,hw''⟩:=hw';subst hw'')
  go_wp2;go_ret;exact ⟨rfl,zj HB5.out _⟩
end Go.Proofs.YtjcdmjdofdnaoaaGreatDoor.globQuoted
