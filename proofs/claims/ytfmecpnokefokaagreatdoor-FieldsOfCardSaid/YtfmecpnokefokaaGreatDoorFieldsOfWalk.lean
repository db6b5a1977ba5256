/-
  The walk of the law FieldsOf: it returns true, whatever its arguments. Conditions: the library's variable MaxLen holds some number (arguments as the row reads them).
-/
import Derived.Test.YtfmecpnokefokaaGreatDoorFlOf
import Derived.Test.YtfmecpnokefokaaGreatDoorExpLaw
set_option linter.unusedSimpArgs false
set_option linter.unusedVariables false
namespace Go.Proofs.YtfmecpnokefokaaGreatDoor.fieldsOf
open Go.ChangeShapes Go.WideShapes Go.Deep Go.ChangeAt Go.RowKit Cls Md Mc Pa Li Pat Ex
set_option maxRecDepth 100000
set_option maxHeartbeats 3200000 in
theorem _root_.Go.Proofs.YtfmecpnokefokaaGreatDoor.j7r {p:Prop} (h:p):Go.RowKit.Hid p:=Go.Lib.hid h
theorem walk {H:Type} (enc:TypeId×Value→H) (w:World) (base:Nat) {v0 v1:Value} {d0 d1:DataW H} {p0 p1:List MemPlace} (hm:MaxL w)
  (h0:DataW.Trod enc Tryz.prog w 0 (fun _=>true) true 22 v0 d0 p0) (k0:Value.okWide Tryz.prog w .any base 22 v0)
  (h1:DataW.Trod enc Tryz.prog w 0 (fun _=>true) true 9 v1 d1 p1) (k1:Value.okWide Tryz.prog w .any base 9 v1) :
  Calls Tryz.prog 9 #[v0,v1] w fun e w'=>e = .returned (.bool true)∧Below w.heap.size w w':=by
 obtain ⟨l,hv,-,hxl⟩:=open_sl Tab.Ent.cells Tab.Ent.Ok Tryz.underlying22 Tab.ent_cells (by omega) Tab.ent_dec h0 k0;obtain ⟨s,rfl,hs0⟩:=zpt h1 k1;clear h0 k0 h1 k1;have HAW:=j7r (zmf w);have HLI:=j7r fun W (hW:Below w.heap.size w W)=>zp1 l v0 W (hv.below hW)
 cases hli:lightB l with
 | false =>
  rw [hli] at HLI;clear hv hli;go_enter Tryz.func9,Tryz.ntmps9
  go_wp2_with (first
   | (go_at_call 29;refine HAW.out.mono ?_;rintro e w1 ⟨rfl,hb⟩;have HB:=j7r hb;clear hb)
   | (go_at_call 11;refine (HLI.out _ HB.out).mono ?_;rintro e w2 ⟨rfl,hb⟩;have HB2:=j7r (zb HB.out hb);clear hb))
  go_ret;exact ⟨rfl,HB2.out⟩
 | true =>
 rw [hli] at HLI;by_cases l1:60<s.length
 ·clear hv hli
  go_enter Tryz.func9,Tryz.ntmps9
  go_wp2_with (first
   | (go_at_call 29;refine HAW.out.mono ?_;rintro e w1 ⟨rfl,hb⟩;have HB:=j7r hb;clear hb)
   | (go_at_call 11;refine (HLI.out _ HB.out).mono ?_;rintro e w2 ⟨rfl,hb⟩;have HB2:=j7r (zb HB.out hb);clear hb))
  go_ret;exact ⟨rfl,HB2.out⟩
 have c1:=no (show ¬ (60:Int)<(s.length:Int) by omega);obtain ⟨hll,hln⟩:=light_of hli;have HV:=j7r hv;have HM:=j7r hm;have HOF:=j7r fun W (hW:Below w.heap.size w W)=>Tab.of_ok 1 l v0 W (by decide) (by decide) (hv.below hW) (by omega) (fun e he=>by have:=hln e he;omega);have HRO:=j7r fun W (hW:Below w.heap.size w W)=>Tab.refOf_any 1 l v0 W (hv.below hW) (by omega) (fun e he=>by have:=hln e he;omega);have hyl:(Tab.ofL 1 l).length≤10:=Nat.le_trans (Tab.ofL_len 1 l) hll;have hyr:=Tab.ofL_rises 1 l;have hyv:∀ x∈Tab.ofL 1 l,x.val.length<100:=ofL_val fun x hx=>by have:=hln x hx;omega
 have hyw:∀ x∈Tab.ofL 1 l,x.val.length<1048577:=fun x hx=>by have:=hyv x hx;omega
 unfold Tab.OfP at HOF;unfold Tab.RowP at HRO;generalize Tab.ofL 1 l=ys at *;have HYL:=j7r (show ys.length≤1048576 by omega);have HYR:=j7r hyr
 have HYB:=j7r (show (byL ys).length≤4294967296 by
  unfold byL
  cases he:Tab.getE ys ifsL with
  | none=>decide
  | some x=>have:=hyv x (List.mem_of_find?_eq_some he);show x.val.length≤_;omega)
 have HTB:=j7r fun (W:World) (hW:Below w.heap.size w W) (b0 tb:Nat) (lv:Value) (h:Tab.TabAt W b0 tb lv 1 ys)=>zp2 W b0 tb lv 1 ys (HM.out.below hW) h hyr (by omega) (by decide) (by decide) (zn3 W) hyv 100 (by omega);have HRW:=j7r fun (W:World) (b0:Nat) (v:Value) (h:Own W b0 2 v ys.length (ys.flatMap Tab.Ent.cells))=>zku W v ys (h.sl Tab.ent_len rfl) (by omega) hyw 100 (by omega);have HSL:=j7r (show s.length<100 by omega);clear hv hli hln hll hyl hyr hyv hyw l1 hm hs0
 obtain ⟨rE,hrE⟩:∃ r,expG (lookR ys) 100 s=r:=⟨_,rfl⟩
 have hcn:rE.1.length≤2000000000:=by rw [← hrE];exact zec _ _ _ (by have:=HSL.out;omega)
 have hln:(txL rE.1).length≤1048576:=by rw [← hrE];exact zcc _ _ _
 have HFO:Hid (∀ (W:World),Below w.heap.size w W→∀ (b0 tb:Nat) (lv:Value),Tab.TabAt W b0 tb lv 1 ys →
   (Calls Tryz.prog 30 #[.pointer (some ⟨tb,0,none⟩),.string (B s)] W (OfFP rE (byL ys) W)) ∧
   (∀ W',Below W.heap.size W W'→Calls Tryz.prog 31 #[.pointer (some ⟨tb,0,none⟩)] W' fun e w'=>e = .returned (.string (B (byL ys)))∧Below W'.heap.size W' w')):=j7r fun W hW b0 tb lv h=>by
  have hby:∀ W',Below W.heap.size W W'→Calls Tryz.prog 31 #[.pointer (some ⟨tb,0,none⟩)] W' fun e w'=>e = .returned (.string (B (byL ys)))∧Below W'.heap.size W' w':=fun W' hW'=>by_any W' b0 tb lv 1 ys (h.below hW') HYR.out HYL.out;have hx:=(HTB.out W hW b0 tb lv h).1 s W (Below.refl _ _) HSL.out;rw [hrE] at hx;exact ⟨fdOf_any W tb s (byL ys) rE hx hcn hln hby,hby⟩
 have HBY:=j7r fun (v:Value) (W:World) (h:Sl W Tab.Ent.cells 2 v ys)=>zp6 ys v W h HYL.out;have hu:=zgv rE.1
 have HRS:=j7r fun (v:Value) (W:World) (b0:Nat) (h:Own W b0 3 v rE.1.length (rE.1.flatMap pcC))=>zky v (rE.1.map pcP) (byL ys) W (zi7 h) (by rw [List.length_map];omega) (fun p hp=>by
  obtain ⟨q,hq,rfl⟩:=List.mem_map.1 hp
  have:q.tx.length≤(txL rE.1).length:=by
   obtain ⟨a,b,e⟩:=List.append_of_mem hq;rw [e];simp [txL];omega
  show q.tx.length≤_
  omega) (by omega) HYB.out
 unfold SplitPost at HRS;unfold OfFP at HFO;obtain ⟨xs,er⟩:=rE;dsimp only at HFO HRS
 have HE:Hid (∀ (u v:Value) (b0 b1:Nat) (W:World),Own W b0 2 u (splitF (xs.map pcP) (byL ys)).length ((splitF (xs.map pcP) (byL ys)).flatMap Fd.cells)→Own W b1 2 v (splitF (xs.map pcP) (byL ys)).length ((splitF (xs.map pcP) (byL ys)).flatMap Fd.cells)→Calls Tryz.prog 33 #[u,v] W fun e w'=>e = .returned (.bool true)∧Below W.heap.size W w') :=
  j7r fun u v b0 b1 W hu hv=>(same_fd (splitF (xs.map pcP) (byL ys)) (splitF (xs.map pcP) (byL ys)) u v W (hu.sl fd_len rfl) (hv.sl fd_len rfl)).mono fun e w' h=>⟨by rw [h.1,decide_eq_true rfl],h.2⟩
 have HRE:=j7r hrE;clear hrE hcn hln hu HYL HYR HYB HTB;generalize splitF (xs.map pcP) (byL ys)=out at *;generalize byL ys=sp at *;by_cases he:er=0
 ·subst he
  go_enter Tryz.func9,Tryz.ntmps9
  go_wp2_with (first|(go_at_call 29;refine HAW.out.mono ?_;rintro e w1 ⟨rfl,hb⟩;have HB1:=j7r hb;clear hb)|(go_at_call 11;refine (HLI.out _ HB1.out).mono ?_;rintro e w2 ⟨rfl,hb⟩;have HB2:=j7r (zb HB1.out hb);clear hb)|(go_at_call 15;refine (HRO.out _ HB2.out).mono ?_;rintro e w3 ⟨x3,rfl,ho,hb⟩;have HS3:=j7r (ho.sl Tab.ent_len rfl);have HR3:=j7r (HRW.out w3 _ _ ho);have HB3:=j7r (zb HB2.out hb);clear ho hb)|(go_at_call 13;refine (HOF.out _ HB3.out).mono ?_;rintro e w4 ⟨rfl,⟨lv,ht⟩,hb⟩;have HB4:=j7r (zb HB3.out hb);have HC4:=j7r hb;have HX4:=j7r (HFO.out w4 HB4.out _ _ lv ht);clear ht hb)|(go_at_call 30;refine HX4.out.1.mono ?_;rintro e w5 ⟨v5,rfl,-,ho,hb⟩;have HO5:=j7r (ho (by first|trivial|rfl));have HC5:=j7r (zb HC4.out hb);have HD5:=j7r hb;have HB5:=j7r (zb HB4.out hb);clear ho hb)|(go_at_call 14;have hp:=HR3.out.1 s _ HC5.out HSL.out;rw [HRE.out] at hp;unfold PcsP at hp;refine hp.mono ?_;rintro e w6 ⟨v6,rfl,ho,hb⟩;dsimp only at ho;have HO6:=j7r ho;have HC6:=j7r (zb HC5.out hb);have HD6:=j7r (zb HD5.out hb);have HB6:=j7r (zb HB5.out hb);have HO56:=j7r (HO5.out.below hb);clear ho hb hp)|(go_at_call 32;refine (HBY.out _ _ (HS3.out.below HC7.out)).mono ?_;rintro e w9 ⟨rfl,rfl⟩)|(go_at_call 31;refine (HX4.out.2 _ HD6.out).mono ?_;rintro e w7 ⟨rfl,hb⟩;have HC7:=j7r (zb HC6.out hb);have HB7:=j7r (zb HB6.out hb);have HO57:=j7r (HO56.out.below hb);have HO67:=j7r (HO6.out.below hb);clear hb)|(go_at_call 34;refine (HRS.out _ _ _ HO67.out).mono ?_;rintro e w8 ⟨v8,rfl,ho,hb⟩;have HO8:=j7r ho;have HO58:=j7r (HO57.out.below hb);have HB8:=j7r (zb HB7.out hb);clear ho hb)|(go_at_call 33;refine (HE.out _ _ _ _ _ HO58.out HO8.out).mono ?_;rintro e w10 ⟨rfl,hb⟩;have HB10:=j7r (zb HB8.out hb);clear hb))
  go_ret;exact ⟨rfl,HB10.out⟩
 ·have HER:=j7r he
  have e1:(er == 0)=false:=by simpa using he
  have e2:(er != 0)=true:=by simpa using he
  clear he;go_enter Tryz.func9,Tryz.ntmps9
  go_wp2_with (first|(go_at_call 29;refine HAW.out.mono ?_;rintro e w1 ⟨rfl,hb⟩;have HB1:=j7r hb;clear hb)|(go_at_call 11;refine (HLI.out _ HB1.out).mono ?_;rintro e w2 ⟨rfl,hb⟩;have HB2:=j7r (zb HB1.out hb);clear hb)|(go_at_call 15;refine (HRO.out _ HB2.out).mono ?_;rintro e w3 ⟨x3,rfl,ho,hb⟩;have HS3:=j7r (ho.sl Tab.ent_len rfl);have HR3:=j7r (HRW.out w3 _ _ ho);have HB3:=j7r (zb HB2.out hb);clear ho hb)|(go_at_call 13;refine (HOF.out _ HB3.out).mono ?_;rintro e w4 ⟨rfl,⟨lv,ht⟩,hb⟩;have HB4:=j7r (zb HB3.out hb);have HC4:=j7r hb;have HX4:=j7r (HFO.out w4 HB4.out _ _ lv ht);clear ht hb)|(go_at_call 30;refine HX4.out.1.mono ?_;rintro e w5 ⟨v5,rfl,hn,-,hb⟩;obtain rfl:=hn HER.out;have HC5:=j7r (zb HC4.out hb);have HD5:=j7r hb;have HB5:=j7r (zb HB4.out hb);clear hb)|(go_at_call 14;have hp:=HR3.out.1 s _ HC5.out HSL.out;rw [HRE.out] at hp;unfold PcsP at hp;refine hp.mono ?_;rintro e w6 ⟨v6,rfl,ho,hb⟩;dsimp only at ho;have HO6:=j7r ho;have HC6:=j7r (zb HC5.out hb);have HD6:=j7r (zb HD5.out hb);have HB6:=j7r (zb HB5.out hb);  clear ho hb hp)|(go_at_call 32;refine (HBY.out _ _ (HS3.out.below HC7.out)).mono ?_;rintro e w9 ⟨rfl,rfl⟩)|(go_at_call 31;refine (HX4.out.2 _ HD6.out).mono ?_;rintro e w7 ⟨rfl,hb⟩;have HC7:=j7r (zb HC6.out hb);have HB7:=j7r (zb HB6.out hb);  clear hb))
  go_ret;exact ⟨rfl,HB7.out⟩
end Go.Proofs.YtfmecpnokefokaaGreatDoor.fieldsOf
