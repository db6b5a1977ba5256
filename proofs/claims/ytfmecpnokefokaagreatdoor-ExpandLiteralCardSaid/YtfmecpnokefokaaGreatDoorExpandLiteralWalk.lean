/-
  The walk of the law ExpandLiteral: it returns true, whatever its arguments. Conditions: the library's variable MaxLen holds some number (arguments as the row reads them).
-/
import Derived.Test.YtfmecpnokefokaaGreatDoorExpLaw
import Derived.Test.YtfmecpnokefokaaGreatDoorRefSplit
set_option linter.unusedSimpArgs false
set_option linter.unusedVariables false
namespace Go.Proofs.YtfmecpnokefokaaGreatDoor.expandLiteral
open Go.ChangeShapes Go.WideShapes Go.Deep Go.ChangeAt Go.RowKit Cls Md Mc Pa Li Pat Ex
set_option maxRecDepth 100000
theorem zgw (one:Pc→Res):∀ (l:List Pc) (n:Nat) (acc:List Pc),(∀ p∈l,p.ex=false)→n+(txL l).length≤1048576→takeE (tellE one n l) acc=(acc++l,0)
 | [],n,acc,_,_=>by simp [tellE,takeE]
 | p :: r,n,acc,h,hl=>by
  have hx:=h p (List.mem_cons_self ..)
  have hs:stepE one p=(p.tx,0):=by unfold stepE;rw [if_neg (by rw [hx];decide)]
  have hl2:n+p.tx.length+(txL r).length≤1048576:=by simp [txL] at hl ⊢;omega
  rw [tellE,hs,takeE]
  have he:errE n (p.tx,0)=0:=by unfold errE;rw [if_neg (by dsimp only;omega)]
  rw [he,if_neg (by simp),zgw one r _ _ (fun q hq=>h q (List.mem_cons_of_mem _ hq)) hl2]
  obtain ⟨ex,qu,tx⟩:=p
  simp
theorem zln {g:Look} {f:Nat} {s:List UInt8} (h:(piecesL s).any Pc.ex=false) (hs:s.length≤1048576):textG g (f+1) s=((valueL s).1,0)∧(valueL s).2=true:=by
 have ha:∀ p∈piecesL s,p.ex=false:=fun p hp=>by
  rw [List.any_eq_false] at h
  simpa using h p hp
 have hv:valueL s=(txL (piecesL s),true):=by
  unfold valueL
  rw [zi5,if_pos (by rw [List.all_eq_true];intro p hp;rw [ha p hp];rfl),List.nil_append]
 have hl:=zsd (s:=s) (by rw [hv])
 rw [hv] at hl
 dsimp only at hl
 refine ⟨?_,by rw [hv]⟩
 unfold textG
 rw [za5,zgw _ _ _ _ ha (by omega),hv,List.nil_append]
set_option maxHeartbeats 3200000 in
theorem walk {H:Type} (enc:TypeId×Value→H) (w:World) (base:Nat) {v0 v1:Value} {d0 d1:DataW H} {p0 p1:List MemPlace} (hm:MaxL w)
  (h0:DataW.Trod enc Tryz.prog w 0 (fun _=>true) true 22 v0 d0 p0) (k0:Value.okWide Tryz.prog w .any base 22 v0)
  (h1:DataW.Trod enc Tryz.prog w 0 (fun _=>true) true 9 v1 d1 p1) (k1:Value.okWide Tryz.prog w .any base 9 v1) :
  Calls Tryz.prog 7 #[v0,v1] w fun e w'=>e = .returned (.bool true)∧Below w.heap.size w w':=by
 obtain ⟨l,hv,-,hxl⟩:=zem Tab.Ent.cells Tab.Ent.Ok Tryz.underlying22 Tab.ent_cells (by omega) Tab.ent_dec h0 k0
 obtain ⟨s,rfl,hs0⟩:=zcn h1 k1
 clear h0 k0 h1 k1
 have HAW:=Lib.hid (zbn w hm)
 have HLI:=Lib.hid fun W (hW:Below w.heap.size w W)=>zdo l v0 W (hv.below hW)
 cases hli:lightB l with
 | false =>
  rw [hli] at HLI
  clear hv hli
  go_enter Tryz.func7,Tryz.ntmps7
  go_wp2_with (first
   | (go_at_call 10;refine HAW.out.mono ?_;rintro e w1 ⟨rfl,hb⟩;have HB:=Lib.hid hb;clear hb)
   | (go_at_call 11;refine (HLI.out _ HB.out).mono ?_;rintro e w2 ⟨rfl,hb⟩;have HB2:=Lib.hid (za HB.out hb);clear hb))
  go_ret
  exact ⟨rfl,HB2.out⟩
 | true =>
 rw [hli] at HLI
 by_cases l1:60<s.length
 ·clear hv hli
  go_enter Tryz.func7,Tryz.ntmps7
  go_wp2_with (first
   | (go_at_call 10;refine HAW.out.mono ?_;rintro e w1 ⟨rfl,hb⟩;have HB:=Lib.hid hb;clear hb)
   | (go_at_call 11;refine (HLI.out _ HB.out).mono ?_;rintro e w2 ⟨rfl,hb⟩;have HB2:=Lib.hid (za HB.out hb);clear hb))
  go_ret
  exact ⟨rfl,HB2.out⟩
 have c1:=no (show ¬ (60:Int)<(s.length:Int) by omega)
 obtain ⟨hll,hln⟩:=zer hli
 have HM:=Lib.hid hm
 have HEX:=Lib.hid fun W=>zp5 s W (by omega)
 cases hex:(piecesL s).any Pc.ex with
 | true =>
  rw [hex] at HEX
  clear hv hli hex
  go_enter Tryz.func7,Tryz.ntmps7
  go_wp2_with (first
   | (go_at_call 10;refine HAW.out.mono ?_;rintro e w1 ⟨rfl,hb⟩;have HB:=Lib.hid hb;clear hb)
   | (go_at_call 11;refine (HLI.out _ HB.out).mono ?_;rintro e w2 ⟨rfl,hb⟩;have HB2:=Lib.hid (za HB.out hb);clear hb)
   | (go_at_call 23;refine (HEX.out _).mono ?_;rintro e w3 ⟨rfl,hb⟩;have HB3:=Lib.hid (za HB2.out hb);clear hb))
  go_ret
  exact ⟨rfl,HB3.out⟩
 | false =>
 rw [hex] at HEX
 obtain ⟨ht1,hok⟩:=zln (g:=lookR (Tab.ofL 1 l)) (f:=99) hex (by omega)
 obtain ⟨ht2,-⟩:=zln (g:=fun _=>none) (f:=99) hex (by omega)
 have HVL:=Lib.hid fun W=>zq4 s W (by omega)
 rw [hok] at HVL
 have HOF:=Lib.hid fun W (hW:Below w.heap.size w W)=>Tab.of_ok 1 l v0 W (by decide) (by decide) (hv.below hW) (by omega) (fun e he=>by have:=hln e he;omega)
 have hyl:(Tab.ofL 1 l).length≤10:=Nat.le_trans (Tab.ofL_len 1 l) hll
 have hyr:=Tab.ofL_rises 1 l
 have hyv:∀ x∈Tab.ofL 1 l,x.val.length<100:=zgi fun x hx=>by have:=hln x hx;omega
 unfold Tab.OfP at HOF
 generalize Tab.ofL 1 l=ys at *
 have HTB:=Lib.hid fun (W:World) (hW:Below w.heap.size w W) (b0 tb:Nat) (lv:Value) (h:Tab.TabAt W b0 tb lv 1 ys)=>(zbw W b0 tb lv 1 ys (HM.out.below hW) h hyr (by omega) (by decide) (by decide) (za6 W) hyv 100 (by omega)).2.1 s W (Below.refl _ _) (by omega)
 have HTN:=Lib.hid fun (W:World) (hW:Below w.heap.size w W)=>(zgg (a:=none) (HM.out.below hW) (get_nil W) (by decide) (by decide) (za6 W) (fun b v h=>by cases h) 100 (by omega)).2.1 s W (Below.refl _ _) (by omega)
 rw [ht1] at HTB
 rw [ht2] at HTN
 unfold ResP at HTB HTN
 clear hv hli hln hll hyl hyr hyv l1 hm hs0 ht1 ht2 hok hex
 generalize (valueL s).1=t at *
 go_enter Tryz.func7,Tryz.ntmps7
 go_wp2_with (first
  | (go_at_call 10;refine HAW.out.mono ?_;rintro e w1 ⟨rfl,hb⟩;have HB1:=Lib.hid hb;clear hb)
  | (go_at_call 11;refine (HLI.out _ HB1.out).mono ?_;rintro e w2 ⟨rfl,hb⟩;have HB2:=Lib.hid (za HB1.out hb);clear hb)
  | (go_at_call 23;refine (HEX.out _).mono ?_;rintro e w3 ⟨rfl,hb⟩;have HB3:=Lib.hid (za HB2.out hb);clear hb)
  | (go_at_call 24;refine (HVL.out _).mono ?_;rintro e w7 ⟨rfl,hb⟩;have HB7:=Lib.hid (za HB6.out hb);clear hb)
  | (go_at_call 16;refine (HTN.out _ HB5.out).mono ?_;rintro e w6 ⟨rfl,hb⟩;have HB6:=Lib.hid (za HB5.out hb);clear hb)
  | (go_at_call 16;refine HX4.out.mono ?_;rintro e w5 ⟨rfl,hb⟩;have HB5:=Lib.hid (za HB4.out hb);clear hb)
  | (go_at_call 13;refine (HOF.out _ HB3.out).mono ?_;rintro e w4 ⟨rfl,⟨lv,ht⟩,hb⟩;have HX4:=Lib.hid (HTB.out _ (za HB3.out hb) _ _ lv ht);have HB4:=Lib.hid (za HB3.out hb);clear ht hb))
 go_ret
 exact ⟨rfl,HB7.out⟩
end Go.Proofs.YtfmecpnokefokaaGreatDoor.expandLiteral
