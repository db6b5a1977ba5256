/-
  The walk of the law ExpandCuts: it returns true, whatever its arguments. Conditions: the library's variable MaxLen holds some number (arguments as the row reads them).
-/
import Derived.Test.YtfmecpnokefokaaGreatDoorExpSym2
import Derived.Test.YtfmecpnokefokaaGreatDoorExpLaw
import Derived.Test.YtfmecpnokefokaaGreatDoorTab17
import Derived.Test.YtfmecpnokefokaaGreatDoorRefPcs
set_option linter.unusedSimpArgs false
set_option linter.unusedVariables false
namespace Go.Proofs.YtfmecpnokefokaaGreatDoor.expandCuts
open Go.ChangeShapes Go.WideShapes Go.Deep Go.ChangeAt Go.RowKit Cls Md Mc Pa Li Pat Ex
set_option maxRecDepth 100000
def byC (x:UInt8):List Value:=[.int .u8 x.toNat]
theorem zqx:Tryz.prog.cellsOf 5=1:=by kernel_rfl
theorem byt_dec {H:Type} {enc:TypeId×Value→H} {w:World} {fuel:Nat} {cs:List Value} {d:DataW H×List MemPlace}
  (h:DataW.trod enc Tryz.prog w 0 (fun _=>true) true fuel 5 cs=some d):∃ x:UInt8,cs=byC x∧True:=by
 obtain ⟨q,e,_,h1⟩:=DataW.trod_int Tryz.underlying5 h
 have hq:0≤q∧q≤255:=by simpa using bounds_u8 h1
 have hn:(UInt8.ofNat q.toNat).toNat=q.toNat:=by rw [UInt8.toNat_ofNat'];omega
 refine ⟨UInt8.ofNat q.toNat,?_,trivial⟩
 rw [e]
 unfold byC
 rw [hn,Int.toNat_of_nonneg hq.1]
def abL:List UInt8:=[97,98,46,42]
def patL (l:List UInt8):List UInt8:=l.map fun b=>abL.getD (b.toNat % 4) 97
theorem pat_in (l:List UInt8):∀ b∈patL l,b∈abL:=fun b hb=>by
 obtain ⟨c,_,rfl⟩:=List.mem_map.1 hb
 have:c.toNat % 4<4:=Nat.mod_lt _ (by omega)
 rw [List.getD_eq_getElem?_getD,List.getElem?_eq_getElem (show c.toNat % 4<abL.length from this)]
 exact List.getElem_mem _
theorem ab_ok {b:UInt8} (h:b∈abL):(Ex.Flat b∧Mild b)∧b≠37:=by
 simp only [abL,List.mem_cons,List.not_mem_nil,or_false] at h
 rcases h with rfl|rfl|rfl|rfl <;> (unfold Ex.Flat Mild;decide)
theorem op_head {p:List UInt8} (h:∀ b∈p,b≠37):opG ([37]++p)=[37]:=by
 unfold opG
 rw [List.singleton_append]
 dsimp only
 rw [if_neg (by decide),if_neg ?_,if_pos (by decide)]
 rintro ⟨-,h2⟩
 cases p with
 | nil=>cases h2
 | cons a r=>exact h a (List.mem_cons_self ..) (by simpa using h2)
theorem of_one (v:List UInt8):Tab.ofL 1 [⟨[118],v⟩]=[⟨[118],v⟩]:=by
 unfold Tab.ofL
 rw [List.foldl_cons,List.foldl_nil]
 unfold Tab.setE
 rw [if_pos (show Cls.mayB 1 [118]=true by decide)]
 rfl
theorem zex (v:List UInt8):lookR [⟨[118],v⟩] [118]=some v:=by
 unfold lookR
 rw [if_pos (by decide)]
 rfl
theorem one_sl {W:World} {b:Nat} {v:List UInt8} (h:BoxN W b [.string (B [118]),.string (B v)]):Sl W Tab.Ent.cells 2 (.slice (some ⟨b,0,none⟩) 1 1) [⟨[118],v⟩]:=by
 refine ⟨_,1,rfl,Nat.le_refl _,by show 1≤_;omega,by simp,fun _=>⟨b,0,rfl,h.lt,fun k x hx j u hj=>?_⟩⟩
 rw [Nat.zero_add]
 exact h.c _ _ (zi2 [(⟨[118],v⟩:Tab.Ent)] (fun x _=>Tab.Ent.len x) k x hx j u hj)
theorem zm4 (v:List UInt8) (k:Nat):Lib.hasPrefix v (v.take k)=true:=by
 unfold Lib.hasPrefix
 rw [List.isPrefixOf_iff_prefix]
 exact List.take_prefix k v
theorem tail_ex (v p:List UInt8):∃ (b:List UInt8) (m:Nat),cutG v [35,35] p=b∧m+b.length=v.length∧v.drop m=b:=by
 obtain ⟨k,hk⟩:=cut_tail v p
 rw [hk]
 refine ⟨v.drop k,min k v.length,rfl,by rw [List.length_drop];omega,?_⟩
 by_cases h:k≤v.length
 ·rw [Nat.min_eq_left h]
 ·rw [Nat.min_eq_right (by omega),List.drop_length,List.drop_eq_nil_of_le (by omega)]
set_option maxHeartbeats 3200000 in
theorem walk {H:Type} (enc:TypeId×Value→H) (w:World) (base:Nat) {v0 v1:Value} {d0 d1:DataW H} {p0 p1:List MemPlace} (hm:MaxL w)
  (h0:DataW.Trod enc Tryz.prog w 0 (fun _=>true) true 9 v0 d0 p0) (k0:Value.okWide Tryz.prog w .any base 9 v0)
  (h1:DataW.Trod enc Tryz.prog w 0 (fun _=>true) true 42 v1 d1 p1) (k1:Value.okWide Tryz.prog w .any base 42 v1) :
  Calls Tryz.prog 6 #[v0,v1] w fun e w'=>e = .returned (.bool true)∧Below w.heap.size w w':=by
 obtain ⟨s,rfl,hs0⟩:=zcn h0 k0
 obtain ⟨l,hv,hok,hl⟩:=zem byC (fun _=>True) Tryz.underlying42 zqx (by omega) byt_dec h1 k1
 clear h0 k0 h1 k1 hok
 obtain ⟨A,c,rfl,hc1,hc2,hn,hA⟩:=hv
 have HA:=Lib.hid hA
 clear hA hn
 have HAW:=Lib.hid (zbn w hm)
 by_cases l1:60<s.length
 ·go_enter Tryz.func6,Tryz.ntmps6
  go_wp2_with (go_at_call 10;refine HAW.out.mono ?_;rintro e w1 ⟨rfl,hb⟩;have HB:=Lib.hid hb;clear hb)
  go_ret
  exact ⟨rfl,HB.out⟩
 have g1:=no (show ¬ (60:Int)<(s.length:Int) by omega)
 by_cases l2:20<l.length
 ·go_enter Tryz.func6,Tryz.ntmps6
  go_wp2_with (go_at_call 10;refine HAW.out.mono ?_;rintro e w1 ⟨rfl,hb⟩;have HB:=Lib.hid hb;clear hb)
  go_ret
  exact ⟨rfl,HB.out⟩
 have g2:=no (show ¬ (20:Int)<(l.length:Int) by omega)
 have hml:(patL l).length≤20:=by unfold patL;rw [List.length_map];omega
 have HK:=Lib.hid fun k (hk:k<l.length)=>(show patL (l.take (k+1))=patL (l.take k)++(abL.take (l[k].toNat % 4+1)).drop (l[k].toNat % 4) by
  unfold patL
  rw [List.take_succ_eq_append_getElem hk,List.map_append]
  congr 1
  have h7:l[k].toNat % 4<abL.length:=Nat.mod_lt _ (by decide)
  rw [one_at abL _ h7,List.map_singleton,List.getD_eq_getElem?_getD,List.getElem?_eq_getElem h7]
  rfl)
 have HM:=Lib.hid hm
 obtain ⟨b,m,hb1,hb2,hb3⟩:=tail_ex s (patL l)
 obtain ⟨ka,ha1⟩:=cut_head s (patL l)
 have hBG:=zm4 s ka
 rw [← ha1] at hBG
 have HTB:Hid (∀ (W:World),Below w.heap.size w W→∀ (b0 tb:Nat) (lv:Value),Tab.TabAt W b0 tb lv 1 [⟨[118],s⟩] →
   (∀ W',Below W.heap.size W W'→Calls Tryz.prog 16 #[.pointer (some ⟨tb,0,none⟩),.string (B (36 :: 123 :: 118 :: 37 :: (patL l++[125])))] W' (ResP (cutG s [37] (patL l),0) W')) ∧
   (∀ W',Below W.heap.size W W'→Calls Tryz.prog 16 #[.pointer (some ⟨tb,0,none⟩),.string (B (36 :: 123 :: 118 :: 35 :: 35 :: (patL l++[125])))] W' (ResP (b,0) W')) ∧
   (∀ W',Below W.heap.size W W'→Calls Tryz.prog 16 #[.pointer (some ⟨tb,0,none⟩),.string { data:=#[36,123,118,37,37,42,125] }] W' (ResP ([],0) W')) ∧
   (∀ W',Below W.heap.size W W'→Calls Tryz.prog 16 #[.pointer (some ⟨tb,0,none⟩),.string { data:=#[36,123,118,35,42,125] }] W' (ResP (s,0) W'))):=Lib.hid fun W hW b0 tb lv h=>by
  have hx:=(zbw W b0 tb lv 1 [⟨[118],s⟩] (HM.out.below hW) h (List.pairwise_singleton _ _) (by simp) (M:=100) (by decide) (by decide) (za6 W) (fun x hx=>by rw [List.mem_singleton.1 hx];dsimp only;omega) 100 (by omega)).2.1
  have hp:∀ b∈patL l,Ex.Flat b∧Mild b:=fun b hb=>(ab_ok (pat_in l b hb)).1
  refine ⟨fun W' hW'=>?_,fun W' hW'=>?_,fun W' hW'=>?_,fun W' hW'=>?_⟩
  ·have:=hx (36 :: 123 :: ([118]++([37]++patL l)++[125])) W' hW' (by simp;omega)
   rw [zew (f:=98) (op:=[37]) (zex s) (op_head fun b hb=>(ab_ok (pat_in l b hb)).2) (.inl rfl) hp (by omega) (by omega)] at this
   exact this
  ·have:=hx (36 :: 123 :: ([118]++([35,35]++patL l)++[125])) W' hW' (by simp;omega)
   rw [zew (f:=98) (op:=[35,35]) (zex s) (by simp [opG]) (.inr (.inr (.inr rfl))) hp (by omega) (by omega),hb1] at this
   exact this
  ·have:=hx (36 :: 123 :: ([118]++([37,37]++[42])++[125])) W' hW' (by decide)
   rw [zew (f:=98) (op:=[37,37]) (zex s) (by decide) (.inr (.inl rfl)) (by unfold Ex.Flat Mild;decide) (by decide) (by omega),(zlm s).1] at this
   exact this
  ·have:=hx (36 :: 123 :: ([118]++([35]++[42])++[125])) W' hW' (by decide)
   rw [zew (f:=98) (op:=[35]) (zex s) (by decide) (.inr (.inr (.inl rfl))) (by unfold Ex.Flat Mild;decide) (by decide) (by omega),(zlm s).2] at this
   exact this
 unfold ResP at HTB
 dsimp only at HTB
 have HOF:=Lib.hid fun W (hW:Below w.heap.size w W) (v:Value) (h:Sl W Tab.Ent.cells 2 v [⟨[118],s⟩])=>Tab.of_ok 1 [⟨[118],s⟩] v W (by decide) (by decide) h (by simp) (fun e he=>by rw [List.mem_singleton.1 he];dsimp only;simp;omega)
 unfold Tab.OfP at HOF
 rw [of_one] at HOF
 have HBGA:=Lib.hid fun W=>zp8 s (cutG s [37] (patL l)) W
 rw [hBG] at HBGA
 have hsum:¬ 9223372036854775807<4+(patL l).length:=by omega
 have hsum2:¬ 9223372036854775807<(patL l).length+1+1+1+1+1:=by omega
 have hsum4:¬ 9223372036854775807<5+(patL l).length:=by omega
 have hsum5:¬ 9223372036854775807<(patL l).length+1+1+1+1+1+1:=by omega
 have y1:(b.length:Int)≤(s.length:Int):=by omega
 have y2:b.length≤s.length:=by omega
 have y3:IntKind.i64.wrap ((s.length:Int) - (b.length:Int))=(m:Int):=by rw [IntWalk.i64_in _ (by omega)];omega
 have y8:IntKind.i64.wrap (m:Int)=(m:Int):=IntWalk.i64_in _ (by omega)
 have y4:(s.length:Int) - (b.length:Int)=(m:Int):=by omega
 have y5:(m:Int)≤(s.length:Int):=by omega
 have y6:m≤s.length:=by omega
 have y7:(0:Int)≤(m:Int):=by omega
 have HLK:=Lib.hid fun j=>(show (patL (l.take j)).length≤20 by have:=hml;unfold patL at this ⊢;rw [List.length_map] at this ⊢;rw [List.length_take];omega)
 clear l1 l2 hs0 hb1 ha1 hBG hb2 hml hm
 generalize cutG s [37] (patL l)=ca at *
 have hsv:abL.length=4:=rfl
 go_enter Tryz.func6,Tryz.ntmps6
 go_wp2_with (go_at_call 10;refine HAW.out.mono ?_;rintro e w1 ⟨rfl,hb⟩;have HB:=Lib.hid hb;clear hb)
 rw [show ({ data:=#[] }:ByteArray)=B (patL (l.take 0)) from rfl]
 go_loopw [5,6] (fun t i wr=>∃ k:Nat,k≤l.length∧i = .int .i64 k∧t = .string (B (patL (l.take k)))∧Hid (Below w.heap.size w wr)) (fun _ i _=>l.length - (intOf i).toNat)
 case atStart=>exact ⟨0,by omega,rfl,rfl,HB⟩
 case round =>
  clear HB
  obtain ⟨k,hk,rfl,rfl,HB⟩:=hrel
  by_cases hlt:k<l.length
  ·have k0:(0:Int)≤(k:Int):=by omega
   have k1:(k:Int)<(l.length:Int):=by omega
   obtain ⟨gb,off,rfl,hb,hcl⟩:=HA.out (by omega)
   have hc:=hcl k _ (List.getElem?_eq_getElem hlt) 0 _ rfl
   have hcw:wr.cell? ⟨gb,off+k,none⟩=some (.int .u8 l[k].toNat):=by
    have:=(HB.out.cell (p:=⟨gb,off+k*1+0,none⟩) hb).trans hc
    simpa using this
   haveI:Old wr gb:=⟨Nat.lt_of_lt_of_le hb HB.out.size⟩
   have HMK:=Lib.hid (HK.out k hlt)
   have hsum3:¬ 9223372036854775807<(patL (l.take k)).length+(l[k].toNat % 4+1 - l[k].toNat % 4):=by have:=HLK.out k;omega
   have q0:=UInt8.toNat_lt l[k]
   clear hcl hc
   generalize l[k].toNat=n at *
   have q1:IntKind.i64.wrap (n:Int)=(n:Int):=IntWalk.i64_in _ (by omega)
   have q2:n % 4<4:=Nat.mod_lt _ (by omega)
   have q3:(0:Int)≤(n:Int) % 4:=by omega
   have q4:((n:Int) % 4).toNat=n % 4:=by omega
   have q5:IntKind.i64.wrap ((n:Int) % 4)=(n:Int) % 4:=IntWalk.i64_in _ (by omega)
   have q6:IntKind.i64.wrap ((n:Int) % 4+1)=(n:Int) % 4+1:=IntWalk.i64_in _ (by omega)
   have q7:((n:Int) % 4+1).toNat=n % 4+1:=by omega
   have q8:(n:Int) % 4+1≤(abL.length:Int):=by rw [hsv];omega
   have q9:(n:Int) % 4≤(n:Int) % 4+1:=by omega
   have q10:Int.tmod (n:Int) 4=(n:Int) % 4:=Int.tmod_eq_emod_of_nonneg (by omega)
   go_wp2
   rw [show ({ data:=#[97,98,46,42] }:ByteArray)=B abL from rfl]
   (refine zv (by kernel_rfl) (by kernel_rfl) ?_;(repeat (go_big_quiet_step (fail)));refine wpQuiet_nil ?_;intro _ hw';obtain ⟨gq,hw''⟩:=hw';subst hw'')
   go_wp2
   exact ⟨⟨k+1,by omega,by go_num,by rw [HMK.out],Lib.hid (za HB.out (zh _ _))⟩,by simp [intOf];omega⟩
  ·have hk':k=l.length:=by omega
   subst hk'
   have k1:¬ (l.length:Int)<(l.length:Int):=by omega
   rw [List.take_length]
   clear hlt hk HK HLK
   generalize patL l=p at *
   have HBA:=Lib.hid (za HB.out (zb (Below.refl wr.heap.size wr) (.cells #[.string (B [118]),.string (B s)] 44)))
   have HSA:Hid (Sl (wr.alloc (.cells #[.string (B [118]),.string (B s)] 44)) Tab.Ent.cells 2 (.slice (some ⟨wr.heap.size,0,none⟩) 1 1) [⟨[118],s⟩]):=Lib.hid (one_sl (BoxN.new wr [.string (B [118]),.string (B s)] 44))
   go_wp2_with (first
    | (go_at_call 13;(with_reducible refine (HOF.out _ HBA.out _ HSA.out).mono ?_);rintro e w4 ⟨rfl,⟨lv,ht⟩,hb⟩;rw [World.size_alloc] at ht;have HX:=Lib.hid (HTB.out _ (za HBA.out hb) _ _ lv ht);have HB4:=Lib.hid (za HBA.out hb);have HC4:=Lib.hid (Below.refl w4.heap.size w4);clear ht hb)
    | (go_at_call 16;refine (HX.out.2.2.2 _ HC7.out).mono ?_;rintro e w8 ⟨rfl,hb⟩;have HB8:=Lib.hid (za HB7.out hb);clear hb)
    | (go_at_call 16;refine (HX.out.2.2.1 _ HC6.out).mono ?_;rintro e w7 ⟨rfl,hb⟩;have HB7:=Lib.hid (za HB6.out hb);have HC7:=Lib.hid (za HC6.out hb);clear hb)
    | (go_at_call 16;refine (HX.out.2.1 _ HC5.out).mono ?_;rintro e w6 ⟨rfl,hb⟩;have HB6:=Lib.hid (za HB5.out hb);have HC6:=Lib.hid (za HC5.out hb);clear hb)
    | (go_at_call 16;refine (HX.out.1 _ HC4.out).mono ?_;rintro e w5 ⟨rfl,hb⟩;have HB5:=Lib.hid (za HB4.out hb);have HC5:=Lib.hid (za HC4.out hb);clear hb)
    | (go_at_call 22;refine (HBGA.out _).mono ?_;rintro e w9 ⟨rfl,rfl⟩))
   go_ret
   exact ⟨rfl,HB8.out⟩
end Go.Proofs.YtfmecpnokefokaaGreatDoor.expandCuts
