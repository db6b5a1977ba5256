/-
  What a word means (layer 8): literal.Value; every form of a text (layer 17) means that text.
-/
import Derived.Test.YtfmecpnokefokaaGreatDoorLit5
import Derived.Test.YtfmecpnokefokaaGreatDoorHist
import Derived.Test.YtfmecpnokefokaaGreatDoorMachB
set_option linter.unusedSimpArgs false
set_option linter.unusedVariables false
namespace Go.Proofs.YtfmecpnokefokaaGreatDoor.Li
open Cls Md Mc Pa
def txL (l:List Pc):List UInt8:=l.flatMap Pc.tx
theorem zaq (a b:List Pc):txL (a++b)=txL a++txL b:=List.flatMap_append
theorem zb6 (a:Pc) (b:List Pc):txL (a :: b)=a.tx++txL b:=rfl
theorem zi5 (l:List Pc) (a:List UInt8):valP l a=if l.all (fun p => !p.ex)=true then (a++txL l,true) else ([],false):=by
 induction l generalizing a with
 | nil=>simp [valP,txL]
 | cons p r ih =>
  unfold valP
  cases h:p.ex with
  | true=>simp [h]
  | false =>
   rw [if_neg (by simp),ih,zb6]
   simp [h]
theorem zbe (pl:List UInt8):txL (flushP pl)=pl:=by
 unfold flushP
 split
 ·rename_i h;rw [h];rfl
 ·simp [txL]
theorem dblP_tx {s:List UInt8} {L:List Part} (hS:Sound s L) {tt:Nat} (ht:tt≤s.length+3) (f at_:Nat) (here:List UInt8) (x:Bool):(txL (dblP s L tt f at_ here x)).length≤here.length+(s.length+3 - at_):=by
 induction f generalizing at_ here x with
 | zero=>simp [dblP,txL]
 | succ f ih =>
  by_cases h1:at_<tt
  ·cases hA:atP L at_ with
   | none =>
    rw [zco h1 hA]
    have:=ih (at_+1) (here++[s.getD at_ 0]) x
    rw [List.length_append,List.length_singleton] at this
    omega
   | some k =>
    obtain ⟨hkm,hkf⟩:=zas hA
    have hk:=hS k hkm
    rw [zbd h1 hA]
    by_cases h2:loneP k=true
    ·rw [if_pos h2]
     have:=ih (at_+1) (here++[s.getD at_ 0]) x
     rw [List.length_append,List.length_singleton] at this
     omega
    ·rw [if_neg h2]
     by_cases h3:k.c=88
     ·rw [if_pos h3]
      have:=ih k.fin (here++escT s k) x
      have h4:=ze0 s k hk.1
      rw [List.length_append] at this
      omega
     ·rw [if_neg h3]
      have:=ih k.fin [] true
      have h4:=za8 s k.fr k.fin hk.2
      rw [zaq,zb6,List.length_append,List.length_append]
      have h5:(txL (if here=[] then [] else [⟨false,true,here⟩])).length≤here.length:=by
       split <;> simp [txL]
      simp only [h4,List.length_nil] at *
      omega
  ·rw [zc9 h1]
   split <;> simp [txL]
theorem eachP_tx {s:List UInt8} {L:List Part} (hS:Sound s L) (f at_:Nat) (pl:List UInt8):(txL (eachP s L f at_ pl)).length≤pl.length+(s.length - at_)*(s.length+4):=by
 induction f generalizing at_ pl with
 | zero=>simp [eachP,txL]
 | succ f ih =>
  by_cases h1:at_<s.length
  ·have mul:∀ fin,at_<fin→(s.length - fin)*(s.length+4)+(s.length+4)≤(s.length - at_)*(s.length+4):=fun fin h=>by
    have h2:s.length - fin+1≤s.length - at_:=by omega
    have:=Nat.mul_le_mul_right (s.length+4) h2
    rw [Nat.add_mul,Nat.one_mul] at this
    exact this
   cases hA:atP L at_ with
   | none =>
    rw [zb2 h1 hA]
    have:=ih (at_+1) (pl++[s.getD at_ 0])
    have h2:=mul (at_+1) (by omega)
    rw [List.length_append,List.length_singleton] at this
    omega
   | some p =>
    obtain ⟨hpm,hpf⟩:=zas hA
    have hp:=hS p hpm
    have h2:=mul p.fin (by omega)
    have h0:=ih p.fin []
    have hn:=ih p.fin pl
    have hsub:=za8 s p.fr p.fin hp.2
    simp only [List.length_nil] at h0
    rw [zbk h1 hA]
    by_cases c1:loneP p=true∨p.c=35
    ·rw [if_pos c1]
     have:=ih p.fin (pl++subT s p.fr p.fin)
     rw [List.length_append,hsub] at this
     omega
    rw [if_neg c1]
    by_cases c2:p.c=88∨p.c=83
    ·rw [if_pos c2]
     cases hq:quoP s p with
     | none=>dsimp only;omega
     | some q =>
      dsimp only
      rw [zaq,zb6,zbe,List.length_append,List.length_append]
      have hql:q.tx.length≤s.length:=by
       unfold quoP at hq
       split at hq
       ·cases hq
        show ((s.take (insT p)).drop (insF p)).length≤s.length
        rw [List.length_drop,List.length_take];omega
       ·split at hq
        ·cases hq
        ·cases hq
         show ((s.take p.fin).drop (p.fr+1)).length≤s.length
         rw [List.length_drop,List.length_take];omega
      omega
    rw [if_neg c2]
    by_cases c3:p.c=68
    ·rw [if_pos c3,zaq,zaq,zbe,List.length_append,List.length_append]
     have htt:insT p≤s.length+3:=by
      have h3:=zlt (mo p.c)
      unfold insT insF
      omega
     have:=dblP_tx hS htt (s.length+1) (insF p) [] false
     have h4:1≤headI (mo p.c):=by rw [c3];decide +kernel
     unfold insF at this ⊢
     simp only [List.length_nil] at this
     omega
    rw [if_neg c3,zaq,zb6,zbe,List.length_append,List.length_append,hsub]
    omega
  ·rw [zcp h1,zbe]
   omega
theorem zj0 (s:List UInt8) (hs:s.length≤30000) {pre:List Pc} (h:pre <+: piecesL s):(txL pre).length≤1000000000:=by
 obtain ⟨t,ht⟩:=h
 have h1:=eachP_tx (zaf s) (s.length+1) 0 []
 have h2:(s.length - 0)*(s.length+4)≤30000*30004:=Nat.mul_le_mul (by omega) (by omega)
 have h3:(txL (piecesL s)).length=(txL pre).length+(txL t).length:=by rw [← ht,zaq,List.length_append]
 unfold piecesL at h3
 simp only [List.length_nil] at h1
 omega
end Go.Proofs.YtfmecpnokefokaaGreatDoor.Li
namespace Go.Proofs.YtfmecpnokefokaaGreatDoor.Bd
open Go.ChangeShapes Go.WideShapes Go.Deep Go.RowKit
set_option maxRecDepth 100000
theorem wstr_own {w:World} {b R:Nat} {v:Value} {l s:List UInt8} (h:Bld w b R v l) (hlen:l.length+s.length≤70368744177664) (hR:R≤w.heap.size) :
  Calls Tryz.prog 42 #[.pointer (some ⟨b,0,none⟩),.string (B s)] w fun e w'=>e = .returned (.tuple #[.int .i64 s.length,.nilIface])∧∃ v',Bld w' b R v' (l++s)∧Keeps (fun k=>k=b∨v.ownBlock=some k) w w':=by
 obtain ⟨i0,hi,hz0,hz1,hz2⟩:=info_parts zc3
 have HC:=Lib.hid (zhh h)
 clear h
 go_enter Tryz.func42,Tryz.ntmps42
 go_wp2_with (go_at_call 70;refine HC.out.mono ?_)
 rintro e w1 ⟨rfl,h1,c0,hk1⟩
 have HK1:=Lib.hid hk1
 have hR1:R≤w1.heap.size:=Nat.le_trans hR hk1.size
 obtain ⟨_,c1,f0,f1,sh⟩:=h1.c
 have H1:=Lib.hid h1
 clear h1 hk1 sh
 go_wp2_with (at_builtin;refine zct rfl (.tmp 12) (.tmp 13) 42 9 rfl R 5 i0 Tryz.underlying42 Tryz.underlying9 hi hz0 hz1 hz2 _ _ _ rfl H1.out.row (B s) rfl (by rw [B_size];omega) hR1 ?_)
 intro v' w2 hown' hk2 hgrow
 rw [zi0,zbu,← List.flatMap_append,← zbu,← List.length_append] at hown'
 obtain ⟨d0,d1,e1,hB⟩:=H1.out.store c0 hown' hgrow
 have HB:=Lib.hid hB
 have HK2:=Lib.hid (show Keeps (fun k=>v.ownBlock=some k) w1 w2 from ⟨hgrow.os,hgrow.tape,hgrow.output,hgrow.size,fun k hk hne=>hgrow.block k hk (fun e=>hne e.symm),hk2.ty⟩)
 obtain ⟨ao,n',cap,rfl⟩:∃ ao n' cap,v' = .slice ao n' cap:=by
  rcases hown'.2 with ⟨hv,_⟩|⟨g,cap,cur,hv,_⟩
  ·exact ⟨_,_,_,hv⟩
  ·exact ⟨_,_,_,hv⟩
 clear hB hk2 hown' hgrow
 go_wp2
 go_ret2
 refine ⟨rfl,_,HB.out,?_⟩
 exact ((HK1.out.mono fun k _ e=>.inl e).trans (HK2.out.mono fun k _ e=>.inr e)).trans (Keeps.setCell (F:=fun k=>k=b∨v.ownBlock=some k) w2 (a:=⟨b,1,none⟩) (.inl rfl) _)
theorem zlu (w:World) (g n:Nat):Keeps (fun k=>k=g) w (w.freeze ⟨g,0,none⟩ n):=by
 unfold World.freeze
 split
 ·exact Keeps.refl _ _
 ·refine ⟨rfl,rfl,rfl,by simp,fun k hk hne=>?_,fun k hk=>?_⟩
  ·simp only [Array.getElem?_modify]
   rw [if_neg (fun e=>hne e.symm)]
  ·by_cases e:k=g
   ·subst e
    unfold tyOf
    simp only [Array.getElem?_modify,if_true]
    cases hh:w.heap[k]? with
    | none=>simp
    | some o=>cases o <;> simp
   ·refine zl ?_
    simp only [Array.getElem?_modify]
    rw [if_neg (fun q=>e q.symm)]
def sren:Go.Shelf.Ren:=⟨fun|169=>43|n=>n,fun|0=>0|3=>3|9=>9|37=>42|70=>72|72=>74|127=>121|5=>5|n=>n,fun n=>n⟩
theorem slays:Go.Proofs.Lays.n169 Tryz.prog sren:={
 mixed:=by kernel_rfl
 f169:=Tryz.func43.trans (congrArg some (by kernel_rfl))
 t0:=Tryz.underlying0
 a0:=Tryz.isAgg0
 z0:=Tryz.sizeOf0
 v0:=Tryz.zeroValue0
 t3:=Tryz.underlying3
 a3:=Tryz.isAgg3
 z3:=Tryz.sizeOf3
 v3:=Tryz.zeroValue3
 t9:=Tryz.underlying9
 a9:=Tryz.isAgg9
 z9:=Tryz.sizeOf9
 v9:=Tryz.zeroValue9
 t37:=Tryz.underlying42
 a37:=Tryz.isAgg42
 z37:=Tryz.sizeOf42
 v37:=Tryz.zeroValue42
 t70:=Tryz.underlying72
 a70:=Tryz.isAgg72
 z70:=Tryz.sizeOf72
 v70:=Tryz.zeroValue72
 t72:=Tryz.underlying74
 a72:=Tryz.isAgg74
 z72:=Tryz.sizeOf74
 v72:=Tryz.zeroValue74
 t127:=Tryz.underlying121
 a127:=Tryz.isAgg121
 z127:=Tryz.sizeOf121
 v127:=Tryz.zeroValue121 }
theorem sextra:Builder.Extra Tryz.prog sren:={
 sizeBuilder:=by kernel_rfl
 liesBuilder:=by kernel_rfl
 t5:=Tryz.underlying5
 a5:=Tryz.isAgg5
 z5:=Tryz.sizeOf5
 v5:=Tryz.zeroValue5
 infoByte:=by kernel_rfl
 cellsByte:=by kernel_rfl
 sizeByte:=by kernel_rfl
 neB5:=by decide }
set_option maxHeartbeats 2000000 in
theorem bstr_own {w:World} {b R:Nat} {v:Value} {l:List UInt8} (h:Bld w b R v l) :
  Calls Tryz.prog 43 #[.pointer (some ⟨b,0,none⟩)] w fun e w'=>e = .returned (.string (B l))∧Keeps (fun k=>v.ownBlock=some k) w w':=by
 obtain ⟨p,hp,hbk⟩:=h.at_
 have hown:=h.row
 rcases hown.2 with ⟨hv,hn⟩|⟨g,cap,cur,hv,hbg,hg,hnc,hcm,hcs,htake⟩
 ·have hl:=List.eq_nil_of_length_eq_zero hn
  subst hl hv
  exact (Any.Builder_String_nil slays sextra w.heap.size b p w hbk).mono fun e w' q=>⟨q.1,Keeps.of_below q.2⟩
 ·subst hv
  by_cases h0:l=[]
  ·subst h0
   by_cases hc0:cap=0
   ·subst hc0
    exact (Any.Builder_String_noroom slays sextra w.heap.size b g p cur w (Nat.le_refl _) hbk hg).mono fun e w' q=>⟨q.1,Keeps.of_below q.2⟩
   ·exact (Any.Builder_String_room slays sextra w.heap.size b g cap p w hc0 hbk).mono fun e w' q=>⟨q.1,Keeps.of_below q.2⟩
  ·have hl0:l.length≠0:=by simpa using h0
   have c1:w.drew.cell? ⟨b,1,none⟩=some (.slice (some ⟨g,0,none⟩) l.length cap):=by
    have:w.drew.heap[b]?=some (.cells #[p,.slice (some ⟨g,0,none⟩) l.length cap] 74 (0,0)):=hbk
    rw [Lib.cell_of_heap this];rfl
   have hSD:(Builtin.unsafeSliceData_ #[42] 121 #[.slice (some ⟨g,0,none⟩) l.length cap]).run Tryz.prog w.drew = .ok (.pointer (some ⟨g,0,none⟩)) w.drew :=
    Lib.run_unsafeSliceData_row _ _ _ _ _ _ (by omega)
   have hUS:(Builtin.unsafeString_ #[121,3] 9 #[.pointer (some ⟨g,0,none⟩),.int .i64 l.length]).run Tryz.prog w.drew = .ok (.string ⟨l.toArray⟩) (w.drew.freeze ⟨g,0,none⟩ l.length):=by
    refine Lib.run_unsafeString_row w.drew 121 3 9 5 Tryz.underlying121 sextra.cellsByte g cur.size (by have hg':w.drew.heap[g]?=some (.cells cur 5 (0,0)):=hg;simp [World.shape?,hg']) l h0 (by omega) (by unfold maxLen at hcm;omega) ?_
    intro j x hx
    exact hown.cells (g:=g) rfl j (.int .u8 x.toNat) (by simp [Lib.byteCells,hx])
   have HK:=Lib.hid (show Keeps (fun k=>(Value.slice (some ⟨g,0,none⟩) l.length cap).ownBlock=some k) w (w.drew.freeze ⟨g,0,none⟩ l.length) from (Keeps.of_below (zj (Below.refl _ _))).trans ((zlu w.drew g l.length).mono fun k _ e=>by rw [show k=g from e];rfl))
   have mixed:Tryz.prog.follows .mixedOrders=true:=by kernel_rfl
   clear hown h
   go_enter Tryz.func43,Tryz.ntmps43
   go_wp2
   go_region_o
   all_goals (go_wp2;go_ret;exact ⟨rfl,HK.out⟩)
end Go.Proofs.YtfmecpnokefokaaGreatDoor.Bd
namespace Go.Proofs.YtfmecpnokefokaaGreatDoor.Bd
open Go.ChangeShapes Go.WideShapes Go.Deep Go.RowKit
theorem Bld.lull {A:Nat} {w w':World} {b R:Nat} {v:Value} {l:List UInt8} (h:Bld w b R v l) (hL:Lull A w w'):Bld w' b R v l:=by
 obtain ⟨p,hp,hh⟩:=h.at_
 refine ⟨⟨p,hp,hL.cells b _ hh rfl⟩,?_,h.ne⟩
 obtain ⟨h1,h2⟩:=h.row
 refine ⟨h1,?_⟩
 rcases h2 with h2|⟨g,c,cur,e,hg,hhg,r⟩
 ·exact .inl h2
 ·exact .inr ⟨g,c,cur,e,hg,hL.cells g _ hhg rfl,r⟩
theorem Bld.keepsV {F:Nat→Prop} {w w':World} {b R:Nat} {v:Value} {l:List UInt8} (h:Bld w b R v l) (hk:Keeps F w w') (hb:¬ F b) (hv:∀ k,v.ownBlock=some k→¬ F k):Bld w' b R v l:=by
 obtain ⟨p,hp,hh⟩:=h.at_
 refine ⟨⟨p,hp,(hk.block b h.lt hb).trans hh⟩,?_,h.ne⟩
 obtain ⟨h1,h2⟩:=h.row
 refine ⟨h1,?_⟩
 rcases h2 with h2|⟨g,c,cur,e,hg,hhg,r⟩
 ·exact .inl h2
 ·exact .inr ⟨g,c,cur,e,hg,(hk.block g (Array.getElem?_eq_some_iff.1 hhg).1 (hv g (by rw [e];rfl))).trans hhg,r⟩
theorem Bld.tyb {w:World} {b R:Nat} {v:Value} {l:List UInt8} (h:Bld w b R v l):tyOf w b=some 74:=by
 obtain ⟨p,hp,hh⟩:=h.at_
 unfold tyOf
 rw [hh]
theorem Bld.tyv {w:World} {b R:Nat} {v:Value} {l:List UInt8} (h:Bld w b R v l) {k:Nat} (hk:v.ownBlock=some k):tyOf w k=some 5∧R≤k∧∃ o:Obj,w.heap[k]?=some o∧o.isCells=true:=by
 rcases h.row.2 with ⟨h1,h2⟩|⟨g,c,cur,e,hg,hhg,r⟩
 ·rw [h1] at hk;cases hk
 ·rw [e] at hk
  simp only [Value.ownBlock,Option.map_some,Option.some.injEq] at hk
  subst hk
  exact ⟨by unfold tyOf;rw [hhg],hg,_,hhg,rfl⟩
end Go.Proofs.YtfmecpnokefokaaGreatDoor.Bd
namespace Go.Proofs.YtfmecpnokefokaaGreatDoor.Li
open Go.ChangeShapes Go.WideShapes Go.Deep Go.RowKit Go.Shelf Cls Md Mc Pa NM Bd
attribute [local go_sem] Oper.semAt_some
set_option maxRecDepth 100000
theorem zlv (rb:Nat) (w:World):Calls Tryz.prog 47 #[.pointer (some ⟨rb,0,none⟩)] w fun e w'=>e = .returned (.func (.func 72) #[] #[.pointer (some ⟨w.heap.size,0,none⟩)])∧w'=w.alloc (.cells #[.pointer (some ⟨rb,0,none⟩)] 84):=by
 go_enter Tryz.func47,Tryz.ntmps47
 go_wp2
 go_ret
 exact ⟨rfl,rfl⟩
def eaK0 (rb mb:Nat) (lv:Value) (n rx:Nat):World→World→Prop:=KeepT (eaG rb mb lv n rx) (fun t=>t=42∨t=125∨t=107∨t=35)
def pieR (X Y:World):Prop:=∀ k,tyOf X k=some 35→Y.heap[k]?=X.heap[k]?
theorem eaK0.ea {rb mb n rx:Nat} {lv:Value} {A C:World} (h:eaK0 rb mb lv n rx A C):eaK pieR rb mb lv n rx A C :=
 ⟨h.g,fun k t ht hT=>h.t k t ht (hT.elim .inl fun q=>.inr (q.elim .inl fun q=>.inr (.inl q))),h.size,fun k hk=>h.t k _ hk (.inr (.inr (.inr rfl)))⟩
theorem pieR_law (bb:Nat) (J:List Pc→World→Prop):RLaw bb J pieR where
 rf:=fun _ _ _=>rfl
 tr:=fun X Y Z h1 h2 k hk=>(h2 k ((zl (h1 k hk)).trans hk)).trans (h1 k hk)
 wr:=fun X Y h k hk=>h.block k (zap hk) (fun q=>by have:=q.2;rw [hk] at this;exact absurd this (by decide))
 qb:=fun pre X Y q _ h=>h _ (zad _ _ _)
theorem zo2 {w0 w:World} {rb mb:Nat} {lv:Value} {s:List UInt8} (hs:s.length≤30000) (h:RdI w0 rb mb w lv s (partsL s) (partsL s).length) (hL:(partsL s).length≤1073741824) :
  GivesT Tryz.prog 72 #[.pointer (some ⟨w.heap.size,0,none⟩)] encPc (eaK0 rb mb lv (partsL s).length w.heap.size) 42 (piecesL s) (w.alloc (.cells #[.pointer (some ⟨rb,0,none⟩)] 84)):=by
 intro n hn l J Jx W hW hJ hJx hY h0
 have hr:Rd w rb mb lv s (partsL s) (idxP (partsL s)) (partsL s).length:=by have:=h.r;rwa [List.take_length] at this
 have hal:=zb (Below.refl w.heap.size w) (.cells #[.pointer (some ⟨rb,0,none⟩)] 84)
 exact znx n hn l _ rb mb _ lv s (partsL s) hs hL (zaf s) w.heap.size J Jx pieR (pieR_law _ _) hJ hJx (fun pre x W1 hj hp=>zda (hY pre x W1 hj hp) fun e W' hr=>hr.imp (fun q=>⟨q.1,q.2.1,q.2.2.ea⟩) id) W (by rw [hW.cell (by simp)];simp [go_sem]) ((hr.below hal).below hW) hW.size h0
structure VaI (w:World) (R:Nat) (pre:List Pc) (v:Value) (W:World):Prop where
 bd:Bld W (w.heap.size+1+1) R v (txL pre)
 r0:W.cell? ⟨w.heap.size,0,none⟩=some (.string (B []))
 f0:W.frozen? ⟨w.heap.size,0,none⟩=false
 r1:W.cell? ⟨w.heap.size+1,0,none⟩=some (.bool false)
 f1:W.frozen? ⟨w.heap.size+1,0,none⟩=false
 a:∀ x∈pre,x.ex=false
 b:Below w.heap.size w W
 s:R≤W.heap.size
 g:w.heap.size+1+1+1≤R
theorem VaI.lull {w W W':World} {R:Nat} {pre:List Pc} {v:Value} (h:VaI w R pre v W) (hL:Lull R W W'):VaI w R pre v W' :=
 ⟨h.bd.lull hL,hL.cell h.r0,(hL.frozen h.r0).trans h.f0,hL.cell h.r1,(hL.frozen h.r1).trans h.f1,h.a,hL.below h.b (by have:=h.g;omega) (Nat.le_refl _),Nat.le_trans h.s hL.size,h.g⟩
theorem VaI.keeps {w W W':World} {R:Nat} {pre:List Pc} {v:Value} {F:Nat→Prop} (h:VaI w R pre v W) (hk:Keeps F W W') (hF:∀ k,F k→R≤k) (hv:∀ k,v.ownBlock=some k→¬ F k):VaI w R pre v W':=by
 have hg:=h.g
 have l0:=World.block_lt_of_cell? W _ h.r0
 have l1:=World.block_lt_of_cell? W _ h.r1
 have n0:¬ F w.heap.size:=fun q=>by have:=hF _ q;omega
 have n1:¬ F (w.heap.size+1):=fun q=>by have:=hF _ q;omega
 exact ⟨h.bd.keepsV hk (fun q=>by have:=hF _ q;omega) hv,(World.cell?_of_block (hk.block _ l0 n0)).trans h.r0,(World.frozen?_of_block (hk.block _ l0 n0)).trans h.f0,(World.cell?_of_block (hk.block _ l1 n1)).trans h.r1,(World.frozen?_of_block (hk.block _ l1 n1)).trans h.f1,h.a,ze h.b hk (fun k q=>by have:=hF k q;omega),Nat.le_trans h.s hk.size,hg⟩
structure VaX (w:World) (R:Nat) (pre:List Pc) (W:World):Prop where
 x:pre.all (fun p => !p.ex)=false
 r0:W.cell? ⟨w.heap.size,0,none⟩=some (.string (B []))
 r1:W.cell? ⟨w.heap.size+1,0,none⟩=some (.bool false)
 b:Below w.heap.size w W
 s:R≤W.heap.size
 g:w.heap.size+1+1+1≤R
theorem VaX.lull {w W W':World} {R:Nat} {pre:List Pc} (h:VaX w R pre W) (hL:Lull R W W'):VaX w R pre W' :=
 ⟨h.x,hL.cell h.r0,hL.cell h.r1,hL.below h.b (by have:=h.g;omega) (Nat.le_refl _),Nat.le_trans h.s hL.size,h.g⟩
theorem VaX.keeps {w W W':World} {R:Nat} {pre:List Pc} {F:Nat→Prop} (h:VaX w R pre W) (hk:Keeps F W W') (hF:∀ k,F k→R≤k):VaX w R pre W':=by
 have hg:=h.g
 have l0:=World.block_lt_of_cell? W _ h.r0
 have l1:=World.block_lt_of_cell? W _ h.r1
 have n0:¬ F w.heap.size:=fun q=>by have:=hF _ q;omega
 have n1:¬ F (w.heap.size+1):=fun q=>by have:=hF _ q;omega
 exact ⟨h.x,(World.cell?_of_block (hk.block _ l0 n0)).trans h.r0,(World.cell?_of_block (hk.block _ l1 n1)).trans h.r1,ze h.b hk (fun k q=>by have:=hF k q;omega),Nat.le_trans h.s hk.size,hg⟩
set_option maxHeartbeats 3200000 in
theorem zq4 (s:List UInt8) (w:World) (hs:s.length≤30000):Calls Tryz.prog 24 #[.string (B s)] w fun e w'=>e = .returned (.tuple #[.string (B (valueL s).1),.bool (valueL s).2])∧Below w.heap.size w w':=by
 have HRD:=Lib.hid fun W=>zlq s W hs
 have HL:=Lib.hid (show (partsL s).length≤1073741824 by
  have:=(zgl (s:=s) s.length (Nat.le_refl _)).1
  have h2:s.length*(s.length+1)≤30000*30001:=Nat.mul_le_mul (by omega) (by omega)
  rw [List.take_length] at this
  unfold partsL
  rw [List.length_map]
  omega)
 have HTX:=Lib.hid fun pre (h:pre <+: piecesL s)=>zj0 s hs h
 have HEG:=Lib.hid fun (w0 w1:World) (rb mb:Nat) (lv:Value) (h:RdI w0 rb mb w1 lv s (partsL s) (partsL s).length)=>zo2 hs h HL.out
 obtain ⟨T,hT⟩:∃ T,valueL s=T:=⟨_,rfl⟩
 rw [hT]
 unfold valueL at hT
 rw [zi5] at hT
 have HT:=Lib.hid hT
 clear hT
 generalize hm:(partsL s).length=m at *
 have HM:=Lib.hid hm
 clear hm
 generalize piecesL s=xs at *
 refine (callsIn_wide (n:=9)).1 ?_;refine callsIn_of_wp_marks Tryz.func24 rfl trivial ?_ rfl;simp only [Tryz.ntmps24,List.size_toArray,List.length_cons,List.length_nil,Nat.reduceAdd,Nat.reduceSub,Array.replicate_succ,Array.replicate_zero,List.push_toArray,List.append_toArray,List.nil_append,List.cons_append]
 refine wpIn_wide.2 ?_
 go_wp2_with (first
  | (go_at_call 46;refine (HRD.out _).mono ?_;rintro e w1 ⟨rb,mb,lv,rfl,hri⟩)
  | (go_at_call 47;refine (zlv _ _).mono ?_;rintro e w2 ⟨rfl,rfl⟩))
 have HG:=HEG.out _ _ _ _ _ hri
 have hsz:(((w.alloc (.cells #[.string (B [])] 9)).alloc (.cells #[.bool false] 4)).alloc (.cells #[.pointer none,.slice none 0 0] 74)).heap.size=w.heap.size+1+1+1:=by simp
 have hbe:=hri.be
 have hal:=zb (Below.refl w1.heap.size w1) (.cells #[.pointer (some ⟨rb,0,none⟩)] 84)
 have hb3:=za hbe hal
 have hs3:(w1.alloc (.cells #[.pointer (some ⟨rb,0,none⟩)] 84)).heap.size=w1.heap.size+1:=by simp
 have HGB:Hid (∀ k,eaG rb mb lv m w1.heap.size k→k<(w1.alloc (.cells #[.pointer (some ⟨rb,0,none⟩)] 84)).heap.size∧w.heap.size+1+1+1≤k):=Lib.hid fun k hk=>by
  have hsb:=hbe.size
  have hml:m=(partsL s).length:=HM.out.symm
  rcases hk with hk|hk
  ·have h1:=hri.r.lts k (hml ▸ hk)
   rcases hk with hk|hk|⟨h0,hk⟩
   ·have:=hri.g1;omega
   ·have:=hri.g2;omega
   ·have:=hri.g3 k (hml ▸ h0) hk;omega
  ·omega
 have HI0:Hid (VaI w (w1.alloc (.cells #[.pointer (some ⟨rb,0,none⟩)] 84)).heap.size [] (.slice none 0 0) (w1.alloc (.cells #[.pointer (some ⟨rb,0,none⟩)] 84))):=by
  have hsb:=hbe.size
  have hbd:=(Bld.new ((w.alloc (.cells #[.string (B [])] 9)).alloc (.cells #[.bool false] 4)) (w1.alloc (.cells #[.pointer (some ⟨rb,0,none⟩)] 84)).heap.size).below hb3
  rw [show ((w.alloc (.cells #[.string (B [])] 9)).alloc (.cells #[.bool false] 4)).heap.size=w.heap.size+1+1 by simp] at hbd
  refine Lib.hid ⟨hbd,?_,?_,?_,?_,(fun x h=>by cases h),za (zb (zb (zb (Below.refl _ _) _) _) _) hb3,Nat.le_refl _,by omega⟩
  ·rw [hb3.cell (by simp;omega)];simp [go_sem]
  ·rw [hb3.frozen (by simp;omega)];simp [go_sem]
  ·rw [hb3.cell (by simp)];simp [go_sem]
  ·rw [hb3.frozen (by simp)];simp [go_sem]
 clear hri hbe hal hb3 hs3 hsz HEG HRD
 generalize w1.heap.size=rx at *
 generalize w1.alloc (.cells #[.pointer (some ⟨rb,0,none⟩)] 84)=w3 at *
 clear w1
 have hw3:=HI0.out.g
 refine (wpIn_wide (n:=9)).1 ?_
 refine zh4 (n:=9) (by omega) (gf:=72) rfl (enters_of Tryz.func72 (by kernel_rfl) rfl) HG (fun _ _ _=>KeepT.trans) (fun W l o o' hl h ho=>zi4 (fun k hk=>(HGB.out k hk).1) W l o o' hl h ho) (fun _=>rfl)
  (fun pre W=>∃ v,VaI w w3.heap.size pre v W) (fun c pre W=>c = .ret∧VaX w w3.heap.size pre W)
  (fun _ W W' hL ⟨v,h⟩=>⟨v,h.lull hL⟩) (fun c _ W W' hL ⟨e,h⟩=>⟨e,h.lull hL⟩)
  (fun _ W W' hk ⟨v,h⟩=>⟨v,h.keeps hk (fun k q=>q.1) (fun k e q=>by have:=(h.bd.tyv e).1;rw [q.2] at this;exact absurd this (by decide))⟩) (fun c _ W W' hk ⟨e,h⟩=>⟨e,h.keeps hk (fun k q=>q.1)⟩)
  ⟨.slice none 0 0,HI0.out⟩
  (fun x a' W'=>∃ ub,a' = { tmps:=#[.string (B s),undef,.pointer (some ⟨w.heap.size,0,none⟩),.pointer (some ⟨w.heap.size+1,0,none⟩),.pointer (some ⟨w.heap.size+1+1,0,none⟩),.pointer (some ⟨ub,0,none⟩),.string (B s),.pointer (some ⟨rb,0,none⟩),.func (.func 72) #[] #[.pointer (some ⟨rx,0,none⟩)],pcV x,undef,undef,undef,undef,undef,undef],defers:=[] }∧BoxN W' ub [.bool x.ex,.bool x.qu,.string (B x.tx)]) (fun x a' W W' hL ⟨ub,e,h⟩=>⟨ub,e,h.block (hL.block (h.c 0 _ rfl)) hL.size⟩) ?assign ?body ?done ?stop
 case assign =>
  intro l pre x W K ⟨v,hi⟩ hs hK
  have hK:=hK { tmps:=#[.string (B s),undef,.pointer (some ⟨w.heap.size,0,none⟩),.pointer (some ⟨w.heap.size+1,0,none⟩),.pointer (some ⟨w.heap.size+1+1,0,none⟩),.pointer (some ⟨W.heap.size,0,none⟩),.string (B s),.pointer (some ⟨rb,0,none⟩),.func (.func 72) #[] #[.pointer (some ⟨rx,0,none⟩)],pcV x,undef,undef,undef,undef,undef,undef],defers:=[] } _
   (KeepsFrom.allocN _ W (.cells #[.bool x.ex,.bool x.qu,.string (B x.tx)] 35))
   (KeepT.of_keeps (F:=fun _=>False) (Keeps.of_below (zb (Below.refl _ _) _)) (fun k hk=>by have:=(HGB.out k hk).1;omega) (fun _ _ h=>h) (fun _ _ h=>h.elim))
   ⟨v,hi.keeps (F:=fun _=>False) (Keeps.of_below (zb (Below.refl _ _) _)) (fun _ h=>h.elim) (fun _ _ h=>h)⟩ ⟨_,rfl,BoxN.new W _ _⟩
  unfold encPc pcV at *
  have HK:=Lib.hid hK
  clear hK
  gi_wp2
  exact HK.out
 case body =>
  rintro l pre x a' W hs ⟨v,h1⟩ ⟨ub,rfl,hB⟩ hlt
  have b0':=hB.c 0 _ rfl
  have b2':=hB.c 2 _ rfl
  haveI:Old W ub:=⟨hB.lt⟩
  have r0:=h1.r0
  have r1:=h1.r1
  have f0:=h1.f0
  have f1:=h1.f1
  haveI:Old W (w.heap.size):=⟨by omega⟩
  haveI:Old W (w.heap.size+1):=⟨by omega⟩
  have H1:=Lib.hid h1
  have hall:(txL (pre++[x])).length≤1000000000:=HTX.out _ hlt
  have hpl:txL (pre++[x])=txL pre++x.tx:=by rw [zaq];simp [txL]
  have HWS:=Lib.hid (wstr_own (s:=x.tx) h1.bd (by rw [hpl,List.length_append] at hall;omega) h1.s)
  clear h1 hB hall
  unfold pcV
  cases hb:x.ex with
  | true =>
   rw [hb] at b0'
   gi_wp2
   have hS:=(Keeps.setCell (F:=fun k=>k=w.heap.size∨k=w.heap.size+1) W (a:=⟨w.heap.size,0,none⟩) (.inl rfl) (.string (B []))).trans (Keeps.setCell (F:=fun k=>k=w.heap.size∨k=w.heap.size+1) (W.setCell ⟨w.heap.size,0,none⟩ (.string (B []))) (a:=⟨w.heap.size+1,0,none⟩) (.inr rfl) (.bool false))
   refine ⟨KeepsFrom.of_keeps hS (fun k hF _ hA=>by omega),rfl,⟨by simp [hb],?_,?_,ze H1.out.b hS (fun k hk=>by omega),Nat.le_trans H1.out.s hS.size,H1.out.g⟩⟩
   ·rw [World.cell?_setCell_other _ _ _ _ (by simp)]
    exact World.cell?_setCell_same' _ _ _ (by rw [r0];rfl)
   ·exact World.cell?_setCell_same' _ _ _ (by rw [World.cell?_setCell_other _ _ _ _ (by simp),r1];rfl)
  | false =>
   rw [hb] at b0'
   gi_wp2_with (with_reducible (show CallsIn _ _ _ 42 _ _ _);refine (CallsIn.inRound _ (callsIn_wide.2 (HWS.out))).mono ?_;rintro e w5 ⟨rfl,v5,hb5,hk5⟩;have HB5:=Lib.hid hb5;have HK5:=Lib.hid hk5;clear hb5 hk5)
   have hk:=HK5.out
   have hF:∀ k,(k=w.heap.size+1+1∨v.ownBlock=some k)→k=w.heap.size+1+1∨w3.heap.size≤k:=fun k q=>q.imp id fun e=>(H1.out.bd.tyv e).2.1
   have hn:∀ k,k<w3.heap.size→k≠w.heap.size+1+1→¬ (k=w.heap.size+1+1∨v.ownBlock=some k):=fun k h1 h2 q=>by rcases hF k q with q|q <;> omega
   have l0:=World.block_lt_of_cell? W _ r0
   have l1:=World.block_lt_of_cell? W _ r1
   have n0:=hn w.heap.size (by omega) (by omega)
   have n1:=hn (w.heap.size+1) (by omega) (by omega)
   refine ⟨KeepsFrom.of_keeps hk (fun k hF _ hA=>?_),KeepT.of_keeps hk (fun k hk2=>?_) (fun k hk2=>?_) (fun k t hF _ ht=>?_),v5,⟨?_,?_,?_,?_,?_,fun y hy=>?_,ze H1.out.b hk (fun k q=>by have:=hF k q;omega),Nat.le_trans H1.out.s hk.size,H1.out.g⟩⟩
   ·rcases hF with q|q
    ·omega
    ·exact (H1.out.bd.tyv q).2.2
   ·have:=(HGB.out k hk2).1;omega
   ·have:=HGB.out k hk2
    exact hn k this.1 (by omega)
   ·rcases hF with q|q
    ·rw [q,H1.out.bd.tyb] at ht
     injection ht with ht
     subst ht
     decide
    ·rw [(H1.out.bd.tyv q).1] at ht
     injection ht with ht
     subst ht
     decide
   ·rw [hpl];exact HB5.out
   ·exact (World.cell?_of_block (hk.block _ l0 n0)).trans r0
   ·exact (World.frozen?_of_block (hk.block _ l0 n0)).trans f0
   ·exact (World.cell?_of_block (hk.block _ l1 n1)).trans r1
   ·exact (World.frozen?_of_block (hk.block _ l1 n1)).trans f1
   ·rcases List.mem_append.1 hy with hy|hy
    ·exact H1.out.a y hy
    ·simp at hy;subst hy;exact hb
 case done =>
  rintro D W hD ⟨v,h1⟩ hK
  have hT:=HT.out
  rw [if_pos (by rw [List.all_eq_true];intro x hx;simp [h1.a x hx]),List.nil_append] at hT
  subst hT
  have r0:=h1.r0
  have r1:=h1.r1
  have f0:=h1.f0
  have f1:=h1.f1
  have hs':=h1.s
  haveI:Old W (w.heap.size):=⟨by omega⟩
  haveI:Old W (w.heap.size+1):=⟨by omega⟩
  have HBS:=Lib.hid (bstr_own h1.bd)
  have H1:=Lib.hid h1
  clear h1
  gi_wp2
  go_wp2_with fail
  refine HBS.out.mono ?_
  rintro e w5 ⟨rfl,hk5⟩
  have l0:w.heap.size<W.heap.size:=World.block_lt_of_cell? W _ r0
  have l1:w.heap.size+1<W.heap.size:=World.block_lt_of_cell? W _ r1
  have hv:∀ k,v.ownBlock=some k→w3.heap.size≤k:=fun k hv=>(H1.out.bd.tyv hv).2.1
  have e0:=hk5.block w.heap.size l0 (fun q=>by have:=hv _ q;omega)
  have e1:=hk5.block (w.heap.size+1) l1 (fun q=>by have:=hv _ q;omega)
  have s0:=(World.cell?_of_block (w:=W) (w':=w5) (a:=⟨w.heap.size,0,none⟩) e0).trans r0
  have s1:=(World.cell?_of_block (w:=W) (w':=w5) (a:=⟨w.heap.size+1,0,none⟩) e1).trans r1
  have g0:=(World.frozen?_of_block (w:=W) (w':=w5) (a:=⟨w.heap.size,0,none⟩) e0).trans f0
  have g1:=(World.frozen?_of_block (w:=W) (w':=w5) (a:=⟨w.heap.size+1,0,none⟩) e1).trans f1
  haveI:Old w5 (w.heap.size):=⟨World.block_lt_of_cell? _ _ s0⟩
  haveI:Old w5 (w.heap.size+1):=⟨World.block_lt_of_cell? _ _ s1⟩
  have hD5:w5.heap[D]?=some (.deferred (some [])):=(hk5.block D (Array.getElem?_eq_some_iff.1 hK).1 (fun q=>by
   obtain ⟨_,_,o,ho,hc⟩:=H1.out.bd.tyv q
   rw [hK] at ho
   cases ho
   cases hc)).trans hK
  have HB5:=Lib.hid (ze H1.out.b hk5 (fun k q=>by have:=hv k q;omega))
  have HD5:=Lib.hid hD5
  clear hk5 e0 e1 l0 l1 hv hD5 hK
  go_wp2
  have hS:=(Keeps.setCell (F:=fun k=>k=w.heap.size∨k=w.heap.size+1) w5 (a:=⟨w.heap.size,0,none⟩) (.inl rfl) (.string (B (txL xs)))).trans (Keeps.setCell (F:=fun k=>k=w.heap.size∨k=w.heap.size+1) (w5.setCell ⟨w.heap.size,0,none⟩ (.string (B (txL xs)))) (a:=⟨w.heap.size+1,0,none⟩) (.inr rfl) (.bool true))
  have q0:((w5.setCell ⟨w.heap.size,0,none⟩ (.string (B (txL xs)))).setCell ⟨w.heap.size+1,0,none⟩ (.bool true)).cell? ⟨w.heap.size,0,none⟩=some (.string (B (txL xs))):=by
   rw [World.cell?_setCell_other _ _ _ _ (by simp)]
   exact World.cell?_setCell_same' _ _ _ (by rw [s0];rfl)
  have q1:((w5.setCell ⟨w.heap.size,0,none⟩ (.string (B (txL xs)))).setCell ⟨w.heap.size+1,0,none⟩ (.bool true)).cell? ⟨w.heap.size+1,0,none⟩=some (.bool true) :=
   World.cell?_setCell_same' _ _ _ (by rw [World.cell?_setCell_other _ _ _ _ (by simp),s1];rfl)
  have hK':=(hS.block D (Array.getElem?_eq_some_iff.1 HD5.out).1 (by omega)).trans HD5.out
  have hB2:=ze HB5.out hS (fun k hk=>by omega)
  generalize (w5.setCell ⟨w.heap.size,0,none⟩ (.string (B (txL xs)))).setCell ⟨w.heap.size+1,0,none⟩ (.bool true)=W2 at *
  have hL:Lull w3.heap.size W2 (W2.putObj D (.deferred none)):=Lull.of_grown (grownBy_putObj' _ D _) (fun r e=>by cases e;exact ⟨hD,_,hK',rfl⟩)
  have p0:=hL.cell q0
  have p1:=hL.cell q1
  refine ⟨by simp,.inl ⟨_,_,rfl,run_takeDeferred hK',?_⟩⟩
  exact ⟨.tuple #[.string (B (txL xs)),.bool true],by simp [results,Tryz.results24,go_sem,p0,p1],rfl,hL.below hB2 (by omega) (Nat.le_refl _)⟩
 case stop =>
  rintro D c pre W hD hpre ⟨rfl,hx⟩ hK
  have hg:=hx.g
  have hL:Lull w3.heap.size W (W.putObj D (.deferred none)):=Lull.of_grown (grownBy_putObj' _ D _) (fun r e=>by cases e;exact ⟨hD,_,hK,rfl⟩)
  have p0:=hL.cell hx.r0
  have p1:=hL.cell hx.r1
  have hlb:xs.all (fun p => !p.ex)=false:=by
   obtain ⟨t,ht⟩:=hpre
   rw [← ht,List.all_append,hx.x,Bool.false_and]
  have hT:=HT.out
  rw [hlb,if_neg (by simp)] at hT
  subst hT
  have hB2:=hL.below hx.b (by omega) (Nat.le_refl _)
  gi_wp2
  refine ⟨by simp,.inl ⟨_,_,rfl,run_takeDeferred hK,?_⟩⟩
  exact ⟨.tuple #[.string (B []),.bool false],by simp [results,Tryz.results24,go_sem,p0,p1],rfl,hB2⟩
end Go.Proofs.YtfmecpnokefokaaGreatDoor.Li
namespace Go.Proofs.YtfmecpnokefokaaGreatDoor.Li
open Cls Md Mc Pa Quo Lx
end Go.Proofs.YtfmecpnokefokaaGreatDoor.Li
namespace Go.Proofs.YtfmecpnokefokaaGreatDoor.Li
open Cls Md Mc Pa Quo Lx
inductive Seg where
 | bt (b:UInt8)
 | es (b:UInt8)
 | sq (t:List UInt8)
 | dq (t:List UInt8)
def dblE (b:UInt8):List UInt8:=if dblB b=true then [92,b] else [b]
def Seg.text:Seg→List UInt8
 | bt b=>[b]
 | es b=>[92,b]
 | sq t=>39 :: (t++[39])
 | dq t=>34 :: (t.flatMap dblE++[34])
def Seg.val:Seg→List UInt8
 | bt b=>[b]
 | es b=>[b]
 | sq t=>t
 | dq t=>t
def Seg.ok:Seg→Prop
 | bt b=>topB b.toNat=true
 | es b=>b≠10
 | sq t=>39 ∉ t
 | dq _=>True
def dqP (q:Nat) (n:Nat):List UInt8→List Part
 | []=>[]
 | b :: t=>if dblB b=true then ⟨88,q,q+2,(n:Int),false⟩ :: dqP (q+2) n t else dqP (q+1) n t
def Seg.parts (p n:Nat):Seg→List Part
 | bt _=>[]
 | es _=>[⟨88,p,p+2,-1,false⟩]
 | sq t=>[⟨83,p,p+t.length+2,-1,false⟩]
 | dq t=>⟨68,p,p+(t.flatMap dblE).length+2,-1,false⟩ :: dqP (p+1) n t
end Go.Proofs.YtfmecpnokefokaaGreatDoor.Li
namespace Go.Proofs.YtfmecpnokefokaaGreatDoor.Li
open Cls Md Mc Pa Quo Lx
end Go.Proofs.YtfmecpnokefokaaGreatDoor.Li
namespace Go.Proofs.YtfmecpnokefokaaGreatDoor.Li
open Cls Md Mc Pa Quo Lx
end Go.Proofs.YtfmecpnokefokaaGreatDoor.Li
namespace Go.Proofs.YtfmecpnokefokaaGreatDoor.Li
open Cls Md Mc Pa Quo Lx
def Fin (L:List Part):Prop:=∀ p∈L,p.c≠76∧p.op=false
end Go.Proofs.YtfmecpnokefokaaGreatDoor.Li
