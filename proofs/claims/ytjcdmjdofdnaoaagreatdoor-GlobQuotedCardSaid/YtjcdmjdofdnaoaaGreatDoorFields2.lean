/-
  The walks of layer 26 (fields): the maker's functions. Conditions: at most 2^40 bytes.
-/
import Derived.Test.YtjcdmjdofdnaoaaGreatDoorFieldsPlain
import Derived.Test.YtjcdmjdofdnaoaaGreatDoorMachC
import Derived.Test.YtjcdmjdofdnaoaaGreatDoorModA
import Derived.Lib.SlBytesRow
import Derived.Lib.BufferRead
import Derived.Deep.RegionHeld3
import Derived.Deep.AppendLies
set_option linter.unusedSimpArgs false
set_option linter.unusedVariables false
namespace Go.Proofs.YtjcdmjdofdnaoaaGreatDoor
open Go.ChangeShapes Go.WideShapes Go.Deep Go.RowKit Go.Shelf
attribute [local go_sem] Oper.semAt_some
set_option maxRecDepth 100000
theorem _root_.Go.Proofs.YtjcdmjdofdnaoaaGreatDoor.j7e {p:Prop} (h:p):Go.RowKit.Hid p:=Go.Lib.hid h
theorem zmb {α : Type} {l:List α} {k:Nat} {x : α} (h:l[k]?=some x):l.take (k+1)=l.take k++[x]:=by
 obtain ⟨h1,rfl⟩:=List.getElem?_eq_some_iff.1 h;exact List.take_succ_eq_append_getElem h1
def encU (u:Un):Array Value:=#[u.val]
theorem zik (l:List Piece) (k:Nat) (p:Piece) (h:l[k]?=some p):unitsOf (l.take (k+1))=unitsOf (l.take k)++unitsP p:=by
 obtain ⟨h1,rfl⟩:=List.getElem?_eq_some_iff.1 h;unfold unitsOf;rw [List.take_succ_eq_append_getElem h1,List.flatMap_append];simp only [List.flatMap_cons,List.flatMap_nil,List.append_nil]
theorem zkn (l:List Piece) (k:Nat):unitsOf (l.take k) <+: unitsOf l:=by
 refine ⟨unitsOf (l.drop k),?_⟩;unfold unitsOf;rw [← List.flatMap_append,List.take_append_drop]
def keepU (b1:Nat) (v:Value):World→World→Prop:=KeepT (fun k=>k=b1∨v.ownBlock=some k) (fun t=>t=138)
structure PBox (W:World) (pb:Nat) (p:Piece):Prop where
 ty:tyOf W pb=some 138
 c0:W.cell? ⟨pb,0,none⟩=some (.bool p.ex)
 c1:W.cell? ⟨pb,1,none⟩=some (.bool p.q)
 c2:W.cell? ⟨pb,2,none⟩=some (.string (B p.text))
theorem PBox.keep {W W':World} {pb b1:Nat} {p:Piece} {v:Value} (h:PBox W pb p) (hk:keepU b1 v W W'):PBox W' pb p:=by
 have hb:=hk.t pb _ h.ty rfl;exact ⟨(zf hb).trans h.ty,(World.cell?_of_block (w:=W) hb).trans h.c0,(World.cell?_of_block (w:=W) hb).trans h.c1,(World.cell?_of_block (w:=W) hb).trans h.c2⟩
theorem zed (w:World) (g:GrowOf w) (b:Nat) (h:b<w.heap.size):(grow w g).heap[b]?=w.heap[b]?:=g.2.block b h
theorem PBox.grow {W:World} {pb:Nat} {p:Piece} (h:PBox W pb p) (g:GrowOf W):PBox (grow W g) pb p:=by
 have hb:=zed W g pb (zv h.ty);exact ⟨(zf hb).trans h.ty,(World.cell?_of_block (w:=W) hb).trans h.c0,(World.cell?_of_block (w:=W) hb).trans h.c1,(World.cell?_of_block (w:=W) hb).trans h.c2⟩
set_option maxHeartbeats 2000000 in
theorem units1 (n:Nat) (hn:1≤n) (lab b1:Nat) (v vk:Value) (l:List Piece) (hvk:l≠[]→vk=v) (hl:l.length≤4294967296) (hlt:∀ p∈l,p.text.length≤4294967296) (J Jx:List Un→World→Prop)
  (hY:∀ pre x W,J pre W→pre.length<(unitsOf l).length→YieldAt Fence.wide (n - 1) Tryz.prog lab #[x.val] W fun e W' =>
   (e = .returned (.bool true)∧J (pre++[x]) W'∧keepU b1 vk W W')∨(e = .returned (.bool false)∧Jx (pre++[x]) W'))
  (W:World) (hJ:∀ s A A',J s A→Below A.heap.size A A'→J s A') (h1:W.cell? ⟨b1,0,none⟩=some v) (hv:Sl W Piece.cells 3 v l) (h0:J [] W) :
  CallsIn Fence.wide n Tryz.prog 105 #[.func (.yield lab) #[] #[],.pointer (some ⟨b1,0,none⟩)] W fun e W'=>(∃ v,e = .returned v) ∧
   ((∃ ys,ys=unitsOf l∧J ys W')∨(∃ pre,pre <+: unitsOf l∧Jx pre W')):=by
 have HY:=j7e hY;have HJA:=j7e hJ;obtain ⟨A,c,rfl,hc1,hc2,hn0,hA⟩:=hv;have HA:=j7e hA;have HVK:=j7e hvk;clear hY hJ hA hn0 hvk;refine callsIn_of_wp Tryz.func105 rfl trivial ?_ rfl;simp only [Tryz.ntmps105,List.size_toArray,List.length_cons,List.length_nil,Nat.reduceAdd,Nat.reduceSub,Array.replicate_succ,Array.replicate_zero,List.push_toArray,List.append_toArray,List.nil_append,List.cons_append]
 gi_wp2
 gi_loopw [8] (fun i wr=>∃ k:Nat,k≤l.length∧i = .int .i64 k∧Hid (J (unitsOf (l.take k)) wr)∧Hid (∀ b,A=some b→wr.heap[b.block]?=W.heap[b.block]?)∧W.heap.size≤wr.heap.size) (fun i _=>l.length - (intOf i).toNat)
 case atStart=>exact ⟨0,by omega,rfl,h0,fun _ _=>rfl,Nat.le_refl _⟩
 case round =>
  clear h0 h1;obtain ⟨k,hk,rfl,HJ,HB,hsz⟩:=hrel;by_cases hltk:k<l.length
  ·obtain ⟨b,off,rfl,hb,hc⟩:=HA.out (by omega)
   have HV1:Hid (vk.ownBlock=some b):=by show _=_;rw [HVK.out (by intro e;rw [e] at hltk;simp at hltk)];rfl
   obtain ⟨p,hp⟩:=zal hltk;have hblk:wr.heap[b]?=W.heap[b]?:=HB.out _ rfl;have e0:wr.cell? ⟨b,off+k*3,none⟩=some (.bool p.ex):=(World.cell?_of_block (w:=W) hblk).trans (hc k _ hp 0 _ rfl);have e1:wr.cell? ⟨b,off+k*3+1,none⟩=some (.bool p.q):=(World.cell?_of_block (w:=W) hblk).trans (hc k _ hp 1 _ rfl);have e2:wr.cell? ⟨b,off+k*3+2,none⟩=some (.string (B p.text)):=(World.cell?_of_block (w:=W) hblk).trans (hc k _ hp 2 _ rfl);have hpt:=hlt p (List.mem_of_getElem? hp);have HS:=j7e (zik l k p hp);have HP:=j7e (zkn l (k+1));clear hblk hc hp;obtain ⟨ex,q,text⟩:=p;simp only at e0 e1 e2 hpt;by_cases htn:text=[]
   ·subst htn
    have hHU:unitsP ⟨ex,q,[]⟩=if q then [⟨0,true,true,false⟩] else []:=by unfold unitsP headU;cases q <;> rfl
    have HHU:=j7e hHU;have HXV:Hid ((⟨0,true,true,false⟩:Un).val = .agg #[.int .u8 0,.bool true,.bool true,.bool false]):=rfl;have HJ0:∀ cs:Array Value,Hid (J (unitsOf (l.take k)) (wr.alloc (.cells cs 138))):=fun cs=>HJA.out _ _ _ HJ.out (za (Below.refl _ _) _);have HB0:∀ cs:Array Value,Hid ((wr.alloc (.cells cs 138)).heap[b]?=W.heap[b]?):=fun cs=>(zu _ _ _ (by omega)).trans (HB.out _ rfl);have HJ0:=j7e HJ0;have HB0:=j7e HB0;clear hHU HJ HB;cases q
    ·gi_wp2
     gi_loopw [28] (fun i wr=>i = .int .i64 0∧Hid (J (unitsOf (l.take (k+1))) wr)∧Hid (wr.heap[b]?=W.heap[b]?)∧W.heap.size≤wr.heap.size) (fun _ _=>0)
     case atStart=>exact ⟨rfl,by show J _ _;rw [HS.out,HHU.out];simpa using (HJ0.out _).out,HB0.out _,by simp;omega⟩
     case round =>
      clear HJ0 HB0;obtain ⟨rfl,HJ,HB,hsz1⟩:=hrel
      gi_wp2
      go_roundw
      case rel=>exact ⟨k+1,by omega,by go_num,HJ.out,fun b' e=>by cases e;exact HB.out,hsz1⟩
      case measure=>simp [intOf];omega
    ·have hlen:(unitsOf (l.take k)).length<(unitsOf l).length:=by
      have h1:=HP.out.length_le;rw [HS.out,HHU.out] at h1;simp at h1;omega
     obtain ⟨fn,tmps,assign,body,hy,hR⟩:=HY.out _ ⟨0,true,true,false⟩ _ (HJ0.out #[.bool ex,.bool true,.string (B [])]).out hlen;rw [HXV.out] at hy
     gi_wp2
     refine hR.mono ?_;rintro e W3 (⟨rfl,hJ3,hk3⟩|⟨rfl,hJx3⟩)
     ·have hb3:=(hk3.g b (.inr HV1.out)).trans (HB0.out _).out
      have HB3:=j7e hb3;have hs3:=hk3.size;simp only [World.size_alloc] at hs3;have c2:=(World.cell?_of_block (w:=_) (hk3.t wr.heap.size _ (zac _ _ _) rfl)).trans (show World.cell? (wr.alloc (.cells #[.bool ex,.bool true,.string (B [])] 138)) ⟨wr.heap.size,2,none⟩=some (.string (B [])) by go_simp);have HJ3:=j7e hJ3;clear hJ3 hk3 hb3
      gi_wp2
      gi_loopw [28] (fun i wr=>i = .int .i64 0∧Hid (J (unitsOf (l.take (k+1))) wr)∧Hid (wr.heap[b]?=W.heap[b]?)∧W.heap.size≤wr.heap.size) (fun _ _=>0)
      case atStart=>exact ⟨rfl,by show J _ _;rw [HS.out,HHU.out];exact HJ3.out,HB3.out,by omega⟩
      case round =>
       clear HJ0 HB0;obtain ⟨rfl,HJ,HB,hsz1⟩:=hrel
       gi_wp2
       go_roundw
       case rel=>exact ⟨k+1,by omega,by go_num,HJ.out,fun b' e=>by cases e;exact HB.out,hsz1⟩
       case measure=>simp [intOf];omega
     ·have HJ3:=j7e hJx3
      clear hJx3
      gi_wp2
      refine bodyPost_ret (results_none rfl _ _ _) rfl ?_;refine ⟨⟨_,rfl⟩,.inr ⟨_,?_,HJ3.out⟩⟩;have h1:=HP.out;rw [HS.out,HHU.out] at h1;exact h1
   ·have ht1:(text == [])=false:=by simpa using htn
    have ht2:text.isEmpty=false:=by simpa using htn
    gi_wp2
    have hHU:unitsP ⟨ex,q,text⟩=text.map (byteU ⟨ex,q,text⟩):=by unfold unitsP headU;rw [if_neg (by simp [htn])];rfl
    have HHU:=j7e hHU;clear hHU htn ht1 ht2 e0 e1 e2
    obtain ⟨wo,hwo⟩:∃ wo,wo=wr.alloc (.cells #[.bool ex,.bool q,.string (B text)] 138):=⟨_,rfl⟩
    have HPB:Hid (PBox wo wr.heap.size ⟨ex,q,text⟩):=by rw [hwo];exact ⟨zac _ _ _,by go_simp,by go_simp,by go_simp⟩
    have HJ0:Hid (J (unitsOf (l.take k)) wo):=by rw [hwo];exact HJA.out _ _ _ HJ.out (za (Below.refl _ _) _)
    have HB0:Hid (wo.heap[b]?=W.heap[b]?):=by rw [hwo];exact (zu _ _ _ (by omega)).trans (HB.out _ rfl)
    have hsz0:W.heap.size≤wo.heap.size:=by rw [hwo];simp;omega
    have hpb:wr.heap.size<wo.heap.size:=by rw [hwo];simp
    rw [← hwo];clear hwo;generalize wr.heap.size=pb at *
    gi_loopw [28] (fun i wr=>∃ j:Nat,j≤text.length∧i = .int .i64 j∧Hid (J (unitsOf (l.take k)++(text.take j).map (byteU ⟨ex,q,text⟩)) wr)∧Hid (PBox wr pb ⟨ex,q,text⟩)∧Hid (wr.heap[b]?=W.heap[b]?)∧W.heap.size≤wr.heap.size) (fun i _=>text.length - (intOf i).toNat)
    case atStart=>exact ⟨0,by omega,rfl,by show J _ _;simpa using HJ0.out,HPB.out,HB0.out,hsz0⟩
    case round =>
     clear HPB HJ0 HB0 hsz0 hpb HJ HB;obtain ⟨j,hj,rfl,HJ,HPB,HB,hsz1⟩:=hrel;have c0:=HPB.out.c0;have c1:=HPB.out.c1;have c2:=HPB.out.c2;by_cases hlj:j<text.length
     ·have hx:text[j]?=some text[j]:=List.getElem?_eq_getElem hlj
      have HT:=j7e (zmb hx)
      have hlen:(unitsOf (l.take k)++(text.take j).map (byteU ⟨ex,q,text⟩)).length<(unitsOf l).length:=by
       have h1:=HP.out.length_le;rw [HS.out,HHU.out] at h1;simp only [List.length_append,List.length_map,List.length_take] at h1 ⊢;omega
      have HL:=j7e hlen;clear hx hlen
      haveI:Old wr pb:=⟨zv HPB.out.ty⟩
      have hj0:(0:Int)≤(j:Int):=by omega
      have hj1:(j:Int)<(text.length:Int):=by omega
      obtain ⟨x,hx⟩:∃ x,x=byteU ⟨ex,q,text⟩ text[j]:=⟨_,rfl⟩
      have HXV:Hid (x.val = .agg #[.int .u8 text[j].toNat,.bool false,.bool q,.bool (ex && !q)]):=by show _=_;rw [hx];rfl
      have HT2:Hid ((text.take (j+1)).map (byteU ⟨ex,q,text⟩)=(text.take j).map (byteU ⟨ex,q,text⟩)++[x]):=by show _=_;rw [HT.out,List.map_append,hx];rfl
      clear hx;cases ex
      all_goals
       gi_wp2
       (refine zaa 15 (za0) (by kernel_rfl) (by kernel_rfl) (by kernel_rfl) ?_;simp only [List.take_succ_cons,List.take_zero,List.drop_succ_cons,List.drop_zero];(repeat (go_big_quiet_step (fail)));refine wpQuiet_nil ?_;intro _ hw';obtain ⟨gq,hw''⟩:=hw';subst hw'')
       have HJg:=j7e (HJA.out _ _ _ HJ.out (zh wr gq));obtain ⟨fn,tmps,assign,body,hy,hR⟩:=HY.out _ x _ HJg.out HL.out;rw [HXV.out] at hy;simp only [Bool.false_and,Bool.true_and] at hy;have HPg:=j7e (HPB.out.grow gq)
       gi_wp2
       refine hR.mono ?_;rintro e W3 (⟨rfl,hJ3,hk3⟩|⟨rfl,hJx3⟩)
       ·have HP3:=j7e (HPg.out.keep hk3)
        have HJ3:=j7e hJ3;have hb3:=(hk3.g b (.inr HV1.out)).trans ((zed wr gq b (by omega)).trans HB.out);have HB3:=j7e hb3;have hs3:=hk3.size;clear hJ3 hk3 hb3
        gi_wp2
        go_roundw
        case rel=>exact ⟨j+1,by omega,by go_num,by show J _ _;rw [HT2.out,← List.append_assoc];exact HJ3.out,HP3.out,HB3.out,by have:=le_grow wr gq _ hsz1;omega⟩
        case measure=>simp [intOf];omega
       ·have HJ3:=j7e hJx3
        clear hJx3
        gi_wp2
        refine bodyPost_ret (results_none rfl _ _ _) rfl ?_;refine ⟨⟨_,rfl⟩,.inr ⟨_,?_,HJ3.out⟩⟩;have h1:=HP.out;rw [HS.out,HHU.out] at h1;refine List.IsPrefix.trans ?_ h1;rw [List.append_assoc,List.prefix_append_right_inj];rw [← HT2.out];exact (List.take_prefix _ _).map _
     ·have hje:j=text.length:=by omega
      have h3:Hid (J (unitsOf (l.take (k+1))) wr):=by show J _ _;rw [HS.out,HHU.out];have:=HJ.out;rw [hje,List.take_length] at this;exact this
      clear hje HJ HPB c0 c1 c2
      gi_wp2
      go_roundw
      case rel=>exact ⟨k+1,by omega,by go_num,h3.out,fun b' e=>by cases e;exact HB.out,hsz1⟩
      case measure=>simp [intOf];omega
  ·have hkl:k=l.length:=by omega
   have h3:=HJ.out;rw [hkl,List.take_length] at h3;have H3:=j7e h3;clear h3 HJ hkl
   gi_wp2
   go_end0
   exact ⟨⟨_,rfl⟩,.inl ⟨_,rfl,H3.out⟩⟩
theorem znw (v:Value) (w:World) (A:Option Addr) (n c:Nat) (hv:v = .slice A n c) :
  Calls Tryz.prog 65 #[v] w fun e w'=>e = .returned (.func (.func 105) #[] #[.pointer (some ⟨w.heap.size,0,none⟩)])∧w'=w.alloc (.cells #[v] 92):=by
 subst hv;go_enter Tryz.func65,Tryz.ntmps65;go_wp2;go_ret;exact ⟨rfl,rfl⟩
def readV (v:Value) (l:List Piece):Value:=if l=[] then .slice none 0 0 else v
theorem readV_lt {w:World} {v:Value} {l:List Piece} (h:Sl w Piece.cells 3 v l):∀ k,(readV v l).ownBlock=some k→k<w.heap.size:=by
 intro k hk;unfold readV at hk
 split at hk
 ·cases hk
 ·next hl =>
  obtain ⟨A,c,rfl,h2,h3,hn,h4⟩:=h;obtain ⟨b,off,rfl,hb,_⟩:=h4 (List.length_pos_iff.2 hl);cases hk;exact hb
theorem zko (v:Value) (l:List Piece) (w:World) (hv:Sl w Piece.cells 3 v l) (hl:l.length≤4294967296) (hlt:∀ p∈l,p.text.length≤4294967296) :
  GivesK Tryz.prog 105 #[.pointer (some ⟨w.heap.size,0,none⟩)] encU (keepU w.heap.size (readV v l)) (unitsOf l) (w.alloc (.cells #[v] 92)):=by
 intro n hn lab J Jx W hW hJ _ hY h0;refine units1 n hn lab _ v (readV v l) l (fun h=>if_neg h) hl hlt J Jx hY W (fun s A A' h hb=>hJ s A A' none h (za8 hb none) (fun r e=>by cases e)) ?_ (hv.below (zb (za (Below.refl _ _) _) hW)) h0;rw [hW.cell (by simp)];simp [go_sem]
open Go.ChangeShapes Go.WideShapes Go.Deep Go.RowKit
def byteC (b:UInt8):List Value:=[.int .u8 b.toNat]
theorem znx (ys:List UInt8) (j:Nat):(ys.flatMap byteC)[j]?=(ys[j]?).map fun y=>Value.int .u8 y.toNat:=by
 induction ys generalizing j with
 | nil=>simp
 | cons y ys ih =>
  cases j with
  | zero=>simp [byteC]
  | succ j=>simpa [byteC] using ih j
theorem zhd:(Tryz.prog.info? 5).map (fun i=>(i.zero,i.size,i.bytes))=some (some (.int .u8 0),1,1):=by kernel_rfl
theorem info_fd:(Tryz.prog.info? 68).map (fun i=>(i.zero,i.size,i.bytes))=some (some (.agg #[.string ByteArray.empty,.string ByteArray.empty]),2,32):=by kernel_rfl
theorem zil {w:World} {b0 n:Nat} {v:Value} {l:List UInt8} (h:Own w b0 1 v n (l.flatMap byteC)) (hn:n=l.length):(convert 97 9 v).run Tryz.prog w = .ok (.string (B l)) w:=by
 subst hn;rcases h.2 with ⟨h0,rfl|⟨g,off,rfl,hg⟩⟩|⟨g,off,c,rfl,h1,h2,h3,h4,h5,h6⟩
 ·have:l=[]:=List.eq_nil_of_length_eq_zero h0
  subst this;exact Lib.run_convert_nil_bytes w _ _ _ _ Tryz.underlying97 Tryz.underlying5 Tryz.underlying9
 ·have:l=[]:=List.eq_nil_of_length_eq_zero h0
  subst this;have:=Lib.run_convert_whole (P:=Tryz.prog) w _ _ _ Tryz.underlying97 Tryz.underlying5 Tryz.underlying9 g off (B []) (fun i hi=>by rw [B_size] at hi;simp at hi) 0;rw [B_size] at this;exact this
 ·have:=Lib.run_convert_whole (P:=Tryz.prog) w _ _ _ Tryz.underlying97 Tryz.underlying5 Tryz.underlying9 g off (B l) (fun i hi=>by
   rw [B_size] at hi;refine h6 i _ ?_;rw [znx,List.getElem?_eq_getElem hi]
   rfl) c
  rwa [B_size] at this
theorem Src.keeps {F:Nat→Prop} {w w':World} {x:Value} {m:Nat} {news:List Value} (h:Src w x m news) (hk:Keeps F w w') (hx:∀ k,x.ownBlock=some k→¬ F k):Src w' x m news:=by
 obtain ⟨A,c,e,h⟩:=h;refine ⟨A,c,e,?_⟩;rcases h with h|⟨a,e2,h⟩
 ·exact .inl h
 ·refine .inr ⟨a,e2,fun j u hj=>?_⟩
  have:=h j u hj;have hlt:=World.block_lt_of_cell? w _ this;have hb:=hk.block _ hlt (hx _ (by rw [e,e2];simp only [Value.ownBlock,Addr.add];split <;> rfl));rw [World.cell?_of_block (w:=w) hb];exact this
def mkF (w:World) (b0:Nat) (k:Nat):Prop:=b0≤k∧(tyOf w k=some 141∨tyOf w k=some 5∨tyOf w k=some 68)
def KeepsM (b0:Nat) (w w':World):Prop:=Keeps (mkF w b0) w w'
theorem KeepsM.refl (b0:Nat) (w:World):KeepsM b0 w w:=Keeps.refl _ _
theorem KeepsM.step {b0:Nat} {G:Nat→Prop} {w W W':World} (h:KeepsM b0 w W) (hk:Keeps G W W') (hG:∀ k,G k→k<W.heap.size→mkF W b0 k):KeepsM b0 w W' :=
 ⟨hk.os.trans h.os,hk.tape.trans h.tape,hk.output.trans h.output,Nat.le_trans h.size hk.size,
  fun k hlt hf=>(hk.block k (Nat.lt_of_lt_of_le hlt h.size) (fun hg=>hf (by
   have:=hG k hg (Nat.lt_of_lt_of_le hlt h.size);unfold mkF at *
   rwa [h.ty k hlt] at this))).trans (h.block k hlt hf),
  fun k hlt=>(hk.ty k (Nat.lt_of_lt_of_le hlt h.size)).trans (h.ty k hlt)⟩
theorem KeepsM.trans {b0:Nat} {w W W':World} (h:KeepsM b0 w W) (k:KeepsM b0 W W'):KeepsM b0 w W':=h.step k (fun _ hk _=>hk)
theorem KeepsM.below {b0:Nat} {w W W':World} (h:KeepsM b0 w W) (hb:Below W.heap.size W W'):KeepsM b0 w W':=h.step (Keeps.of_below (F:=fun _=>False) hb) (fun _ hk _=>hk.elim)
structure MkC (w:World) (b0 mb:Nat) (lv tv pv:Value) (begun mark:Bool):Prop where
 ge:b0≤mb
 ty:tyOf w mb=some 141
 c0:w.cell? ⟨mb,0,none⟩=some lv
 c1:w.cell? ⟨mb,1,none⟩=some tv
 c2:w.cell? ⟨mb,2,none⟩=some pv
 c3:w.cell? ⟨mb,3,none⟩=some (.bool begun)
 c4:w.cell? ⟨mb,4,none⟩=some (.bool mark)
 f0:∀ j,w.frozen? ⟨mb,j,none⟩=false
theorem MkC.lt {w:World} {b0 mb:Nat} {lv tv pv:Value} {g k:Bool} (h:MkC w b0 mb lv tv pv g k):mb<w.heap.size:=zv h.ty
theorem MkC.block {w w':World} {b0 mb:Nat} {lv tv pv:Value} {g k:Bool} (h:MkC w b0 mb lv tv pv g k) (hb:w'.heap[mb]?=w.heap[mb]?):MkC w' b0 mb lv tv pv g k :=
 ⟨h.ge,(zf hb).trans h.ty,(World.cell?_of_block (w:=w) hb).trans h.c0,(World.cell?_of_block (w:=w) hb).trans h.c1,(World.cell?_of_block (w:=w) hb).trans h.c2,(World.cell?_of_block (w:=w) hb).trans h.c3,(World.cell?_of_block (w:=w) hb).trans h.c4,
  fun j=>(World.frozen?_of_block (w:=w) hb).trans (h.f0 j)⟩
theorem MkC.below {w w':World} {b0 mb:Nat} {lv tv pv:Value} {g k:Bool} (h:MkC w b0 mb lv tv pv g k) (hb:Below w.heap.size w w'):MkC w' b0 mb lv tv pv g k:=h.block (hb.block mb h.lt)
theorem MkC.set0 {w:World} {b0 mb:Nat} {lv tv pv:Value} {g k:Bool} (h:MkC w b0 mb lv tv pv g k) (x:Value):MkC (w.setCell ⟨mb,0,none⟩ x) b0 mb x tv pv g k :=
 ⟨h.ge,(zaf _ _ _ _).trans h.ty,World.cell?_setCell_same' _ _ _ (by rw [h.c0];rfl),(World.cell?_setCell_other _ _ _ _ (by simp)).trans h.c1,(World.cell?_setCell_other _ _ _ _ (by simp)).trans h.c2,(World.cell?_setCell_other _ _ _ _ (by simp)).trans h.c3,(World.cell?_setCell_other _ _ _ _ (by simp)).trans h.c4,fun j=>(World.frozen?_setCell _ _ _ _).trans (h.f0 j)⟩
theorem MkC.set1 {w:World} {b0 mb:Nat} {lv tv pv:Value} {g k:Bool} (h:MkC w b0 mb lv tv pv g k) (x:Value):MkC (w.setCell ⟨mb,1,none⟩ x) b0 mb lv x pv g k :=
 ⟨h.ge,(zaf _ _ _ _).trans h.ty,(World.cell?_setCell_other _ _ _ _ (by simp)).trans h.c0,World.cell?_setCell_same' _ _ _ (by rw [h.c1];rfl),(World.cell?_setCell_other _ _ _ _ (by simp)).trans h.c2,(World.cell?_setCell_other _ _ _ _ (by simp)).trans h.c3,(World.cell?_setCell_other _ _ _ _ (by simp)).trans h.c4,fun j=>(World.frozen?_setCell _ _ _ _).trans (h.f0 j)⟩
theorem MkC.set2 {w:World} {b0 mb:Nat} {lv tv pv:Value} {g k:Bool} (h:MkC w b0 mb lv tv pv g k) (x:Value):MkC (w.setCell ⟨mb,2,none⟩ x) b0 mb lv tv x g k :=
 ⟨h.ge,(zaf _ _ _ _).trans h.ty,(World.cell?_setCell_other _ _ _ _ (by simp)).trans h.c0,(World.cell?_setCell_other _ _ _ _ (by simp)).trans h.c1,World.cell?_setCell_same' _ _ _ (by rw [h.c2];rfl),(World.cell?_setCell_other _ _ _ _ (by simp)).trans h.c3,(World.cell?_setCell_other _ _ _ _ (by simp)).trans h.c4,fun j=>(World.frozen?_setCell _ _ _ _).trans (h.f0 j)⟩
theorem MkC.set3 {w:World} {b0 mb:Nat} {lv tv pv:Value} {g k:Bool} (h:MkC w b0 mb lv tv pv g k) (x:Bool):MkC (w.setCell ⟨mb,3,none⟩ (.bool x)) b0 mb lv tv pv x k :=
 ⟨h.ge,(zaf _ _ _ _).trans h.ty,(World.cell?_setCell_other _ _ _ _ (by simp)).trans h.c0,(World.cell?_setCell_other _ _ _ _ (by simp)).trans h.c1,(World.cell?_setCell_other _ _ _ _ (by simp)).trans h.c2,World.cell?_setCell_same' _ _ _ (by rw [h.c3];rfl),(World.cell?_setCell_other _ _ _ _ (by simp)).trans h.c4,fun j=>(World.frozen?_setCell _ _ _ _).trans (h.f0 j)⟩
theorem MkC.set4 {w:World} {b0 mb:Nat} {lv tv pv:Value} {g k:Bool} (h:MkC w b0 mb lv tv pv g k) (x:Bool):MkC (w.setCell ⟨mb,4,none⟩ (.bool x)) b0 mb lv tv pv g x :=
 ⟨h.ge,(zaf _ _ _ _).trans h.ty,(World.cell?_setCell_other _ _ _ _ (by simp)).trans h.c0,(World.cell?_setCell_other _ _ _ _ (by simp)).trans h.c1,(World.cell?_setCell_other _ _ _ _ (by simp)).trans h.c2,(World.cell?_setCell_other _ _ _ _ (by simp)).trans h.c3,World.cell?_setCell_same' _ _ _ (by rw [h.c4];rfl),fun j=>(World.frozen?_setCell _ _ _ _).trans (h.f0 j)⟩
theorem KeepsM.set {b0 mb:Nat} {w W:World} (h:KeepsM b0 w W) (hg:b0≤mb) (hty:tyOf W mb=some 141) (j:Nat) (x:Value):KeepsM b0 w (W.setCell ⟨mb,j,none⟩ x) :=
 h.step (Keeps.setCell (F:=fun k=>k=mb) W (a:=⟨mb,j,none⟩) rfl x) (fun k hk _=>by subst hk;exact ⟨hg,.inl hty⟩)
structure MkO (w:World) (b0:Nat) (lv tv pv:Value) (l:List Fd) (text pat:List UInt8):Prop where
 ol:Own w b0 2 lv l.length (l.flatMap Fd.cells)
 ot:Own w b0 1 tv text.length (text.flatMap byteC)
 op:Own w b0 1 pv pat.length (pat.flatMap byteC)
 tl:TyS w lv 68
 tt:TyS w tv 5
 tp:TyS w pv 5
 ds:∀ k,tv.ownBlock=some k→pv.ownBlock≠some k
theorem MkO.keeps {F:Nat→Prop} {w w':World} {b0:Nat} {lv tv pv:Value} {l:List Fd} {text pat:List UInt8} (h:MkO w b0 lv tv pv l text pat) (hk:Keeps F w w') (hF:∀ k,F k→tyOf w k≠some 68∧tyOf w k≠some 5):MkO w' b0 lv tv pv l text pat :=
 ⟨h.ol.keeps hk (fun k e _ hf=>(hF k hf).1 (h.tl k e)),h.ot.keeps hk (fun k e _ hf=>(hF k hf).2 (h.tt k e)),h.op.keeps hk (fun k e _ hf=>(hF k hf).2 (h.tp k e)),
  h.tl.keeps h.ol.lt hk,h.tt.keeps h.ot.lt hk,h.tp.keeps h.op.lt hk,h.ds⟩
theorem MkO.below {w w':World} {b0:Nat} {lv tv pv:Value} {l:List Fd} {text pat:List UInt8} (h:MkO w b0 lv tv pv l text pat) (hb:Below w.heap.size w w'):MkO w' b0 lv tv pv l text pat :=
 h.keeps (Keeps.of_below (F:=fun _=>False) hb) (fun _ hf=>hf.elim)
theorem MkO.set {w:World} {b0 mb:Nat} {lv tv pv:Value} {l:List Fd} {text pat:List UInt8} (h:MkO w b0 lv tv pv l text pat) (hty:tyOf w mb=some 141) (j:Nat) (x:Value):MkO (w.setCell ⟨mb,j,none⟩ x) b0 lv tv pv l text pat :=
 h.keeps (Keeps.setCell (F:=fun k=>k=mb) w (a:=⟨mb,j,none⟩) rfl x) (fun k hk=>by subst hk;rw [hty];exact ⟨by decide,by decide⟩)
theorem MkO.appT {w w':World} {b0:Nat} {lv tv pv v':Value} {l:List Fd} {text pat text':List UInt8} (h:MkO w b0 lv tv pv l text pat) (ho:Own w' b0 1 v' text'.length (text'.flatMap byteC)) (hk:Keeps (fun k=>tv.ownBlock=some k∧b0≤k) w w')
  (hat:v'.ownBlock=tv.ownBlock∨∀ k,v'.ownBlock=some k→w.heap.size≤k) (hty:∀ k,v'.ownBlock=some k→w.heap.size≤k→tyOf w' k=some 5):MkO w' b0 lv v' pv l text' pat :=
 ⟨h.ol.keeps hk (fun k e _ hf=>by have:=(h.tl k e).symm.trans (h.tt k hf.1);revert this;decide),ho,h.op.keeps hk (fun k e _ hf=>h.ds k hf.1 e),h.tl.keeps h.ol.lt hk,h.tt.append h.ot.lt hk hat hty,h.tp.keeps h.op.lt hk,fun k e1 e2=>by
  rcases hat with e|e
  ·exact h.ds k (e ▸ e1) e2
  ·have:=e k e1;have:=h.op.lt k e2;omega⟩
theorem MkO.appP {w w':World} {b0:Nat} {lv tv pv v':Value} {l:List Fd} {text pat pat':List UInt8} (h:MkO w b0 lv tv pv l text pat) (ho:Own w' b0 1 v' pat'.length (pat'.flatMap byteC)) (hk:Keeps (fun k=>pv.ownBlock=some k∧b0≤k) w w')
  (hat:v'.ownBlock=pv.ownBlock∨∀ k,v'.ownBlock=some k→w.heap.size≤k) (hty:∀ k,v'.ownBlock=some k→w.heap.size≤k→tyOf w' k=some 5):MkO w' b0 lv tv v' l text pat' :=
 ⟨h.ol.keeps hk (fun k e _ hf=>by have:=(h.tl k e).symm.trans (h.tp k hf.1);revert this;decide),h.ot.keeps hk (fun k e _ hf=>h.ds k e hf.1),ho,h.tl.keeps h.ol.lt hk,h.tt.keeps h.ot.lt hk,h.tp.append h.op.lt hk hat hty,fun k e1 e2=>by
  rcases hat with e|e
  ·exact h.ds k e1 (e ▸ e2)
  ·have:=e k e2;have:=h.ot.lt k e1;omega⟩
theorem MkO.appL {w w':World} {b0:Nat} {lv tv pv v':Value} {l l':List Fd} {text pat:List UInt8} (h:MkO w b0 lv tv pv l text pat) (ho:Own w' b0 2 v' l'.length (l'.flatMap Fd.cells)) (hk:Keeps (fun k=>lv.ownBlock=some k∧b0≤k) w w')
  (hat:v'.ownBlock=lv.ownBlock∨∀ k,v'.ownBlock=some k→w.heap.size≤k) (hty:∀ k,v'.ownBlock=some k→w.heap.size≤k→tyOf w' k=some 68):MkO w' b0 v' tv pv l' text pat :=
 ⟨ho,h.ot.keeps hk (fun k e _ hf=>by have:=(h.tt k e).symm.trans (h.tl k hf.1);revert this;decide),h.op.keeps hk (fun k e _ hf=>by have:=(h.tp k e).symm.trans (h.tl k hf.1);revert this;decide),h.tl.append h.ol.lt hk hat hty,h.tt.keeps h.ot.lt hk,h.tp.keeps h.op.lt hk,h.ds⟩
structure MkAt (w:World) (b0 mb:Nat) (lv tv pv:Value) (m:Mk):Prop where
 c:MkC w b0 mb lv tv pv m.begun m.mark
 o:MkO w b0 lv tv pv m.l m.text m.pat
theorem MkAt.below {w w':World} {b0 mb:Nat} {lv tv pv:Value} {m:Mk} (h:MkAt w b0 mb lv tv pv m) (hb:Below w.heap.size w w'):MkAt w' b0 mb lv tv pv m:=⟨h.c.below hb,h.o.below hb⟩
structure UBox (W:World) (ub:Nat) (u:Un):Prop where
 ty:tyOf W ub=some 146
 c0:W.cell? ⟨ub,0,none⟩=some (.int .u8 u.b.toNat)
 c1:W.cell? ⟨ub,1,none⟩=some (.bool u.none)
 c2:W.cell? ⟨ub,2,none⟩=some (.bool u.quoted)
 c3:W.cell? ⟨ub,3,none⟩=some (.bool u.parts)
theorem UBox.block {w w':World} {ub:Nat} {u:Un} (h:UBox w ub u) (hb:w'.heap[ub]?=w.heap[ub]?):UBox w' ub u :=
 ⟨(zf hb).trans h.ty,(World.cell?_of_block (w:=w) hb).trans h.c0,(World.cell?_of_block (w:=w) hb).trans h.c1,(World.cell?_of_block (w:=w) hb).trans h.c2,(World.cell?_of_block (w:=w) hb).trans h.c3⟩
theorem UBox.keepsM {w w':World} {ub b0:Nat} {u:Un} (h:UBox w ub u) (hk:KeepsM b0 w w'):UBox w' ub u :=
 h.block (hk.block ub (zv h.ty) (fun hf=>by
  have:=hf.2;rw [h.ty] at this
  revert this
  decide))
theorem UBox.new (w:World) (u:Un):UBox (w.alloc (.cells #[.int .u8 u.b.toNat,.bool u.none,.bool u.quoted,.bool u.parts] 146)) w.heap.size u :=
 ⟨zac _ _ _,by go_simp,by go_simp,by go_simp,by go_simp⟩
structure AddSt (w W:World) (b0 mb ub:Nat) (lv tv pv T P:Value) (u:Un) (m:Mk) (text pat:List UInt8):Prop where
 c:MkC W b0 mb lv tv pv m.begun m.mark
 o:MkO W b0 lv T P m.l text pat
 k:KeepsM b0 w W
 u:UBox W ub u
theorem AddSt.below {w W W':World} {b0 mb ub:Nat} {lv tv pv T P:Value} {u:Un} {m:Mk} {text pat:List UInt8} (h:AddSt w W b0 mb ub lv tv pv T P u m text pat) (hb:Below W.heap.size W W'):AddSt w W' b0 mb ub lv tv pv T P u m text pat :=
 ⟨h.c.below hb,h.o.below hb,h.k.below hb,h.u.block (hb.block ub (zv h.u.ty))⟩
theorem AddSt.appT {w W W':World} {b0 mb ub:Nat} {lv tv pv T P v':Value} {u:Un} {m:Mk} {text pat text':List UInt8} (h:AddSt w W b0 mb ub lv tv pv T P u m text pat) (ho:Own W' b0 1 v' text'.length (text'.flatMap byteC)) (hk:Keeps (fun k=>T.ownBlock=some k∧b0≤k) W W')
  (hat:v'.ownBlock=T.ownBlock∨∀ k,v'.ownBlock=some k→W.heap.size≤k) (hty:∀ k,v'.ownBlock=some k→W.heap.size≤k→tyOf W' k=some 5):AddSt w W' b0 mb ub lv tv pv v' P u m text' pat :=
 ⟨h.c.block (hk.block mb h.c.lt (fun hf=>by have:=(h.o.tt mb hf.1).symm.trans h.c.ty;revert this;decide)),h.o.appT ho hk hat hty,h.k.step hk (fun k hf _=>⟨hf.2,.inr (.inl (h.o.tt k hf.1))⟩),
  h.u.block (hk.block ub (zv h.u.ty) (fun hf=>by have:=(h.o.tt ub hf.1).symm.trans h.u.ty;revert this;decide))⟩
theorem AddSt.appP {w W W':World} {b0 mb ub:Nat} {lv tv pv T P v':Value} {u:Un} {m:Mk} {text pat pat':List UInt8} (h:AddSt w W b0 mb ub lv tv pv T P u m text pat) (ho:Own W' b0 1 v' pat'.length (pat'.flatMap byteC)) (hk:Keeps (fun k=>P.ownBlock=some k∧b0≤k) W W')
  (hat:v'.ownBlock=P.ownBlock∨∀ k,v'.ownBlock=some k→W.heap.size≤k) (hty:∀ k,v'.ownBlock=some k→W.heap.size≤k→tyOf W' k=some 5):AddSt w W' b0 mb ub lv tv pv T v' u m text pat' :=
 ⟨h.c.block (hk.block mb h.c.lt (fun hf=>by have:=(h.o.tp mb hf.1).symm.trans h.c.ty;revert this;decide)),h.o.appP ho hk hat hty,h.k.step hk (fun k hf _=>⟨hf.2,.inr (.inl (h.o.tp k hf.1))⟩),
  h.u.block (hk.block ub (zv h.u.ty) (fun hf=>by have:=(h.o.tp ub hf.1).symm.trans h.u.ty;revert this;decide))⟩
end Go.Proofs.YtjcdmjdofdnaoaaGreatDoor
