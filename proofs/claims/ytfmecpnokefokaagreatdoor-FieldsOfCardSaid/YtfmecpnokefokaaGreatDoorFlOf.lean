/-
  The walks of layer 26 (fields), on: By, Of; the document's By. Conditions: words of at most 30000 bytes; the library's variable MaxLen holds some number.
-/
import Derived.Test.YtfmecpnokefokaaGreatDoorFields8
import Derived.Test.YtfmecpnokefokaaGreatDoorFields
set_option linter.unusedSimpArgs false
set_option linter.unusedVariables false
namespace Go.Proofs.YtfmecpnokefokaaGreatDoor
open Go.ChangeShapes Go.WideShapes Go.Deep Go.RowKit
set_option maxRecDepth 100000
theorem _root_.Go.Proofs.YtfmecpnokefokaaGreatDoor.j7s {p:Prop} (h:p):Go.RowKit.Hid p:=Go.Lib.hid h
theorem u8_ne {a b:UInt8} (h:a≠b):((a.toNat:Int) == (b.toNat:Int))=false:=by
 rw [beq_eq_false_iff_ne];intro e;exact h (UInt8.toNat_inj.1 (by omega))
theorem in_any (b:UInt8) (s:List UInt8) (w:World) (hs:s.length≤4294967296):Calls Tryz.prog 54 #[.int .u8 b.toNat,.string (B s)] w fun e w'=>e = .returned (.bool (s.contains b))∧w=w':=by
 obtain ⟨r,hr⟩:∃ r,r=s.contains b:=⟨_,rfl⟩
 rw [← hr];have HRR:=j7s hr;clear hr;go_enter Tryz.func54,Tryz.ntmps54;go_wp2
 go_loop [5] (fun i=>∃ k:Nat,k≤s.length∧i = .int .i64 k∧Hid ((s.take k).contains b=false)) (fun i=>s.length - (intOf i).toNat)
 case atStart=>exact ⟨0,by omega,rfl,rfl⟩
 case round =>
  obtain ⟨k,hk,rfl,HR⟩:=hrel;by_cases hlt:k<s.length
  ·have HT:=j7s (show s.take (k+1)=s.take k++[s[k]] by rw [List.take_succ_eq_append_getElem hlt])
   have HM:=j7s (List.getElem_mem hlt);by_cases hx:s[k]=b
   ·have HX:=j7s hx
    have hx':((s[k].toNat:Int) == (b.toNat:Int))=true:=by rw [hx];simp
    clear hx;go_wp2;go_ret;refine ⟨?_,rfl⟩;have:s.contains b=true:=by rw [List.contains_iff_mem,← HX.out];exact HM.out
    rw [HRR.out,this];rfl
   ·have hx':=u8_ne hx
    have HX:=j7s hx;clear hx;go_wp2
    go_round
    case rel=>exact ⟨k+1,by omega,by go_num,by
     show _=false
     rw [HT.out,List.contains_append,HR.out,Bool.false_or]
     simpa using fun e=>HX.out e.symm⟩
    case measure=>simp [intOf];omega
  ·have hk':k=s.length:=by omega
   have h:=HR.out;rw [hk',List.take_length] at h;have H:=j7s h;clear h HR hk';go_wp2;go_ret;exact ⟨by rw [HRR.out,H.out];rfl,rfl⟩
structure RefI (w:World) (fb:Nat) (o:Value) (m:Mk) (wr:World):Prop where
 ge:w.heap.size≤fb
 lt:fb<wr.heap.size
 c0:wr.cell? ⟨fb,0,none⟩=some (.string (B m.text))
 c1:wr.cell? ⟨fb,1,none⟩=some (.string (B m.pat))
 f0:∀ j,wr.frozen? ⟨fb,j,none⟩=false
 own:Own wr w.heap.size 2 o m.l.length (m.l.flatMap Fd.cells)
 ne:o.ownBlock≠some fb
 bl:Below w.heap.size w wr
theorem RefI.below {w wr W:World} {fb:Nat} {o:Value} {m:Mk} (h:RefI w fb o m wr) (hb:Below wr.heap.size wr W):RefI w fb o m W:=by
 have e:=hb.block fb h.lt;exact ⟨h.ge,Nat.lt_of_lt_of_le h.lt hb.size,(World.cell?_of_block (w:=wr) e).trans h.c0,(World.cell?_of_block (w:=wr) e).trans h.c1,fun j=>(World.frozen?_of_block (w:=wr) e).trans (h.f0 j),h.own.below hb,h.ne,h.bl.trans (hb.mono h.bl.size)⟩
theorem RefI.keepF {w wr:World} {fb:Nat} {o:Value} {m:Mk} (h:RefI w fb o m wr) (j:Nat) (x:Value):Own (wr.setCell ⟨fb,j,none⟩ x) w.heap.size 2 o m.l.length (m.l.flatMap Fd.cells)∧Below w.heap.size w (wr.setCell ⟨fb,j,none⟩ x) :=
 ⟨h.own.keeps (Keeps.setCell (F:=fun k=>k=fb) wr (a:=⟨fb,j,none⟩) rfl x) (fun k e _ hf=>h.ne (by rw [e,hf])),zm h.bl h.ge _⟩
theorem RefI.set0 {w wr:World} {fb:Nat} {o:Value} {m:Mk} (h:RefI w fb o m wr) (x:List UInt8):RefI w fb o { m with text:=x } (wr.setCell ⟨fb,0,none⟩ (.string (B x))) :=
 ⟨h.ge,by simpa [World.setCell] using h.lt,World.cell?_setCell_same' _ _ _ (by rw [h.c0];rfl),(World.cell?_setCell_other _ _ _ _ (by simp)).trans h.c1,fun j=>(World.frozen?_setCell _ _ _ _).trans (h.f0 j),(h.keepF 0 _).1,h.ne,(h.keepF 0 _).2⟩
theorem RefI.set1 {w wr:World} {fb:Nat} {o:Value} {m:Mk} (h:RefI w fb o m wr) (x:List UInt8):RefI w fb o { m with pat:=x } (wr.setCell ⟨fb,1,none⟩ (.string (B x))) :=
 ⟨h.ge,by simpa [World.setCell] using h.lt,(World.cell?_setCell_other _ _ _ _ (by simp)).trans h.c0,World.cell?_setCell_same' _ _ _ (by rw [h.c1];rfl),fun j=>(World.frozen?_setCell _ _ _ _).trans (h.f0 j),(h.keepF 1 _).1,h.ne,(h.keepF 1 _).2⟩
theorem RefI.flags {w wr:World} {fb:Nat} {o:Value} {m:Mk} (h:RefI w fb o m wr) (g k:Bool):RefI w fb o { m with begun:=g,mark:=k } wr:=⟨h.ge,h.lt,h.c0,h.c1,h.f0,h.own,h.ne,h.bl⟩
theorem RefI.app {w wr W:World} {fb:Nat} {o o':Value} {m:Mk} {l':List Fd} (h:RefI w fb o m wr) (ho:Own W w.heap.size 2 o' l'.length (l'.flatMap Fd.cells)) (hk:Keeps (fun k=>o.ownBlock=some k∧w.heap.size≤k) wr W)
  (hat:o'.ownBlock=o.ownBlock∨∀ k,o'.ownBlock=some k→wr.heap.size≤k):RefI w fb o' { m with l:=l' } W:=by
 have e:=hk.block fb h.lt (fun hf=>h.ne hf.1);refine ⟨h.ge,Nat.lt_of_lt_of_le h.lt hk.size,(World.cell?_of_block (w:=wr) e).trans h.c0,(World.cell?_of_block (w:=wr) e).trans h.c1,fun j=>(World.frozen?_of_block (w:=wr) e).trans (h.f0 j),ho,fun e=>?_,ze h.bl hk (fun k hk=>hk.2)⟩;rcases hat with e1|e1
 ·exact h.ne (e1 ▸ e)
 ·have:=e1 _ e;have:=h.lt;omega
set_option maxHeartbeats 6400000 in
theorem zky (v:Value) (l:List Piece) (sp:List UInt8) (w:World) (hv:Sl w Piece.cells 3 v l) (hl:l.length≤4294967296) (hlt:∀ p∈l,p.text.length≤4294967296) (hu:(unitsOf l).length≤4294967296) (hsp:sp.length≤4294967296) :
  Calls Tryz.prog 34 #[v,.string (B sp)] w (SplitPost (splitF l sp) w):=by
 obtain ⟨i2,hi2,hz20,hz21,hz22⟩:=info_parts zm5;obtain ⟨A,c,rfl,hc1,hc2,hn0,hA⟩:=hv;have HA:=j7s hA;have HU:=j7s hu;have HPL:=j7s hlt;clear hA hn0 hu hlt;go_enter Tryz.func34,Tryz.ntmps34;go_wp2
 go_loopw [5,7,8,9] (fun o1 g mk i wr=>∃ (k:Nat) (m:Mk) (o:Value),k≤l.length∧o=o1∧i = .int .i64 k∧g = .bool m.begun∧mk = .bool m.mark∧Hid (m=foldM sp (unitsOf (l.take k)))∧Hid (RefI w w.heap.size o m wr)) (fun _ _ _ i _=>l.length - (intOf i).toNat)
 case atStart =>
  refine ⟨0,mk0,_,by omega,rfl,rfl,rfl,rfl,rfl,⟨Nat.le_refl _,by simp,by go_simp;rfl,by go_simp;rfl,fun j=>by simp [go_sem],Own.nil _ _ _,by simp [Value.ownBlock],zzb⟩⟩
 case round =>
  obtain ⟨k,m,o,hk,rfl,rfl,rfl,rfl,HM,HI⟩:=hrel;have hok:=mk_ok sp (unitsOf (l.take k));rw [← HM.out] at hok;have hpre:=(zdv l k).length_le;have hU:=HU.out;by_cases hlt:k<l.length
  ·obtain ⟨b,off,rfl,hb,hc⟩:=HA.out (by omega)
   obtain ⟨p,hp⟩:=zae hlt;have hbl:=HI.out.bl;have hge:=HI.out.ge;have e0:wr.cell? ⟨b,off+k*3,none⟩=some (.bool p.ex):=(hbl.cell (p:=⟨b,_,none⟩) hb).trans (hc k _ hp 0 _ rfl);have e1:wr.cell? ⟨b,off+k*3+1,none⟩=some (.bool p.q):=(hbl.cell (p:=⟨b,_,none⟩) hb).trans (hc k _ hp 1 _ rfl);have e2:wr.cell? ⟨b,off+k*3+2,none⟩=some (.string (B p.text)):=(hbl.cell (p:=⟨b,_,none⟩) hb).trans (hc k _ hp 2 _ rfl);have hpt:=HPL.out p (List.mem_of_getElem? hp);have HS:=j7s (zfg l k p hp);have hpre1:=(zdv l (k+1)).length_le
   have HCC:Hid (∀ W,Below w.heap.size w W→W.cell? ⟨b,off+k*3,none⟩=some (.bool p.ex)∧W.cell? ⟨b,off+k*3+1,none⟩=some (.bool p.q)∧W.cell? ⟨b,off+k*3+2,none⟩=some (.string (B p.text))):=fun W hW=>⟨(hW.cell (p:=⟨b,_,none⟩) hb).trans (hc k _ hp 0 _ rfl),(hW.cell (p:=⟨b,_,none⟩) hb).trans (hc k _ hp 1 _ rfl),(hW.cell (p:=⟨b,_,none⟩) hb).trans (hc k _ hp 2 _ rfl)⟩
   clear hc hp hok;obtain ⟨ex,q,text⟩:=p;simp only at e0 e1 e2 hpt;by_cases htn:text=[]
   ·subst htn
    have hz:([]:List UInt8).length=0:=rfl
    cases q with
    | true =>
     have HM1:Hid ({ m with begun:=true,mark:=false }=foldM sp (unitsOf (l.take (k+1)))):=by
      show _=_
      rw [HS.out];simp only [unitsP,headU,and_self,if_true,List.map_nil,List.append_nil];rw [zeg,← HM.out];simp [stepM,addM]
     have HI1:Hid (RefI w w.heap.size o { m with begun:=true,mark:=false } wr):=HI.out.flags true false;clear HM HI;go_wp2
     go_loopw [5,7,8,10] (fun o' g mk i wr'=>i = .int .i64 0∧o'=o∧g = .bool true∧mk = .bool false∧wr'=wr) (fun _ _ _ _ _=>0)
     case atStart=>exact ⟨rfl,rfl,rfl,rfl,rfl⟩
     case round =>
      obtain ⟨rfl,rfl,rfl,rfl,rfl⟩:=hrel;go_wp2;go_roundw
      case rel=>exact ⟨k+1,_,_,by omega,rfl,by go_num,rfl,rfl,HM1.out,HI1.out⟩
      case measure=>simp [intOf];omega
    | false =>
     have HM1:Hid (m=foldM sp (unitsOf (l.take (k+1)))):=by
      show _=_
      rw [HS.out];simp only [unitsP,headU,Bool.false_eq_true,and_false,if_false,List.map_nil,List.append_nil];exact HM.out
     clear HM;go_wp2
     go_loopw [5,7,8,10] (fun o' g mk i wr'=>i = .int .i64 0∧o'=o∧g = .bool m.begun∧mk = .bool m.mark∧wr'=wr) (fun _ _ _ _ _=>0)
     case atStart=>exact ⟨rfl,rfl,rfl,rfl,rfl⟩
     case round =>
      obtain ⟨rfl,rfl,rfl,rfl,rfl⟩:=hrel;go_wp2;go_roundw
      case rel=>exact ⟨k+1,_,_,by omega,rfl,by go_num,rfl,rfl,HM1.out,HI.out⟩
      case measure=>simp [intOf];omega
   ·have ht1:(text == [])=false:=by simpa using htn
    have ht2:text.isEmpty=false:=by simpa using htn
    have hlen:decide (text.length=0)=false:=no (by intro e;exact htn (List.eq_nil_of_length_eq_zero e));have HX:Hid (unitsP ⟨ex,q,text⟩=text.map (byteU ⟨ex,q,text⟩)):=by show _=_;unfold unitsP headU;rw [if_neg (by simp [htn])];rfl
    have HN:=j7s htn;clear htn;go_wp2
    go_loopw [5,7,8,10] (fun o1 g mk i wr=>∃ (j:Nat) (m:Mk) (o:Value),j≤text.length∧o=o1∧i = .int .i64 j∧g = .bool m.begun∧mk = .bool m.mark∧Hid (m=foldM sp (unitsOf (l.take k)++(text.take j).map (byteU ⟨ex,q,text⟩)))∧Hid (RefI w w.heap.size o m wr)) (fun _ _ _ i _=>text.length - (intOf i).toNat)
    case atStart=>exact ⟨0,m,o,by omega,rfl,rfl,rfl,rfl,by show _=_;simpa using HM.out,HI.out⟩
    case round =>
     clear HM HI hbl hge e0 e1 e2;obtain ⟨j,m,o,hj,rfl,rfl,rfl,rfl,HM,HI⟩:=hrel;have hbl:=HI.out.bl;have hge:=HI.out.ge;obtain ⟨e0,e1,e2⟩:=HCC.out _ hbl;by_cases hltj:j<text.length
     ·have hok:=mk_ok sp (unitsOf (l.take k)++(text.take j).map (byteU ⟨ex,q,text⟩))
      rw [← HM.out] at hok
      have hpre2:(unitsOf (l.take k)++(text.take j).map (byteU ⟨ex,q,text⟩)).length≤4294967296:=by
       have h1:=hpre1;rw [HS.out,HX.out] at h1;simp only [List.length_append,List.length_map,List.length_take] at h1 ⊢;omega
      have htl:m.text.length≤4294967296:=by have:=hok.t;omega
      have hpl:m.pat.length≤8589934592:=by have:=hok.p;omega
      have hll:m.l.length≤4294967296:=by have:=hok.l;omega
      have HE:=j7s hok.e;have HT:=j7s (zht (List.getElem?_eq_getElem hltj));have hone:=one_at text j hltj;have c0:=HI.out.c0;have c1:=HI.out.c1;have f0:=HI.out.f0;have hj0:(0:Int)≤(j:Int):=by omega
      have hj1:(j:Int)<(text.length:Int):=by omega
      have hi0:(0:Int)≤(k:Int):=by omega
      have hi1:(k:Int)<(l.length:Int):=by omega
      haveI:Old wr b:=⟨Nat.lt_of_lt_of_le hb hbl.size⟩
      haveI:Old wr w.heap.size:=⟨HI.out.lt⟩
      have HIN:=j7s (in_any text[j] sp wr hsp)
      have HM1:Hid (foldM sp (unitsOf (l.take k)++(text.take (j+1)).map (byteU ⟨ex,q,text⟩))=stepM sp m (byteU ⟨ex,q,text⟩ text[j])):=by
       show _=_
       rw [HT.out,List.map_append,← List.append_assoc];simp only [List.map_cons,List.map_nil];rw [zeg,← HM.out]
      have hwz:=hbl.size;clear hok hpre2 hpre1 hpre hU HM HT hbl;generalize hxj:text[j]=x at *
      cases ex with
      | false =>
       cases q with
       | false =>
        have HQ:Hid (stepM sp m (byteU ⟨false,false,text⟩ x)=addM m (byteU ⟨false,false,text⟩ x)):=by show _=_;simp [stepM,byteU]
        go_wp2
        (refine zg 12 (by kernel_rfl) (by kernel_rfl) ?_;simp only [List.take_succ_cons,List.take_zero,List.drop_succ_cons,List.drop_zero];(repeat (go_big_quiet_step (fail)));refine wpQuiet_nil ?_;intro _ hw';obtain ⟨gq,hw''⟩:=hw';subst hw'')
        go_wp2
        (refine zg 12 (by kernel_rfl) (by kernel_rfl) ?_;simp only [List.take_succ_cons,List.take_zero,List.drop_succ_cons,List.drop_zero];(repeat (go_big_quiet_step (fail)));refine wpQuiet_nil ?_;intro _ hw';obtain ⟨gq,hw''⟩:=hw';subst hw'')
        go_wp2;go_roundw
        case rel =>
         refine ⟨j+1,addM m (byteU ⟨false,false,text⟩ x),o,by omega,rfl,by go_num,rfl,rfl,by show _=_;rw [HM1.out,HQ.out],?_⟩;exact (((HI.out.set1 (m.pat++[x])).set0 (m.text++[x])).flags true false).below (zh _ _)
        case measure=>simp [intOf];omega
       | true =>
        have HQ:Hid (stepM sp m (byteU ⟨false,true,text⟩ x)=addM m (byteU ⟨false,true,text⟩ x)):=by show _=_;simp [stepM,byteU]
        go_wp2
        (refine zg 12 (by kernel_rfl) (by kernel_rfl) ?_;simp only [List.take_succ_cons,List.take_zero,List.drop_succ_cons,List.drop_zero];(repeat (go_big_quiet_step (fail)));refine wpQuiet_nil ?_;intro _ hw';obtain ⟨gq,hw''⟩:=hw';subst hw'')
        go_wp2
        (refine zg 12 (by kernel_rfl) (by kernel_rfl) ?_;simp only [List.take_succ_cons,List.take_zero,List.drop_succ_cons,List.drop_zero];(repeat (go_big_quiet_step (fail)));refine wpQuiet_nil ?_;intro _ hw';obtain ⟨gq,hw''⟩:=hw';subst hw'')
        go_wp2;go_roundw
        case rel =>
         refine ⟨j+1,addM m (byteU ⟨false,true,text⟩ x),o,by omega,rfl,by go_num,rfl,rfl,by show _=_;rw [HM1.out,HQ.out],?_⟩;exact ((((HI.out.set1 (m.pat++[92])).set1 (m.pat++[92,x])).set0 (m.text++[x])).flags true false).below (zh _ _)
        case measure=>simp [intOf];omega
      | true =>
       cases q with
       | true =>
        have HQ:Hid (stepM sp m (byteU ⟨true,true,text⟩ x)=addM m (byteU ⟨true,true,text⟩ x)):=by show _=_;simp [stepM,byteU]
        go_wp2
        (refine zg 12 (by kernel_rfl) (by kernel_rfl) ?_;simp only [List.take_succ_cons,List.take_zero,List.drop_succ_cons,List.drop_zero];(repeat (go_big_quiet_step (fail)));refine wpQuiet_nil ?_;intro _ hw';obtain ⟨gq,hw''⟩:=hw';subst hw'')
        go_wp2
        (refine zg 12 (by kernel_rfl) (by kernel_rfl) ?_;simp only [List.take_succ_cons,List.take_zero,List.drop_succ_cons,List.drop_zero];(repeat (go_big_quiet_step (fail)));refine wpQuiet_nil ?_;intro _ hw';obtain ⟨gq,hw''⟩:=hw';subst hw'')
        go_wp2;go_roundw
        case rel =>
         refine ⟨j+1,addM m (byteU ⟨true,true,text⟩ x),o,by omega,rfl,by go_num,rfl,rfl,by show _=_;rw [HM1.out,HQ.out],?_⟩;exact ((((HI.out.set1 (m.pat++[92])).set1 (m.pat++[92,x])).set0 (m.text++[x])).flags true false).below (zh _ _)
        case measure=>simp [intOf];omega
       | false =>
        cases hc:sp.contains x with
        | false =>
         rw [hc] at HIN;have HQ:Hid (stepM sp m (byteU ⟨true,false,text⟩ x)=addM m (byteU ⟨true,false,text⟩ x)):=by show _=_;simp only [stepM,byteU,hc];simp
         clear hc
         go_wp2_with ((go_at_call 54;refine (HIN.out).mono ?_;rintro e w' ⟨rfl,rfl⟩))
         (refine zg 12 (by kernel_rfl) (by kernel_rfl) ?_;simp only [List.take_succ_cons,List.take_zero,List.drop_succ_cons,List.drop_zero];(repeat (go_big_quiet_step (fail)));refine wpQuiet_nil ?_;intro _ hw';obtain ⟨gq,hw''⟩:=hw';subst hw'')
         go_wp2
         (refine zg 12 (by kernel_rfl) (by kernel_rfl) ?_;simp only [List.take_succ_cons,List.take_zero,List.drop_succ_cons,List.drop_zero];(repeat (go_big_quiet_step (fail)));refine wpQuiet_nil ?_;intro _ hw';obtain ⟨gq,hw''⟩:=hw';subst hw'')
         go_wp2;go_roundw
         case rel =>
          refine ⟨j+1,addM m (byteU ⟨true,false,text⟩ x),o,by omega,rfl,by go_num,rfl,rfl,by show _=_;rw [HM1.out,HQ.out],?_⟩;exact (((HI.out.set1 (m.pat++[x])).set0 (m.text++[x])).flags true false).below (zh _ _)
         case measure=>simp [intOf];omega
        | true =>
         rw [hc] at HIN;have HQ:Hid (stepM sp m (byteU ⟨true,false,text⟩ x)=sepM m (whiteB x)):=by show _=_;simp only [stepM,byteU,hc];simp
         clear hc;have h32:=u8eq32 x;have h9:=u8eq9 x;have h10:=u8eq10 x;have HW:Hid (whiteB x=(x == 32 || x == 9 || x == 10)):=rfl
         cases e32:x == 32 with
         | true =>
          rw [e32] at h32 HW;simp only [Bool.true_or] at HW;clear h9 h10 e32
          cases hb:m.begun with
          | true =>
           have HY:Hid (stepM sp m (byteU ⟨true,false,text⟩ x) = { endM m with mark:=true }):=by show _=_;rw [HQ.out,HW.out];simp [sepM,hb]
           go_wp2_with (first|(go_at_call 54;refine (HIN.out).mono ?_;rintro e w' ⟨rfl,rfl⟩)|((at_builtin;refine zf _ rfl (.tmp 116) (.tmp 118) _ rfl w.heap.size 95 i2 _ 2 32 Tryz.underlying57 hi2 hz20 hz21 hz22 rfl (by decide) _ m.l.length (m.l.flatMap Fd.cells) rfl (HI.out.own.below (za (Below.refl _ _) _)) _ 1 [.string (B m.text),.string (B m.pat)] rfl rfl (zv _ _ _ _ _ (by first|rfl|(simp;done)|omega)) (by simp [Value.oneCell']) (by unfold maxLen;omega) (by omega) (by first|(simp;done)|omega|(simp;omega)) ?_;intro v1 w1 hown1 hg1 hat1 hty1;have HTY1:=j7s hty1;clear hty1);have h1:=(HI.out.below (za (Below.refl _ _) _)).app (za9 hown1) hg1 hat1;have c10:=h1.c0;have c11:=h1.c1;have f1:=h1.f0;haveI:Old w1 w.heap.size:=⟨h1.lt⟩;have H1:=j7s h1;clear hown1 hg1 hat1 h1))
           go_roundw
           case rel=>exact ⟨j+1,{ endM m with mark:=true },v1,by omega,rfl,by go_num,rfl,rfl,by show _=_;rw [HM1.out,HY.out],((H1.out.set0 []).set1 []).flags false true⟩
           case measure=>simp [intOf];omega
          | false =>
           have HY:Hid (stepM sp m (byteU ⟨true,false,text⟩ x)=m):=by show _=_;rw [HQ.out,HW.out];simp [sepM,hb]
           go_wp2_with ((go_at_call 54;refine (HIN.out).mono ?_;rintro e w' ⟨rfl,rfl⟩))
           go_roundw
           case rel=>exact ⟨j+1,m,o,by omega,rfl,by go_num,by rw [hb],rfl,by show _=_;rw [HM1.out,HY.out],HI.out⟩
           case measure=>simp [intOf];omega
         | false =>
          rw [e32] at h32 HW
          cases e9:x == 9 with
          | true =>
           rw [e9] at h9 HW;simp only [Bool.false_or,Bool.true_or] at HW;clear h10 e32 e9
           cases hb:m.begun with
           | true =>
            have HY:Hid (stepM sp m (byteU ⟨true,false,text⟩ x) = { endM m with mark:=true }):=by show _=_;rw [HQ.out,HW.out];simp [sepM,hb]
            go_wp2_with (first|(go_at_call 54;refine (HIN.out).mono ?_;rintro e w' ⟨rfl,rfl⟩)|((at_builtin;refine zf _ rfl (.tmp 116) (.tmp 118) _ rfl w.heap.size 95 i2 _ 2 32 Tryz.underlying57 hi2 hz20 hz21 hz22 rfl (by decide) _ m.l.length (m.l.flatMap Fd.cells) rfl (HI.out.own.below (za (Below.refl _ _) _)) _ 1 [.string (B m.text),.string (B m.pat)] rfl rfl (zv _ _ _ _ _ (by first|rfl|(simp;done)|omega)) (by simp [Value.oneCell']) (by unfold maxLen;omega) (by omega) (by first|(simp;done)|omega|(simp;omega)) ?_;intro v1 w1 hown1 hg1 hat1 hty1;have HTY1:=j7s hty1;clear hty1);have h1:=(HI.out.below (za (Below.refl _ _) _)).app (za9 hown1) hg1 hat1;have c10:=h1.c0;have c11:=h1.c1;have f1:=h1.f0;haveI:Old w1 w.heap.size:=⟨h1.lt⟩;have H1:=j7s h1;clear hown1 hg1 hat1 h1))
            go_roundw
            case rel=>exact ⟨j+1,{ endM m with mark:=true },v1,by omega,rfl,by go_num,rfl,rfl,by show _=_;rw [HM1.out,HY.out],((H1.out.set0 []).set1 []).flags false true⟩
            case measure=>simp [intOf];omega
           | false =>
            have HY:Hid (stepM sp m (byteU ⟨true,false,text⟩ x)=m):=by show _=_;rw [HQ.out,HW.out];simp [sepM,hb]
            go_wp2_with ((go_at_call 54;refine (HIN.out).mono ?_;rintro e w' ⟨rfl,rfl⟩))
            go_roundw
            case rel=>exact ⟨j+1,m,o,by omega,rfl,by go_num,by rw [hb],rfl,by show _=_;rw [HM1.out,HY.out],HI.out⟩
            case measure=>simp [intOf];omega
          | false =>
           rw [e9] at h9 HW;simp only [Bool.false_or] at HW
           cases e10:x == 10 with
           | true =>
            rw [e10] at h10 HW;clear e32 e9 e10
            cases hb:m.begun with
            | true =>
             have HY:Hid (stepM sp m (byteU ⟨true,false,text⟩ x) = { endM m with mark:=true }):=by show _=_;rw [HQ.out,HW.out];simp [sepM,hb]
             go_wp2_with (first|(go_at_call 54;refine (HIN.out).mono ?_;rintro e w' ⟨rfl,rfl⟩)|((at_builtin;refine zf _ rfl (.tmp 116) (.tmp 118) _ rfl w.heap.size 95 i2 _ 2 32 Tryz.underlying57 hi2 hz20 hz21 hz22 rfl (by decide) _ m.l.length (m.l.flatMap Fd.cells) rfl (HI.out.own.below (za (Below.refl _ _) _)) _ 1 [.string (B m.text),.string (B m.pat)] rfl rfl (zv _ _ _ _ _ (by first|rfl|(simp;done)|omega)) (by simp [Value.oneCell']) (by unfold maxLen;omega) (by omega) (by first|(simp;done)|omega|(simp;omega)) ?_;intro v1 w1 hown1 hg1 hat1 hty1;have HTY1:=j7s hty1;clear hty1);have h1:=(HI.out.below (za (Below.refl _ _) _)).app (za9 hown1) hg1 hat1;have c10:=h1.c0;have c11:=h1.c1;have f1:=h1.f0;haveI:Old w1 w.heap.size:=⟨h1.lt⟩;have H1:=j7s h1;clear hown1 hg1 hat1 h1))
             go_roundw
             case rel=>exact ⟨j+1,{ endM m with mark:=true },v1,by omega,rfl,by go_num,rfl,rfl,by show _=_;rw [HM1.out,HY.out],((H1.out.set0 []).set1 []).flags false true⟩
             case measure=>simp [intOf];omega
            | false =>
             have HY:Hid (stepM sp m (byteU ⟨true,false,text⟩ x)=m):=by show _=_;rw [HQ.out,HW.out];simp [sepM,hb]
             go_wp2_with ((go_at_call 54;refine (HIN.out).mono ?_;rintro e w' ⟨rfl,rfl⟩))
             go_roundw
             case rel=>exact ⟨j+1,m,o,by omega,rfl,by go_num,by rw [hb],rfl,by show _=_;rw [HM1.out,HY.out],HI.out⟩
             case measure=>simp [intOf];omega
           | false =>
            rw [e10] at h10 HW;clear e32 e9 e10
            cases hb:m.begun with
            | true =>
             have HY:Hid (stepM sp m (byteU ⟨true,false,text⟩ x) = { endM m with mark:=false }):=by show _=_;rw [HQ.out,HW.out];simp [sepM,hb]
             go_wp2_with (first|(go_at_call 54;refine (HIN.out).mono ?_;rintro e w' ⟨rfl,rfl⟩)|((at_builtin;refine zf _ rfl (.tmp 116) (.tmp 118) _ rfl w.heap.size 95 i2 _ 2 32 Tryz.underlying57 hi2 hz20 hz21 hz22 rfl (by decide) _ m.l.length (m.l.flatMap Fd.cells) rfl (HI.out.own.below (za (Below.refl _ _) _)) _ 1 [.string (B m.text),.string (B m.pat)] rfl rfl (zv _ _ _ _ _ (by first|rfl|(simp;done)|omega)) (by simp [Value.oneCell']) (by unfold maxLen;omega) (by omega) (by first|(simp;done)|omega|(simp;omega)) ?_;intro v1 w1 hown1 hg1 hat1 hty1;have HTY1:=j7s hty1;clear hty1);have h1:=(HI.out.below (za (Below.refl _ _) _)).app (za9 hown1) hg1 hat1;have c10:=h1.c0;have c11:=h1.c1;have f1:=h1.f0;haveI:Old w1 w.heap.size:=⟨h1.lt⟩;have H1:=j7s h1;clear hown1 hg1 hat1 h1))
             go_roundw
             case rel=>exact ⟨j+1,{ endM m with mark:=false },v1,by omega,rfl,by go_num,rfl,rfl,by show _=_;rw [HM1.out,HY.out],((H1.out.set0 []).set1 []).flags false false⟩
             case measure=>simp [intOf];omega
            | false =>
             cases hk2:m.mark with
             | true =>
              have HY:Hid (stepM sp m (byteU ⟨true,false,text⟩ x) = { m with mark:=false }):=by show _=_;rw [HQ.out,HW.out];simp [sepM,hb,hk2]
              go_wp2_with ((go_at_call 54;refine (HIN.out).mono ?_;rintro e w' ⟨rfl,rfl⟩))
              go_roundw
              case rel=>exact ⟨j+1,{ m with mark:=false },o,by omega,rfl,by go_num,by rw [hb],rfl,by show _=_;rw [HM1.out,HY.out],HI.out.flags m.begun false⟩
              case measure=>simp [intOf];omega
             | false =>
              have HY:Hid (stepM sp m (byteU ⟨true,false,text⟩ x) = { m with l:=m.l++[⟨[],[]⟩] }):=by
               show _=_
               rw [HQ.out,HW.out];have:=HE.out hb;obtain ⟨ml,mt,mp,mg,mk⟩:=m;simp only at this hb hk2;simp [sepM,endM,hb,hk2,this.1,this.2]
              go_wp2_with (first|(go_at_call 54;refine (HIN.out).mono ?_;rintro e w' ⟨rfl,rfl⟩)|((at_builtin;refine zf _ rfl (.tmp 129) (.tmp 131) _ rfl w.heap.size 95 i2 _ 2 32 Tryz.underlying57 hi2 hz20 hz21 hz22 rfl (by decide) _ m.l.length (m.l.flatMap Fd.cells) rfl (HI.out.own.below (za (Below.refl _ _) _)) _ 1 [.string (B []),.string (B [])] rfl rfl (zv _ _ _ _ _ (by first|rfl|(simp;done)|omega)) (by simp [Value.oneCell']) (by unfold maxLen;omega) (by omega) (by first|(simp;done)|omega|(simp;omega)) ?_;intro v1 w1 hown1 hg1 hat1 hty1;have HTY1:=j7s hty1;clear hty1);have h1:=(HI.out.below (za (Below.refl _ _) _)).app (za9 hown1) hg1 hat1;have H1:=j7s h1;clear hown1 hg1 hat1 h1))
              go_roundw
              case rel=>exact ⟨j+1,{ m with l:=m.l++[⟨[],[]⟩] },v1,by omega,rfl,by go_num,by rw [hb],by rw [hk2],by show _=_;rw [HM1.out,HY.out],H1.out⟩
              case measure=>simp [intOf];omega
     ·have hje:j=text.length:=by omega
      have HM1:Hid (m=foldM sp (unitsOf (l.take (k+1)))):=by
       show _=_
       rw [HS.out,HX.out,HM.out,hje,List.take_length]
      clear HM;go_wp2;go_roundw
      case rel=>exact ⟨k+1,_,o,by omega,rfl,by go_num,rfl,rfl,HM1.out,HI.out⟩
      case measure=>simp [intOf];omega
  ·have hkl:k=l.length:=by omega
   have HF:=HM.out;rw [hkl,List.take_length] at HF;have hl2:m.l.length≤4294967296:=by have:=hok.l;omega
   replace HF:=j7s HF;have c0:=HI.out.c0;have c1:=HI.out.c1;have hge:=HI.out.ge;have hbl:=HI.out.bl.size
   haveI:Old wr w.heap.size:=⟨HI.out.lt⟩
   clear HM hkl
   cases hb:m.begun with
   | true =>
    have HX:=j7s (show splitF l sp=m.l++[⟨m.text,m.pat⟩] by unfold splitF outM;rw [← HF.out,hb];rfl)
    go_wp2_with ((at_builtin;refine zf _ rfl (.tmp 134) (.tmp 136) _ rfl w.heap.size 95 i2 _ 2 32 Tryz.underlying57 hi2 hz20 hz21 hz22 rfl (by decide) _ m.l.length (m.l.flatMap Fd.cells) rfl (HI.out.own.below (za (Below.refl _ _) _)) _ 1 [.string (B m.text),.string (B m.pat)] rfl rfl (zv _ _ _ _ _ (by first|rfl|(simp;done)|omega)) (by simp [Value.oneCell']) (by unfold maxLen;omega) (by omega) (by first|(simp;done)|omega|(simp;omega)) ?_;intro v1 w1 hown1 hg1 hat1 hty1;have HTY1:=j7s hty1;clear hty1);have hb1:=ze (za HI.out.bl _) hg1 (fun k hk=>hk.2);have HO1:=j7s (za9 hown1);have HB1:=j7s hb1;clear hown1 hg1 hat1 hb1)
    go_ret;exact ⟨_,rfl,by rw [HX.out];exact HO1.out,HB1.out⟩
   | false =>
    have HX:=j7s (show splitF l sp=m.l by unfold splitF outM;rw [← HF.out,hb];rfl);go_wp2;go_ret;exact ⟨_,rfl,by rw [HX.out];exact HI.out.own,HI.out.bl⟩
end Go.Proofs.YtfmecpnokefokaaGreatDoor
namespace Go.Proofs.YtfmecpnokefokaaGreatDoor.Ex
open Go.ChangeShapes Go.WideShapes Go.Deep Go.RowKit Cls Md Mc Pa Li Pat
set_option maxRecDepth 100000
def ifsL:List UInt8:=[73,70,83]
def byL (xs:List Tab.Ent):List UInt8:=match Tab.getE xs ifsL with
 | some x=>x.val
 | none=>[32,9,10]
theorem zp6 (xs:List Tab.Ent) (v:Value) (W:World) (hv:Sl W Tab.Ent.cells 2 v xs) (hx:xs.length≤1048576):Calls Tryz.prog 32 #[v] W fun e w'=>e = .returned (.string (B (byL xs)))∧W=w':=by
 have HG:=Tab.refGet_any xs v ifsL W hv hx;have HB:=j7s (show byL xs=match Tab.getE xs ifsL with|some x=>x.val|none=>[32,9,10] from rfl);generalize byL xs=R at *
 cases he:Tab.getE xs ifsL with
 | none =>
  rw [he] at HG HB;unfold Tab.getP at HG;have HG:=j7s HG;dsimp only at HB;clear he;go_enter Tryz.func32,Tryz.ntmps32
  go_wp2_with (go_at_call 21;refine HG.out.mono ?_;rintro e w1 ⟨rfl,rfl⟩)
  go_ret;exact ⟨by rw [HB.out];rfl,rfl⟩
 | some x =>
  rw [he] at HG HB;unfold Tab.getP at HG;have HG:=j7s HG;dsimp only at HB;clear he;go_enter Tryz.func32,Tryz.ntmps32
  go_wp2_with (go_at_call 21;refine HG.out.mono ?_;rintro e w1 ⟨rfl,rfl⟩)
  go_ret;exact ⟨by rw [HB.out];rfl,rfl⟩
theorem by_any (w0:World) (b0 tb:Nat) (lv:Value) (kind:Int) (xs:List Tab.Ent) (h:Tab.TabAt w0 b0 tb lv kind xs) (hr:Tab.Rises xs) (hx:xs.length≤1048576):Calls Tryz.prog 31 #[.pointer (some ⟨tb,0,none⟩)] w0 fun e w'=>e = .returned (.string (B (byL xs)))∧Below w0.heap.size w0 w':=by
 have HG:=Tab.get_any w0 b0 tb lv kind xs ifsL h hx;have HB:=j7s (show byL xs=match Tab.getE xs ifsL with|some x=>x.val|none=>[32,9,10] from rfl);rw [Tab.getE_eq hr] at HB;generalize byL xs=R at *
 cases ht:Tab.there xs ifsL with
 | false =>
  rw [ht] at HG HB;have HG:=j7s HG;rw [if_neg (by decide)] at HB;dsimp only at HB;clear ht;go_enter Tryz.func31,Tryz.ntmps31
  go_wp2_with (go_at_call 53;refine HG.out.mono ?_;rintro e w1 ⟨rfl,hb⟩;have HB1:=j7s hb;clear hb)
  go_ret;exact ⟨by rw [HB.out];rfl,HB1.out⟩
 | true =>
  have hv:Tab.valOf xs ifsL=R:=by
   have:=HB.out;rw [if_pos ht] at this;unfold Tab.valOf;rw [if_pos ht]
   cases hx:xs[Tab.place xs ifsL]? with
   | none =>
    unfold Tab.there at ht;rw [hx] at ht;cases ht
   | some x=>rw [hx] at this;exact this.symm
  rw [ht,hv] at HG;have HG:=j7s HG;clear ht hv HB;go_enter Tryz.func31,Tryz.ntmps31
  go_wp2_with (go_at_call 53;refine HG.out.mono ?_;rintro e w1 ⟨rfl,hb⟩;have HB1:=j7s hb;clear hb)
  go_ret;exact ⟨rfl,HB1.out⟩
def pcP (p:Pc):Piece:={ ex:=p.ex,q:=p.qu,text:=p.tx }
theorem zp7 (l:List Pc):(l.map pcP).flatMap Piece.cells=l.flatMap pcC:=by
 rw [List.flatMap_map];rfl
theorem zi7 {w:World} {b0:Nat} {v:Value} {l:List Pc} (h:Own w b0 3 v l.length (l.flatMap pcC)):Sl w Piece.cells 3 v (l.map pcP):=by
 rw [← zp7,← List.length_map (f:=pcP)] at h;exact h.sl (fun _ _=>rfl) rfl
theorem zgv:∀ l:List Pc,(unitsOf (l.map pcP)).length≤(txL l).length+l.length
 | []=>by simp [unitsOf]
 | p :: l=>by
  have ih:=zgv l
  have h1:(unitsP (pcP p)).length≤p.tx.length+1:=by
   unfold unitsP headU pcP;rw [List.length_append,List.length_map]
   split <;> simp <;> omega
  rw [List.map_cons];unfold unitsOf txL at *;rw [List.flatMap_cons,List.flatMap_cons,List.length_append,List.length_append,List.length_cons];omega
def OfFP (R:List Pc×Int) (sp:List UInt8) (w:World) (e:Ending) (w':World):Prop :=
 ∃ v,e = .returned (.tuple #[v,.int .i64 R.2])∧(R.2≠0→v = .slice none 0 0)∧(R.2=0→Own w' w.heap.size 2 v (splitF (R.1.map pcP) sp).length ((splitF (R.1.map pcP) sp).flatMap Fd.cells))∧Below w.heap.size w w'
theorem fdOf_any (w0:World) (tb:Nat) (s sp:List UInt8) (R:List Pc×Int) (hP:Calls Tryz.prog 12 #[.pointer (some ⟨tb,0,none⟩),.string (B s)] w0 (PcsP R w0)) (hc:R.1.length≤2000000000) (hl:(txL R.1).length≤1048576)
  (hB:∀ W,Below w0.heap.size w0 W→Calls Tryz.prog 31 #[.pointer (some ⟨tb,0,none⟩)] W fun e w'=>e = .returned (.string (B sp))∧Below W.heap.size W w') :
  Calls Tryz.prog 30 #[.pointer (some ⟨tb,0,none⟩),.string (B s)] w0 (OfFP R sp w0):=by
 obtain ⟨xs,er⟩:=R;dsimp only at hc hl;have HP:=j7s hP;have HB:=j7s hB;have hu:=zgv xs
 have HS:=j7s fun (v:Value) (W:World) (h:Own W w0.heap.size 3 v xs.length (xs.flatMap pcC))=>zi6 v (xs.map pcP) sp W (zi7 h) (by rw [List.length_map];omega) (fun p hp=>by
  obtain ⟨q,hq,rfl⟩:=List.mem_map.1 hp
  have:q.tx.length≤(txL xs).length:=by
   obtain ⟨a,b,e⟩:=List.append_of_mem hq;rw [e];simp [txL];omega
  show q.tx.length≤_
  omega) (by omega)
 unfold SplitPost at HS;clear hP hB hu hc hl;by_cases he:er=0
 ·subst he
  go_enter Tryz.func30,Tryz.ntmps30
  go_wp2_with (first
   | (go_at_call 12;refine HP.out.mono ?_;rintro e w1 ⟨v1,rfl,ho,hb⟩;dsimp only at ho;have HO:=j7s ho;have HB1:=j7s hb;clear ho hb)
   | (go_at_call 31;refine (HB.out _ HB1.out).mono ?_;rintro e w2 ⟨rfl,hb⟩;have HO2:=j7s (HO.out.below hb);have HB2:=j7s (zb HB1.out hb);clear hb)
   | (go_at_call 52;refine (HS.out _ _ HO2.out).mono ?_;rintro e w3 ⟨v3,rfl,ho,hb⟩;have HO3:=j7s (ho.mono HB2.out.size);have HB3:=j7s (zb HB2.out hb);clear ho hb))
  go_ret2;exact ⟨_,rfl,fun h=>absurd rfl h,fun _=>HO3.out,HB3.out⟩
 ·have e1:(er == 0)=false:=by simpa using he
  have e2:(er != 0)=true:=by simpa using he
  have HE:=j7s he;clear he;go_enter Tryz.func30,Tryz.ntmps30
  go_wp2_with (go_at_call 12;refine HP.out.mono ?_;rintro e w1 ⟨v1,rfl,ho,hb⟩;have HB1:=j7s hb;clear ho hb)
  go_ret2;exact ⟨_,rfl,fun _=>rfl,fun h=>absurd h HE.out,HB1.out⟩
end Go.Proofs.YtfmecpnokefokaaGreatDoor.Ex
