/-
  The walk of the definition's layer 8 (literal): the pieces of a text; its bare text; whether it expands. Conditions: texts of at most 30000 bytes. (Printed by gen_pcs.py.)
-/
import Derived.Test.YtfmecpnokefokaaGreatDoorRefPar
import Derived.Test.YtfmecpnokefokaaGreatDoorRefOfA
set_option linter.unusedSimpArgs false
set_option linter.unusedVariables false
namespace Go.Proofs.YtfmecpnokefokaaGreatDoor.Li
open Go.ChangeShapes Go.WideShapes Go.Deep Go.RowKit Cls Md Mc Pa Pat
set_option maxRecDepth 100000
theorem _root_.Go.Proofs.YtfmecpnokefokaaGreatDoor.j7ub {p:Prop} (h:p):Go.RowKit.Hid p:=Go.Lib.hid h
theorem zid (pl:List UInt8):(flushP pl).length≤1:=by unfold flushP;split <;> simp
theorem zrn {s:List UInt8} {L:List Part} (f at_:Nat) (pl:List UInt8):(eachP s L f at_ pl).length≤f*(2*s.length+5)+1:=by
 induction f generalizing at_ pl with
 | zero=>simp [eachP]
 | succ f ih =>
  have hfl:=zid pl;rw [Nat.add_mul,Nat.one_mul];by_cases h1:at_<s.length
  ·cases hA:atP L at_ with
   | none =>
    rw [zcp h1 hA];have:=ih (at_+1) (pl++[s.getD at_ 0]);omega
   | some p =>
    rw [zbw h1 hA]
    split
    ·have:=ih p.fin (pl++subT s p.fr p.fin);omega
    split
    ·split
     ·have:=ih p.fin pl;omega
     ·have:=ih p.fin []
      rw [List.length_append,List.length_cons];omega
    split
    ·have:=ih p.fin []
     have h2:=zhg (s:=s) (L:=L) (tt:=insT p) (s.length+1) (insF p) [] false;rw [List.length_append,List.length_append];omega
    ·have:=ih p.fin []
     rw [List.length_append,List.length_cons];omega
  ·rw [zdf h1];omega
theorem zbj {s:List UInt8} (hs:s.length≤30000):(piecesL s).length≤2000000000:=by
 have h1:=zrn (s:=s) (L:=partsL s) (s.length+1) 0 [];have h2:(s.length+1)*(2*s.length+5)≤30001*60005:=Nat.mul_le_mul (by omega) (by omega);unfold piecesL;omega
structure PcI (s:List UInt8) (w:World) (at_ f:Nat) (pl:List UInt8) (xs:List Pc) (o:Value) (W:World):Prop where
 eq:∃ dn,piecesL s=dn++eachP s (partsL s) (f+1) at_ pl∧xs=dn++flushP pl
 ft:s.length≤at_+f
 own:Own W w.heap.size 3 o xs.length (xs.flatMap pcC)
 be:Below w.heap.size w W
 al:at_≤s.length
 pll:pl.length≤at_
theorem zlx {s:List UInt8} {at_ f:Nat} {pl:List UInt8} {dn:List Pc} (h:piecesL s=dn++eachP s (partsL s) (f+1) at_ pl) (hf:s.length≤at_+f) (hl:pl.length≤at_) (h1:at_<s.length) {t:List UInt8} {e:Nat}
  (hc:(atP (partsL s) at_=none∧t=[s.getD at_ 0]∧e=at_+1)∨∃ p,atP (partsL s) at_=some p∧(loneP p=true∨p.c=35)∧t=subT s p.fr p.fin∧e=p.fin) :
  ∃ f',piecesL s=dn++eachP s (partsL s) (f'+1) e (pl++t)∧s.length≤e+f'∧e≤s.length∧(pl++t).length≤e:=by
 obtain ⟨g,rfl⟩:∃ g,f=g+1:=⟨f - 1,by omega⟩
 rcases hc with ⟨hA,rfl,rfl⟩|⟨p,hA,hp,rfl,rfl⟩
 ·refine ⟨g,?_,by omega,by omega,by rw [List.length_append];simp;omega⟩
  rw [h,zcp h1 hA]
 ·obtain ⟨hm,he⟩:=za8 hA
  have hs:=zak s p hm;have hsub:=zba s p.fr p.fin hs.2;refine ⟨g,?_,by omega,hs.2,by rw [List.length_append,hsub];omega⟩;rw [h,zbw h1 hA,if_pos hp]
def partPc (s:List UInt8) (p:Part):List Pc :=
 if p.c=88∨p.c=83 then (match quoP s p with|none=>[]|some q=>[q]) else if p.c=68 then dblP s (partsL s) (insT p) (s.length+1) (insF p) [] false else [⟨true,false,subT s p.fr p.fin⟩]
theorem pc_part {s:List UInt8} {at_ f:Nat} {pl:List UInt8} {dn:List Pc} {p:Part} (h:piecesL s=dn++eachP s (partsL s) (f+1) at_ pl) (hf:s.length≤at_+f) (hl:pl.length≤at_) (h1:at_<s.length) (hA:atP (partsL s) at_=some p) (hp:¬ (loneP p=true∨p.c=35)) :
  ∃ f',s.length≤p.fin+f'∧p.fin≤s.length∧pl.length≤p.fin∧((partPc s p=[]∧(p.c=88∨p.c=83)∧piecesL s=dn++eachP s (partsL s) (f'+1) p.fin pl)∨(piecesL s=(dn++flushP pl++partPc s p)++eachP s (partsL s) (f'+1) p.fin []∧((p.c=88∨p.c=83)→∃ q,quoP s p=some q))):=by
 obtain ⟨g,rfl⟩:∃ g,f=g+1:=⟨f - 1,by omega⟩
 obtain ⟨hm,he⟩:=za8 hA;have hs:=zak s p hm;refine ⟨g,by omega,hs.2,by omega,?_⟩;rw [h,zbw h1 hA,if_neg hp];unfold partPc;by_cases c2:p.c=88∨p.c=83
 ·rw [if_pos c2,if_pos c2]
  cases hq:quoP s p with
  | none=>exact .inl ⟨rfl,c2,rfl⟩
  | some q=>exact .inr ⟨by simp,fun _=>⟨q,rfl⟩⟩
 ·rw [if_neg c2,if_neg c2]
  by_cases c3:p.c=68
  ·rw [if_pos c3,if_pos c3]
   exact .inr ⟨by simp,fun h=>absurd h c2⟩
  ·rw [if_neg c3,if_neg c3]
   exact .inr ⟨by simp,fun h=>absurd h c2⟩
theorem PcI.cnt {s:List UInt8} {w W:World} {at_ f:Nat} {pl:List UInt8} {xs:List Pc} {o:Value} (h:PcI s w at_ f pl xs o W) (hs:s.length≤30000):xs.length≤2000000001:=by
 obtain ⟨dn,h1,h2⟩:=h.eq;have h3:=zbj hs;have h4:=zid pl;rw [h1,List.length_append] at h3;rw [h2,List.length_append];omega
theorem PcI.start (s:List UInt8) (w:World):PcI s w 0 s.length [] [] (.slice none 0 0) w :=
 ⟨⟨[],rfl,rfl⟩,by omega,Own.nil _ _ _,Below.refl _ _,Nat.zero_le _,Nat.le_refl _⟩
set_option maxHeartbeats 16000000 in
theorem zkg (s:List UInt8) (w0:World) (hs:s.length≤30000):Calls Tryz.prog 38 #[.string (B s)] w0 (PlnP w0 (piecesL s)):=by
 obtain ⟨i0,hi0,hz00,hz01,hz02⟩:=info_parts zca;have HOF:=j7ub (refOf_any s w0 hs);rw [ofR_eq] at HOF;go_enter Tryz.func38,Tryz.ntmps38
 go_wp2_with (go_at_call 61;refine HOF.out.mono ?_;rintro e w ⟨vl,rfl,hown,-,hb⟩;have HL:=j7ub (hown.sl za2 rfl);have HB0:=j7ub hb;clear hown hb)
 have HF:=j7ub fun (pl:Nat) W (hb:Below w.heap.size w W)=>zgp (partsL s) (zct s) vl W (HL.out.below hb) pl;have HDB:=j7ub fun (a tt:Nat) (ha:a≤s.length) (ht:tt≤s.length) W (hb:Below w.heap.size w W)=>zkf s (partsL s) vl a tt W hs (HL.out.below hb) (zct s) (zak s) (parts_x s) ha ht;have HI:=j7ub (PcI.start s w)
 go_loopw [4,5,6] (fun o1 fr i wr=>∃ (at_ f:Nat) (pl:List UInt8) (xs:List Pc) (o:Value) (W1:World),o=o1∧W1=wr∧fr = .bool pl.isEmpty∧i = .int .i64 at_∧Hid (PcI s w at_ f pl xs o W1)) (fun _ _ i _=>s.length - (intOf i).toNat)
 case atStart=>exact ⟨0,_,[],[],_,_,rfl,rfl,rfl,rfl,HI⟩
 case round =>
  clear HI;obtain ⟨at_,f,pl,xs,o,W,rfl,rfl,rfl,rfl,HI⟩:=hrel;have hal:=HI.out.al;have hpl:=HI.out.pll;have hcn:=HI.out.cnt hs;obtain ⟨dn,hdn,hxe⟩:=HI.out.eq;have HXE:=j7ub hxe;clear hxe;have k0:(0:Int)≤(at_:Int):=by omega
  by_cases h1:at_<s.length
  ·have k1:(at_:Int)<(s.length:Int):=by omega
   have k2:(at_:Int)+1≤(s.length:Int):=by omega
   have HFD:=j7ub (HF.out at_ W HI.out.be)
   cases hA:atP (partsL s) at_ with
   | none =>
    rw [hA] at HFD;simp only [fdV] at HFD
    obtain ⟨t,ht⟩:∃ t,t=[s.getD at_ 0]:=⟨_,rfl⟩
    obtain ⟨f',hn,hn1,hn2,hn3⟩:=zlx hdn HI.out.ft hpl h1 (t:=t) (.inl ⟨hA,ht,rfl⟩);have HTL:=j7ub (show t.length≤30000 by rw [ht];simp);have HT:=j7ub (show t=(s.take (at_+1)).drop at_ by rw [ht,zhh h1]);have HTE:=j7ub (show t≠[] by rw [ht];simp);have HIE:=j7ub (show t.isEmpty=false by simpa using HTE.out);clear hdn hA ht;rcases pl with _|⟨pc,pr⟩
    ·have HPL:=j7ub fun W (hb:Below w.heap.size w W) (ho:Own W w.heap.size 3 o xs.length (xs.flatMap pcC))=>zf0 xs o t true W (ho.sl zaz rfl) (by omega) (.inr rfl)
     rw [HT.out] at HPL
     go_wp2_with (first
      | (go_at_call 62;refine HFD.out.mono ?_;rintro e w2 ⟨rfl,hb2⟩;have hwz2:=(zb HI.out.be hb2).size;have HB2:=j7ub (za (zb HI.out.be hb2) (.cells #[.int .i64 0,.int .i64 0,.int .i64 0,.int .i64 0,.bool false] 107));have HO2:=j7ub ((HI.out.own.below hb2).below (za (Below.refl _ _) (.cells #[.int .i64 0,.int .i64 0,.int .i64 0,.int .i64 0,.bool false] 107)));clear hb2)
      | (go_at_call 63;refine (HPL.out _ HB2.out HO2.out).mono ?_;rintro e w3 ⟨v3,rfl,ho3,hb3⟩;have HO3:=j7ub (ho3.mono HB2.out.size);have HB3:=j7ub (zb HB2.out hb3);clear ho3 hb3))
     go_roundw
     case rel=>exact ⟨at_+1,f',([]++t),(dn++flushP ([]++t)),_,_,rfl,rfl,by rw [List.nil_append,HIE.out],by go_num,j7ub ⟨⟨dn,hn,rfl⟩,hn1,by rw [show dn++flushP ([]++t)=xs++[⟨false,false,t⟩] by rw [HXE.out];simp [flushP,HTE.out]];rw [HT.out];exact HO3.out,HB3.out,hn2,hn3⟩⟩
     case measure=>simp [intOf];omega
    ·have HXE2:=j7ub (show xs=dn++[⟨false,false,pc :: pr⟩] by rw [HXE.out];rfl)
     have HPL:=j7ub fun W (hb:Below w.heap.size w W) (ho:Own W w.heap.size 3 o xs.length (xs.flatMap pcC))=>ze9 dn ⟨false,false,pc :: pr⟩ o t W (by rw [← HXE2.out];exact ho.sl zaz rfl) (by have:=congrArg List.length HXE2.out;rw [List.length_append] at this;omega) (by have h2:=HTL.out;show ((pc :: pr)++t).length≤_;rw [List.length_append];omega);rw [HT.out] at HPL
     go_wp2_with (first
      | (go_at_call 62;refine HFD.out.mono ?_;rintro e w2 ⟨rfl,hb2⟩;have hwz2:=(zb HI.out.be hb2).size;have HB2:=j7ub (za (zb HI.out.be hb2) (.cells #[.int .i64 0,.int .i64 0,.int .i64 0,.int .i64 0,.bool false] 107));have HO2:=j7ub ((HI.out.own.below hb2).below (za (Below.refl _ _) (.cells #[.int .i64 0,.int .i64 0,.int .i64 0,.int .i64 0,.bool false] 107)));clear hb2)
      | (go_at_call 63;refine (HPL.out _ HB2.out HO2.out).mono ?_;rintro e w3 ⟨v3,rfl,ho3,hb3⟩;have HO3:=j7ub (ho3.mono HB2.out.size);have HB3:=j7ub (zb HB2.out hb3);clear ho3 hb3))
     go_roundw
     case rel=>exact ⟨at_+1,f',(pc :: pr++t),(dn++flushP (pc :: pr++t)),_,_,rfl,rfl,rfl,by go_num,j7ub ⟨⟨dn,hn,rfl⟩,hn1,by rw [show dn++flushP (pc :: pr++t)=dn++[⟨false,false,pc :: pr++t⟩] by simp [flushP]];rw [HT.out];exact HO3.out,HB3.out,hn2,hn3⟩⟩
     case measure=>simp [intOf];omega
   | some p =>
    rw [hA] at HFD;simp only [fdV] at HFD;obtain ⟨hpm,hpf⟩:=za8 hA;have hso:=zak s p hpm;have hf1:at_<p.fin:=by omega
    have hf2:=hso.2;have k3:(at_:Int)≤(p.fin:Int):=by omega
    have k4:(p.fin:Int)≤(s.length:Int):=by omega
    have hex:=znr hpm;have hsh:=shut_fin hpm;subst hpf;clear hso;have htl:(subT s p.fr p.fin).length=p.fin - p.fr:=zba s p.fr p.fin hf2;by_cases hpn:loneP p=true∨p.c=35
    ·obtain ⟨t,ht⟩:∃ t,t=subT s p.fr p.fin:=⟨_,rfl⟩
     obtain ⟨f',hn,hn1,hn2,hn3⟩:=zlx hdn HI.out.ft hpl h1 (t:=t) (.inr ⟨p,hA,hpn,ht,rfl⟩);rw [← ht] at htl;have HTL:=j7ub (show t.length≤30000 by omega);have HT:=j7ub (show t=(s.take p.fin).drop p.fr from ht);have HTE:=j7ub (show t≠[] by intro e;rw [e] at htl;simp at htl;omega);have HIE:=j7ub (show t.isEmpty=false by simpa using HTE.out)
     have hg:(mo p.c == 14)=true∨((mo p.c == 14)=false∧(mo p.c == 12)=true∧((p.fin:Int) == (p.fr:Int)+1)=true):=by
      by_cases h35:p.c=35
      ·left;rw [mo_ne 35 p.c (by decide) 14 (by decide +kernel)];simpa using h35
      ·right
       have:=hpn.resolve_right h35;unfold loneP at this;simp only [Bool.and_eq_true,beq_iff_eq] at this;refine ⟨by rw [mo_ne 35 p.c (by decide) 14 (by decide +kernel)];simpa using h35,by rw [mo_ne 76 p.c (by decide) 12 (by decide +kernel)];simpa using this.1,by rw [this.2];simp⟩
     clear hdn hA ht htl hpn hex hsh;rcases hg with h14|⟨h14,h12,hto⟩
     all_goals
      rcases pl with _|⟨pc,pr⟩
      ·have HPL:=j7ub fun W (hb:Below w.heap.size w W) (ho:Own W w.heap.size 3 o xs.length (xs.flatMap pcC))=>zf0 xs o t true W (ho.sl zaz rfl) (by omega) (.inr rfl)
       rw [HT.out] at HPL
       go_wp2_with (first
        | (go_at_call 62;refine HFD.out.mono ?_;rintro e w2 ⟨rfl,hb2⟩;have hwz2:=(zb HI.out.be hb2).size;have HB2:=j7ub (za (zb HI.out.be hb2) (.cells #[.int .i64 (mo p.c),.int .i64 p.fr,.int .i64 p.fin,.int .i64 p.up,.bool p.op] 107));have HO2:=j7ub ((HI.out.own.below hb2).below (za (Below.refl _ _) (.cells #[.int .i64 (mo p.c),.int .i64 p.fr,.int .i64 p.fin,.int .i64 p.up,.bool p.op] 107)));clear hb2)
        | (go_at_call 63;refine (HPL.out _ HB2.out HO2.out).mono ?_;rintro e w3 ⟨v3,rfl,ho3,hb3⟩;have HO3:=j7ub (ho3.mono HB2.out.size);have HB3:=j7ub (zb HB2.out hb3);clear ho3 hb3))
       go_roundw
       case rel=>exact ⟨p.fin,f',([]++t),(dn++flushP ([]++t)),_,_,rfl,rfl,by rw [List.nil_append,HIE.out],rfl,j7ub ⟨⟨dn,hn,rfl⟩,hn1,by rw [show dn++flushP ([]++t)=xs++[⟨false,false,t⟩] by rw [HXE.out];simp [flushP,HTE.out]];rw [HT.out];exact HO3.out,HB3.out,hn2,hn3⟩⟩
       case measure=>simp [intOf];omega
      ·have HXE2:=j7ub (show xs=dn++[⟨false,false,pc :: pr⟩] by rw [HXE.out];rfl)
       have HPL:=j7ub fun W (hb:Below w.heap.size w W) (ho:Own W w.heap.size 3 o xs.length (xs.flatMap pcC))=>ze9 dn ⟨false,false,pc :: pr⟩ o t W (by rw [← HXE2.out];exact ho.sl zaz rfl) (by have:=congrArg List.length HXE2.out;rw [List.length_append] at this;omega) (by have h2:=HTL.out;show ((pc :: pr)++t).length≤_;rw [List.length_append];omega);rw [HT.out] at HPL
       go_wp2_with (first
        | (go_at_call 62;refine HFD.out.mono ?_;rintro e w2 ⟨rfl,hb2⟩;have hwz2:=(zb HI.out.be hb2).size;have HB2:=j7ub (za (zb HI.out.be hb2) (.cells #[.int .i64 (mo p.c),.int .i64 p.fr,.int .i64 p.fin,.int .i64 p.up,.bool p.op] 107));have HO2:=j7ub ((HI.out.own.below hb2).below (za (Below.refl _ _) (.cells #[.int .i64 (mo p.c),.int .i64 p.fr,.int .i64 p.fin,.int .i64 p.up,.bool p.op] 107)));clear hb2)
        | (go_at_call 63;refine (HPL.out _ HB2.out HO2.out).mono ?_;rintro e w3 ⟨v3,rfl,ho3,hb3⟩;have HO3:=j7ub (ho3.mono HB2.out.size);have HB3:=j7ub (zb HB2.out hb3);clear ho3 hb3))
       go_roundw
       case rel=>exact ⟨p.fin,f',(pc :: pr++t),(dn++flushP (pc :: pr++t)),_,_,rfl,rfl,rfl,rfl,j7ub ⟨⟨dn,hn,rfl⟩,hn1,by rw [show dn++flushP (pc :: pr++t)=dn++[⟨false,false,pc :: pr++t⟩] by simp [flushP]];rw [HT.out];exact HO3.out,HB3.out,hn2,hn3⟩⟩
       case measure=>simp [intOf];omega
    ·have h14:(mo p.c == 14)=false:=by rw [mo_ne 35 p.c (by decide) 14 (by decide +kernel)];simpa using fun e=>hpn (.inr e)
     have hlo:(mo p.c == 12)=false∨((mo p.c == 12)=true∧((p.fin:Int) == (p.fr:Int)+1)=false):=by
      by_cases hc:p.c=76
      ·right
       refine ⟨by rw [mo_ne 76 p.c (by decide) 12 (by decide +kernel)];simpa using hc,?_⟩;rw [beq_eq_false_iff_ne];intro e;apply hpn
       left
       unfold loneP;simp only [Bool.and_eq_true,beq_iff_eq];exact ⟨hc,by omega⟩
      ·left
       rw [mo_ne 76 p.c (by decide) 12 (by decide +kernel)];simpa using hc
     obtain ⟨f',hn1,hn2,hn3,hn⟩:=pc_part hdn HI.out.ft hpl h1 hA hpn;by_cases h88:p.c=88
     ·have h12:(mo p.c == 12)=false:=by rw [mo_ne 76 p.c (by decide) 12 (by decide +kernel),h88];decide
      have h13:(mo p.c == 13)=true:=by rw [mo_ne 88 p.c (by decide) 13 (by decide +kernel)];simpa using h88
      have hfx:=hex h88;by_cases h2:p.fin=p.fr+2
      ·have hlt1:p.fr+1<s.length:=by omega
       have k5:(p.fr:Int)+1<(s.length:Int):=by omega
       have k6:(p.fr:Int)+2≤(s.length:Int):=by omega
       have hto:((p.fin:Int) == (p.fr:Int)+2)=true:=by rw [h2];simp
       have hsub:subT s (p.fr+1) p.fin=[s[p.fr+1]]:=by
        unfold subT;rw [h2];exact one_at s (p.fr+1) hlt1
       by_cases hb:s[p.fr+1]=10
       ·have q10:=is_nb (n:=10) (k:=10) rfl hb
        have hq:quoP s p=none:=by unfold quoP;rw [if_neg (by rw [h88];decide),if_pos (.inr (by rw [hsub,hb]))]
        have hn':piecesL s=dn++eachP s (partsL s) (f'+1) p.fin pl:=by
         rcases hn with ⟨_,_,hn⟩|⟨_,hn⟩
         ·exact hn
         ·obtain ⟨q,h⟩:=hn (.inl h88);rw [hq] at h;cases h
        clear hdn hA hpn hex hsh hlo hn htl hsub hq hb hfx h88 h2
        go_wp2_with (go_at_call 62;refine HFD.out.mono ?_;rintro e w2 ⟨rfl,hb2⟩;have hwz2:=(zb HI.out.be hb2).size;have HB2:=j7ub (za (zb HI.out.be hb2) (.cells #[.int .i64 (mo p.c),.int .i64 p.fr,.int .i64 p.fin,.int .i64 p.up,.bool p.op] 107));have HO2:=j7ub ((HI.out.own.below hb2).below (za (Below.refl _ _) (.cells #[.int .i64 (mo p.c),.int .i64 p.fr,.int .i64 p.fin,.int .i64 p.up,.bool p.op] 107)));clear hb2)
        go_roundw
        case rel=>exact ⟨p.fin,f',pl,xs,o,_,rfl,rfl,rfl,rfl,j7ub ⟨⟨dn,hn',HXE.out⟩,hn1,HO2.out,HB2.out,hn2,hn3⟩⟩
        case measure=>simp [intOf];omega
       ·have q10:=not_nb (n:=10) (k:=10) rfl hb
        have hq:quoP s p=some ⟨false,true,[s[p.fr+1]]⟩:=by unfold quoP;rw [if_neg (by rw [h88];decide),if_neg (by rw [hsub];simp [hb]),hsub]
        have hpp:partPc s p=[⟨false,true,(s.take p.fin).drop (p.fr+1)⟩]:=by
         unfold partPc;rw [if_pos (.inl h88),hq,h2,show (s.take (p.fr+2)).drop (p.fr+1)=[s[p.fr+1]] from one_at s (p.fr+1) hlt1]
        have hn':piecesL s=(dn++flushP pl++[⟨false,true,(s.take p.fin).drop (p.fr+1)⟩])++eachP s (partsL s) (f'+1) p.fin []:=by
         rcases hn with ⟨hn,_,_⟩|⟨hn,_⟩
         ·rw [hpp] at hn;cases hn
         ·rw [← hpp];exact hn
        have k7:(p.fr:Int)+1≤(p.fin:Int):=by omega
        clear hdn hA hpn hex hsh hlo hn htl hsub hq hb hfx hpp h88 h2
        go_wp2_with (first
         | (go_at_call 62;refine HFD.out.mono ?_;rintro e w2 ⟨rfl,hb2⟩;have hwz2:=(zb HI.out.be hb2).size;have HB2:=j7ub (za (zb HI.out.be hb2) (.cells #[.int .i64 (mo p.c),.int .i64 p.fr,.int .i64 p.fin,.int .i64 p.up,.bool p.op] 107));have HO2:=j7ub ((HI.out.own.below hb2).below (za (Below.refl _ _) (.cells #[.int .i64 (mo p.c),.int .i64 p.fr,.int .i64 p.fin,.int .i64 p.up,.bool p.op] 107)));clear hb2)
         | ((at_builtin;refine zf _ rfl (.tmp 76) (.tmp 85) _ rfl w.heap.size 35 i0 _ 3 24 Tryz.underlying25 hi0 hz00 hz01 hz02 rfl (by decide) _ xs.length (xs.flatMap pcC) rfl (HO2.out.below (za (Below.refl _ _) _)) _ 1 [.bool false,.bool true,.string (B ((s.take p.fin).drop (p.fr+1)))] rfl rfl (zb8 _ _ _ _ _) (by simp [Value.oneCell']) (by unfold maxLen;omega) (by omega) (by first|(simp;done)|omega|(simp;omega)) ?_;intro v4 w4 hown4 hg4 hat4 hty4;have HTY4:=j7ub hty4;clear hty4);have HO4:=j7ub hown4;have HB4:=j7ub (ze (za HB2.out _) hg4 (fun k q=>q.2));clear hown4 hg4 hat4))
        go_roundw
        case rel=>exact ⟨p.fin,f',[],_,_,_,rfl,rfl,rfl,rfl,j7ub ⟨⟨_,hn',rfl⟩,hn1,by rw [← HXE.out];simpa [pcC,flushP] using HO4.out,HB4.out,hn2,Nat.zero_le _⟩⟩
        case measure=>simp [intOf];omega
      ·have hto:((p.fin:Int) == (p.fr:Int)+2)=false:=by rw [beq_eq_false_iff_ne];omega
       have hnil:subT s (p.fr+1) p.fin=[]:=by
        unfold subT;rw [List.drop_eq_nil_iff,List.length_take];omega
       have hq:quoP s p=none:=by
        unfold quoP;rw [if_neg (by rw [h88];decide),if_pos (.inl hnil)]
       have hn':piecesL s=dn++eachP s (partsL s) (f'+1) p.fin pl:=by
        rcases hn with ⟨_,_,hn⟩|⟨_,hn⟩
        ·exact hn
        ·obtain ⟨q,h⟩:=hn (.inl h88);rw [hq] at h;cases h
       clear hdn hA hpn hex hsh hlo hn htl hq h2 hfx h88 hnil
       go_wp2_with (go_at_call 62;refine HFD.out.mono ?_;rintro e w2 ⟨rfl,hb2⟩;have hwz2:=(zb HI.out.be hb2).size;have HB2:=j7ub (za (zb HI.out.be hb2) (.cells #[.int .i64 (mo p.c),.int .i64 p.fr,.int .i64 p.fin,.int .i64 p.up,.bool p.op] 107));have HO2:=j7ub ((HI.out.own.below hb2).below (za (Below.refl _ _) (.cells #[.int .i64 (mo p.c),.int .i64 p.fr,.int .i64 p.fin,.int .i64 p.up,.bool p.op] 107)));clear hb2)
       go_roundw
       case rel=>exact ⟨p.fin,f',pl,xs,o,_,rfl,rfl,rfl,rfl,j7ub ⟨⟨dn,hn',HXE.out⟩,hn1,HO2.out,HB2.out,hn2,hn3⟩⟩
       case measure=>simp [intOf];omega
     have h13:(mo p.c == 13)=false:=by rw [mo_ne 88 p.c (by decide) 13 (by decide +kernel)];simpa using h88
     have hins:p.c=83∨p.c=68→insF p=p.fr+1∧insT p=if p.op=true then p.fin else p.fin - 1:=by
      intro hc
      have h4:headI (mo p.c)=1:=by rcases hc with hc|hc <;> (rw [hc];decide +kernel)
      have h5:p.op=false→tailI (mo p.c) p.op=1:=fun h=>by rcases hc with hc|hc <;> (rw [hc,h];decide +kernel)
      unfold insT insF;rw [h4];refine ⟨rfl,?_⟩
      cases ho:p.op with
      | true =>
       have:tailI (mo p.c) true=0:=rfl;rw [this,if_pos rfl];omega
      | false =>
       have h6:=h5 ho;rw [ho] at h6;have h7:=hsh (by rcases hc with hc|hc <;> (rw [hc];decide)) ho;rw [h6,if_neg (by simp)];omega
     by_cases h83:p.c=83
     ·obtain ⟨e1,e2⟩:=hins (.inl h83)
      have h4:(mo p.c == 4)=true:=by rw [mo_ne 83 p.c (by decide) 4 (by decide +kernel)];simpa using h83
      have h12:(mo p.c == 12)=false:=by rw [mo_ne 76 p.c (by decide) 12 (by decide +kernel),h83];decide
      have hq:partPc s p=[⟨false,true,(s.take (insT p)).drop (p.fr+1)⟩]:=by
       unfold partPc quoP;rw [if_pos (.inr h83),if_pos h83,e1];rfl
      have hn':piecesL s=(dn++flushP pl++[⟨false,true,(s.take (insT p)).drop (p.fr+1)⟩])++eachP s (partsL s) (f'+1) p.fin []:=by
       rcases hn with ⟨hn,_,_⟩|⟨hn,_⟩
       ·rw [hq] at hn;cases hn
       ·rw [← hq];exact hn
      cases ho:p.op with
      | true =>
       rw [ho,if_pos rfl] at e2;rw [e2] at hn';rw [ho] at HFD;have k5:(p.fr:Int)+1≤(p.fin:Int):=by omega
       clear hdn hA hpn hex hsh hlo hn htl hq hins e1 e2 ho h83
       go_wp2_with (first
        | (go_at_call 62;refine HFD.out.mono ?_;rintro e w2 ⟨rfl,hb2⟩;have hwz2:=(zb HI.out.be hb2).size;have HB2:=j7ub (za (zb HI.out.be hb2) (.cells #[.int .i64 (mo p.c),.int .i64 p.fr,.int .i64 p.fin,.int .i64 p.up,.bool true] 107));have HO2:=j7ub ((HI.out.own.below hb2).below (za (Below.refl _ _) (.cells #[.int .i64 (mo p.c),.int .i64 p.fr,.int .i64 p.fin,.int .i64 p.up,.bool true] 107)));clear hb2)
        | ((at_builtin;refine zf _ rfl (.tmp 97) (.tmp 105) _ rfl w.heap.size 35 i0 _ 3 24 Tryz.underlying25 hi0 hz00 hz01 hz02 rfl (by decide) _ xs.length (xs.flatMap pcC) rfl (HO2.out.below (za (Below.refl _ _) _)) _ 1 [.bool false,.bool true,.string (B ((s.take p.fin).drop (p.fr+1)))] rfl rfl (zb8 _ _ _ _ _) (by simp [Value.oneCell']) (by unfold maxLen;omega) (by omega) (by first|(simp;done)|omega|(simp;omega)) ?_;intro v4 w4 hown4 hg4 hat4 hty4;have HTY4:=j7ub hty4;clear hty4);have HO4:=j7ub hown4;have HB4:=j7ub (ze (za HB2.out _) hg4 (fun k q=>q.2));clear hown4 hg4 hat4))
       go_roundw
       case rel=>exact ⟨p.fin,f',[],_,_,_,rfl,rfl,rfl,rfl,j7ub ⟨⟨_,hn',rfl⟩,hn1,by rw [← HXE.out];simpa [pcC,flushP] using HO4.out,HB4.out,hn2,Nat.zero_le _⟩⟩
       case measure=>simp [intOf];omega
      | false =>
       rw [ho,if_neg (by simp)] at e2;rw [e2] at hn';rw [ho] at HFD;have h7:=hsh (by rw [h83];decide) ho
       obtain ⟨fm,hfm⟩:∃ fm,p.fin=fm+1:=⟨p.fin - 1,by omega⟩
       have HFM:=j7ub hfm;rw [hfm,Nat.add_sub_cancel] at hn';rw [hfm] at HFD hf1 hf2 k3 k4 hn1 hn2 hn3 h7
       push_cast at HFD k3 k4
       clear hdn hA hpn hex hsh hlo hn htl hq hins e1 e2 ho hfm h83;have k5:(p.fr:Int)+1≤(fm:Int):=by omega
       have k6:(fm:Int)≤(s.length:Int):=by omega
       go_wp2_with (first
        | (go_at_call 62;refine HFD.out.mono ?_;rintro e w2 ⟨rfl,hb2⟩;have hwz2:=(zb HI.out.be hb2).size;have HB2:=j7ub (za (zb HI.out.be hb2) (.cells #[.int .i64 (mo p.c),.int .i64 p.fr,.int .i64 ((fm:Int)+1),.int .i64 p.up,.bool false] 107));have HO2:=j7ub ((HI.out.own.below hb2).below (za (Below.refl _ _) (.cells #[.int .i64 (mo p.c),.int .i64 p.fr,.int .i64 ((fm:Int)+1),.int .i64 p.up,.bool false] 107)));clear hb2)
        | ((at_builtin;refine zf _ rfl (.tmp 97) (.tmp 105) _ rfl w.heap.size 35 i0 _ 3 24 Tryz.underlying25 hi0 hz00 hz01 hz02 rfl (by decide) _ xs.length (xs.flatMap pcC) rfl (HO2.out.below (za (Below.refl _ _) _)) _ 1 [.bool false,.bool true,.string (B ((s.take fm).drop (p.fr+1)))] rfl rfl (zb8 _ _ _ _ _) (by simp [Value.oneCell']) (by unfold maxLen;omega) (by omega) (by first|(simp;done)|omega|(simp;omega)) ?_;intro v4 w4 hown4 hg4 hat4 hty4;have HTY4:=j7ub hty4;clear hty4);have HO4:=j7ub hown4;have HB4:=j7ub (ze (za HB2.out _) hg4 (fun k q=>q.2));clear hown4 hg4 hat4))
       go_roundw
       case rel=>exact ⟨fm+1,f',[],_,_,_,rfl,rfl,rfl,by go_num,j7ub ⟨⟨_,hn',rfl⟩,hn1,by rw [← HXE.out];simpa [pcC,flushP] using HO4.out,HB4.out,hn2,Nat.zero_le _⟩⟩
       case measure=>simp [intOf];omega
     have h4:(mo p.c == 4)=false:=by rw [mo_ne 83 p.c (by decide) 4 (by decide +kernel)];simpa using h83
     by_cases h68:p.c=68
     ·obtain ⟨e1,e2⟩:=hins (.inr h68)
      have h5:(mo p.c == 5)=true:=by rw [mo_ne 68 p.c (by decide) 5 (by decide +kernel)];simpa using h68
      have h12:(mo p.c == 12)=false:=by rw [mo_ne 76 p.c (by decide) 12 (by decide +kernel),h68];decide
      obtain ⟨ds,hds⟩:∃ ds,ds=dblP s (partsL s) (insT p) (s.length+1) (insF p) [] false:=⟨_,rfl⟩
      have hq:partPc s p=ds:=by
       unfold partPc;rw [if_neg (by rw [h68];decide),if_pos h68,hds]
      have hn':piecesL s=(dn++flushP pl++ds)++eachP s (partsL s) (f'+1) p.fin []:=by
       rcases hn with ⟨_,hn,_⟩|⟨hn,_⟩
       ·rw [h68] at hn;rcases hn with hn|hn <;> exact absurd hn (by decide)
       ·rw [← hq];exact hn
      have hdc:=zhg (s:=s) (L:=partsL s) (tt:=insT p) (s.length+1) (insF p) [] false;rw [← hds] at hdc
      cases ho:p.op with
      | true =>
       rw [ho,if_pos rfl] at e2;rw [ho] at HFD;have HDD:=j7ub fun W hb=>HDB.out (p.fr+1) p.fin (by omega) (by omega) W hb;rw [e1,e2] at hds;rw [← hds] at HDD;clear hdn hA hpn hex hsh hlo hn htl hq hins e1 e2 ho hds h68
       go_wp2_with (first
        | (go_at_call 62;refine HFD.out.mono ?_;rintro e w2 ⟨rfl,hb2⟩;have hwz2:=(zb HI.out.be hb2).size;have HB2:=j7ub (za (zb HI.out.be hb2) (.cells #[.int .i64 (mo p.c),.int .i64 p.fr,.int .i64 p.fin,.int .i64 p.up,.bool true] 107));have HO2:=j7ub ((HI.out.own.below hb2).below (za (Below.refl _ _) (.cells #[.int .i64 (mo p.c),.int .i64 p.fr,.int .i64 p.fin,.int .i64 p.up,.bool true] 107)));clear hb2)
        | (go_at_call 64;refine (HDD.out _ HB2.out).mono ?_;rintro e w3 ⟨v3,rfl,ho3,hb3⟩;have HS3:=j7ub ((ho3.sl zaz rfl).src zaz);have HO3:=j7ub (HO2.out.below hb3);have HB3:=j7ub (zb HB2.out hb3);have hwz3:=HB3.out.size;obtain ⟨A3,c3,rfl,-⟩:=ho3.form0;clear ho3 hb3)
        | ((at_builtin;refine zf _ rfl (.tmp 117) (.tmp 124) _ rfl w.heap.size 35 i0 _ 3 24 Tryz.underlying25 hi0 hz00 hz01 hz02 rfl (by decide) _ xs.length (xs.flatMap pcC) rfl HO3.out _ ds.length (ds.flatMap pcC) rfl (zc6 ds) HS3.out zb9 (by unfold maxLen;omega) (by omega) (by first|(simp;done)|omega|(simp;omega)) ?_;intro v4 w4 hown4 hg4 hat4 hty4;have HTY4:=j7ub hty4;clear hty4);have HO4:=j7ub hown4;have HB4:=j7ub (ze HB3.out hg4 (fun k q=>q.2));clear hown4 hg4 hat4))
       go_roundw
       case rel=>exact ⟨p.fin,f',[],_,_,_,rfl,rfl,rfl,rfl,j7ub ⟨⟨_,hn',rfl⟩,hn1,by rw [← HXE.out];simpa [flushP] using HO4.out,HB4.out,hn2,Nat.zero_le _⟩⟩
       case measure=>simp [intOf];omega
      | false =>
       rw [ho,if_neg (by simp)] at e2;rw [ho] at HFD;have h7:=hsh (by rw [h68];decide) ho
       obtain ⟨fm,hfm⟩:∃ fm,p.fin=fm+1:=⟨p.fin - 1,by omega⟩
       rw [hfm,Nat.add_sub_cancel] at e2;rw [hfm] at HFD hf1 hf2 k3 k4 hn1 hn2 hn3 h7 hn'
       push_cast at HFD k3 k4
       have HDD:=j7ub fun W hb=>HDB.out (p.fr+1) fm (by omega) (by omega) W hb;rw [e1,e2] at hds;rw [← hds] at HDD;clear hdn hA hpn hex hsh hlo hn htl hq hins e1 e2 ho hds hfm h68
       go_wp2_with (first
        | (go_at_call 62;refine HFD.out.mono ?_;rintro e w2 ⟨rfl,hb2⟩;have hwz2:=(zb HI.out.be hb2).size;have HB2:=j7ub (za (zb HI.out.be hb2) (.cells #[.int .i64 (mo p.c),.int .i64 p.fr,.int .i64 ((fm:Int)+1),.int .i64 p.up,.bool false] 107));have HO2:=j7ub ((HI.out.own.below hb2).below (za (Below.refl _ _) (.cells #[.int .i64 (mo p.c),.int .i64 p.fr,.int .i64 ((fm:Int)+1),.int .i64 p.up,.bool false] 107)));clear hb2)
        | (go_at_call 64;refine (HDD.out _ HB2.out).mono ?_;rintro e w3 ⟨v3,rfl,ho3,hb3⟩;have HS3:=j7ub ((ho3.sl zaz rfl).src zaz);have HO3:=j7ub (HO2.out.below hb3);have HB3:=j7ub (zb HB2.out hb3);have hwz3:=HB3.out.size;obtain ⟨A3,c3,rfl,-⟩:=ho3.form0;clear ho3 hb3)
        | ((at_builtin;refine zf _ rfl (.tmp 117) (.tmp 124) _ rfl w.heap.size 35 i0 _ 3 24 Tryz.underlying25 hi0 hz00 hz01 hz02 rfl (by decide) _ xs.length (xs.flatMap pcC) rfl HO3.out _ ds.length (ds.flatMap pcC) rfl (zc6 ds) HS3.out zb9 (by unfold maxLen;omega) (by omega) (by first|(simp;done)|omega|(simp;omega)) ?_;intro v4 w4 hown4 hg4 hat4 hty4;have HTY4:=j7ub hty4;clear hty4);have HO4:=j7ub hown4;have HB4:=j7ub (ze HB3.out hg4 (fun k q=>q.2));clear hown4 hg4 hat4))
       go_roundw
       case rel=>exact ⟨fm+1,f',[],_,_,_,rfl,rfl,rfl,by go_num,j7ub ⟨⟨_,hn',rfl⟩,hn1,by rw [← HXE.out];simpa [flushP] using HO4.out,HB4.out,hn2,Nat.zero_le _⟩⟩
       case measure=>simp [intOf];omega
     have h5:(mo p.c == 5)=false:=by rw [mo_ne 68 p.c (by decide) 5 (by decide +kernel)];simpa using h68
     have hq:partPc s p=[⟨true,false,(s.take p.fin).drop p.fr⟩]:=by
      unfold partPc;rw [if_neg (fun e=>e.elim h88 h83),if_neg h68];rfl
     have hn':piecesL s=(dn++flushP pl++[⟨true,false,(s.take p.fin).drop p.fr⟩])++eachP s (partsL s) (f'+1) p.fin []:=by
      rcases hn with ⟨hn,_,_⟩|⟨hn,_⟩
      ·rw [hq] at hn;cases hn
      ·rw [← hq];exact hn
     clear hdn hA hpn hex hsh hn htl hq hins h88 h83 h68;rcases hlo with h12|⟨h12,hto⟩
     all_goals
      go_wp2_with (first
       | (go_at_call 62;refine HFD.out.mono ?_;rintro e w2 ⟨rfl,hb2⟩;have hwz2:=(zb HI.out.be hb2).size;have HB2:=j7ub (za (zb HI.out.be hb2) (.cells #[.int .i64 (mo p.c),.int .i64 p.fr,.int .i64 p.fin,.int .i64 p.up,.bool p.op] 107));have HO2:=j7ub ((HI.out.own.below hb2).below (za (Below.refl _ _) (.cells #[.int .i64 (mo p.c),.int .i64 p.fr,.int .i64 p.fin,.int .i64 p.up,.bool p.op] 107)));clear hb2)
       | ((at_builtin;refine zf _ rfl (.tmp 126) (.tmp 134) _ rfl w.heap.size 35 i0 _ 3 24 Tryz.underlying25 hi0 hz00 hz01 hz02 rfl (by decide) _ xs.length (xs.flatMap pcC) rfl (HO2.out.below (za (Below.refl _ _) _)) _ 1 [.bool true,.bool false,.string (B ((s.take p.fin).drop p.fr))] rfl rfl (zb8 _ _ _ _ _) (by simp [Value.oneCell']) (by unfold maxLen;omega) (by omega) (by first|(simp;done)|omega|(simp;omega)) ?_;intro v4 w4 hown4 hg4 hat4 hty4;have HTY4:=j7ub hty4;clear hty4);have HO4:=j7ub hown4;have HB4:=j7ub (ze (za HB2.out _) hg4 (fun k q=>q.2));clear hown4 hg4 hat4))
      go_roundw
      case rel=>exact ⟨p.fin,f',[],_,_,_,rfl,rfl,rfl,rfl,j7ub ⟨⟨_,hn',rfl⟩,hn1,by rw [← HXE.out];simpa [pcC,flushP] using HO4.out,HB4.out,hn2,Nat.zero_le _⟩⟩
      case measure=>simp [intOf];omega
  ·rw [zdf h1] at hdn
   have HEQ:=j7ub (show piecesL s=xs by rw [hdn,HXE.out]);clear hdn;go_wp2;go_ret;exact ⟨_,rfl,by rw [HEQ.out];exact HI.out.own.mono HB0.out.size,zb HB0.out HI.out.be⟩
end Go.Proofs.YtfmecpnokefokaaGreatDoor.Li
