/-
  The walks of the definition's layer 4 (class), on: how long a name is, a parameter. Conditions: texts of at most 2^30 bytes.
-/
import Derived.Test.YtfmecpnokefokaaGreatDoorRefPc
import Derived.Test.YtfmecpnokefokaaGreatDoorMachB
import Derived.Test.YtfmecpnokefokaaGreatDoorLit1
import Derived.Test.YtfmecpnokefokaaGreatDoorPartsA
import Derived.Test.YtfmecpnokefokaaGreatDoorPat4
set_option linter.unusedSimpArgs false
set_option linter.unusedVariables false
namespace Go.Proofs.YtfmecpnokefokaaGreatDoor.Li
open Go.ChangeShapes Go.WideShapes Go.Deep Go.RowKit Cls Md Mc Pa Pat
set_option maxRecDepth 100000
theorem _root_.Go.Proofs.YtfmecpnokefokaaGreatDoor.j7sb {p:Prop} (h:p):Go.RowKit.Hid p:=Go.Lib.hid h
theorem zhg {s:List UInt8} {L:List Part} {tt:Nat} (f at_:Nat) (here:List UInt8) (x:Bool):(dblP s L tt f at_ here x).length≤2*f+1:=by
 induction f generalizing at_ here x with
 | zero=>simp [dblP]
 | succ f ih =>
  by_cases h1:at_<tt
  ·cases hA:atP L at_ with
   | none =>
    rw [zde h1 hA];have:=ih (at_+1) (here++[s.getD at_ 0]) x;omega
   | some k =>
    rw [zbq h1 hA]
    split
    ·have:=ih (at_+1) (here++[s.getD at_ 0]) x
     omega
    ·split
     ·have:=ih k.fin (here++escT s k) x
      omega
     ·have:=ih k.fin [] true
      rw [List.length_append,List.length_cons]
      have h5:(if here=[] then ([]:List Pc) else [⟨false,true,here⟩]).length≤1:=by
       split <;> simp
      omega
  ·rw [zej h1]
   split <;> simp
structure DbI (s:List UInt8) (L:List Part) (tt a:Nat) (w:World) (at_ f:Nat) (here:List UInt8) (x:Bool) (dn:List Pc) (o:Value) (W:World):Prop where
 eq:dblP s L tt (s.length+1) a [] false=dn++dblP s L tt (f+1) at_ here x
 ft:tt≤at_+f
 hx:x = !dn.isEmpty
 own:Own W w.heap.size 3 o dn.length (dn.flatMap pcC)
 be:Below w.heap.size w W
 hl:here.length≤at_
 al:at_≤s.length
section
variable {s : List UInt8} {L : List Part} {tt a : Nat} {w W W' : World} {at_ f : Nat} {here : List UInt8} {x : Bool} {dn : List Pc} {o o' : Value}
theorem DbI.below (h:DbI s L tt a w at_ f here x dn o W) (hb:Below W.heap.size W W'):DbI s L tt a w at_ f here x dn o W':=⟨h.eq,h.ft,h.hx,h.own.below hb,zb h.be hb,h.hl,h.al⟩
theorem DbI.cnt (h:DbI s L tt a w at_ f here x dn o W):dn.length≤2*s.length+3:=by
 have h1:=congrArg List.length h.eq;rw [List.length_append] at h1;have:=zhg (s:=s) (L:=L) (tt:=tt) (s.length+1) a [] false;omega
theorem DbI.plain (h:DbI s L tt a w at_ f here x dn o W) (h1:at_<tt) (ht:tt≤s.length) (hn:atP L at_=none∨∃ k,atP L at_=some k∧loneP k=true):∃ f',DbI s L tt a w (at_+1) f' (here++[s.getD at_ 0]) x dn o W:=by
 have h2:=h.ft
 obtain ⟨g,rfl⟩:∃ g,f=g+1:=⟨f - 1,by omega⟩
 refine ⟨g,?_,by omega,h.hx,h.own,h.be,by rw [List.length_append];have:=h.hl;simp;omega,by omega⟩;rw [h.eq];rcases hn with hn|⟨k,hn,hk⟩
 ·rw [zde h1 hn]
 ·rw [zbq h1 hn,if_pos hk]
theorem DbI.esc {k:Part} (h:DbI s L tt a w at_ f here x dn o W) (h1:at_<tt) (hS:Sound s L) (hn:atP L at_=some k) (hk:¬ loneP k=true) (hc:k.c=88):∃ f',DbI s L tt a w k.fin f' (here++escT s k) x dn o W:=by
 have h2:=h.ft;obtain ⟨hm,he⟩:=za8 hn;have hf:=hS k hm;have h3:=zgy s k hf.1
 obtain ⟨g,rfl⟩:∃ g,f=g+1:=⟨f - 1,by omega⟩
 refine ⟨g,?_,by omega,h.hx,h.own,h.be,by rw [List.length_append];have:=h.hl;omega,hf.2⟩;rw [h.eq,zbq h1 hn,if_neg hk,if_pos hc]
theorem DbI.exp {k:Part} (h:DbI s L tt a w at_ f here x dn o W) (h1:at_<tt) (hS:Sound s L) (hn:atP L at_=some k) (hk:¬ loneP k=true) (hc:¬ k.c=88)
  (ds:List Pc) (hd:ds=dn++(if here=[] then [] else [⟨false,true,here⟩])++[⟨true,true,subT s k.fr k.fin⟩]) (ho:Own W' w.heap.size 3 o' ds.length (ds.flatMap pcC)) (hb:Below w.heap.size w W'):∃ f',DbI s L tt a w k.fin f' [] true ds o' W':=by
 have h2:=h.ft;obtain ⟨hm,he⟩:=za8 hn;have hf:=hS k hm
 obtain ⟨g,rfl⟩:∃ g,f=g+1:=⟨f - 1,by omega⟩
 refine ⟨g,?_,by omega,?_,ho,hb,by simp,hf.2⟩
 ·rw [h.eq,zbq h1 hn,if_neg hk,if_neg hc,hd]
  simp
 ·rw [hd]
  cases dn <;> simp
end
theorem zhh {s:List UInt8} {i:Nat} (h:i<s.length):(s.take (i+1)).drop i=[s.getD i 0]:=by
 rw [one_at s i h,List.getD_eq_getElem?_getD,List.getElem?_eq_getElem h];rfl
theorem DbI.start (s:List UInt8) (L:List Part) (tt a:Nat) (w:World) (ht:tt≤s.length) (ha:a≤s.length):DbI s L tt a w a s.length [] false [] (.slice none 0 0) w :=
 ⟨rfl,by omega,rfl,Own.nil _ _ _,Below.refl _ _,by simp,ha⟩
theorem escT_two {s:List UInt8} {k:Part} {a:Nat} {b:UInt8} (he:k.fr=a) (hf:k.fin=a+2) (hb:s.getD (a+1) 0=b):escT s k=if escB b.toNat=true then [b] else if ((b.toNat:Int) == 10)=true then [] else (s.take (a+2)).drop a:=by
 unfold escT subT;rw [he,hf,if_neg (by omega),hb]
theorem escT_one {s:List UInt8} {k:Part} {a:Nat} (he:k.fr=a) (hf:k.fin<a+2):escT s k=[]:=by
 unfold escT;rw [he,if_pos hf]
set_option maxHeartbeats 8000000 in
theorem zkf (s:List UInt8) (L:List Part) (vl:Value) (a tt:Nat) (w:World) (hs:s.length≤30000) (h:Sl w partC 5 vl L) (hR:(L.map (·.fr)).Pairwise (· < ·)) (hS:Sound s L) (hX:XShort L) (ha:a≤s.length) (ht:tt≤s.length) :
  Calls Tryz.prog 64 #[.string (B s),vl,.int .i64 a,.int .i64 tt] w (PlnP w (dblP s L tt (s.length+1) a [] false)):=by
 obtain ⟨i0,hi0,hz00,hz01,hz02⟩:=info_parts zca;have HF:=j7sb fun (pl:Nat) W (hb:Below w.heap.size w W)=>zgp L hR vl W (h.below hb) pl;have HSO:=j7sb hS;have HXS:=j7sb hX;have HI:=j7sb (DbI.start s L tt a w ht ha);clear hR hS hX h;go_enter Tryz.func64,Tryz.ntmps64;go_wp2
 go_loopw [9,10,11] (fun o1 h1 i wr=>∃ (at_ f:Nat) (here:List UInt8) (x:Bool) (dn:List Pc) (o:Value) (W1:World),o=o1∧W1=wr∧h1 = .string (B here)∧i = .int .i64 at_∧Hid (DbI s L tt a w at_ f here x dn o W1)) (fun _ _ i _=>tt - (intOf i).toNat)
 case atStart=>exact ⟨a,_,[],false,[],_,_,rfl,rfl,rfl,rfl,HI⟩
 case round =>
  clear HI;obtain ⟨at_,f,here,x,dn,o,W,rfl,rfl,rfl,rfl,HI⟩:=hrel;have hal:=HI.out.al;have hhl:=HI.out.hl;have k0:(0:Int)≤(at_:Int):=by omega
  by_cases h1:at_<tt
  ·have k1:(at_:Int)<(tt:Int):=by omega
   have k2:(at_:Int)+1≤(s.length:Int):=by omega
   have HFD:=j7sb (HF.out at_ W HI.out.be);have HONE:=j7sb (zhh (s:=s) (i:=at_) (by omega));have s1:¬ 9223372036854775807<here.length+((s.take (at_+1)).drop at_).length:=by rw [HONE.out];simp;omega
   cases hA:atP L at_ with
   | none =>
    rw [hA] at HFD;simp only [fdV] at HFD;obtain ⟨f',hn⟩:=HI.out.plain h1 ht (.inl hA);have HN:=j7sb hn;clear hn hA
    go_wp2_with (go_at_call 62;refine HFD.out.mono ?_;rintro e w2 ⟨rfl,hb2⟩;have HN2:=j7sb (HN.out.below hb2);clear hb2)
    go_roundw
    case rel=>exact ⟨at_+1,f',_,x,dn,o,_,rfl,rfl,by rw [HONE.out],by go_num,j7sb (HN2.out.below (za (Below.refl _ _) _))⟩
    case measure=>simp [intOf];omega
   | some k =>
    rw [hA] at HFD;simp only [fdV] at HFD;obtain ⟨hkm,hkf⟩:=za8 hA;have hso:=HSO.out k hkm;have hxs:=HXS.out k hkm;have HKF:=j7sb hkf;have hf1:at_<k.fin:=by omega
    have hf2:=hso.2;clear hso hkf;by_cases hlone:loneP k=true
    ·obtain ⟨f',hn⟩:=HI.out.plain h1 ht (.inr ⟨k,hA,hlone⟩)
     have HN:=j7sb hn
     have hl2:k.c=76∧k.fin=at_+1:=by
      unfold loneP at hlone;simp only [Bool.and_eq_true,beq_iff_eq] at hlone;have:=HKF.out;exact ⟨hlone.1,by omega⟩
     have h12:(mo k.c == 12)=true:=by rw [mo_ne 76 k.c (by decide) 12 (by decide +kernel)];simpa using hl2.1
     have hto:((k.fin:Int) == (at_:Int)+1)=true:=by rw [hl2.2];simp
     clear hn hA hlone hl2 hxs
     go_wp2_with (go_at_call 62;refine HFD.out.mono ?_;rintro e w2 ⟨rfl,hb2⟩;have HN2:=j7sb (HN.out.below hb2);clear hb2)
     go_roundw
     case rel=>exact ⟨at_+1,f',_,x,dn,o,_,rfl,rfl,by rw [HONE.out],by go_num,j7sb (HN2.out.below (za (Below.refl _ _) _))⟩
     case measure=>simp [intOf];omega
    by_cases h88:k.c=88
    ·obtain ⟨f',hn⟩:=HI.out.esc h1 HSO.out hA hlone h88
     have hfx:=hxs h88;have hkf:=HKF.out;have h12:(mo k.c == 12)=false:=by rw [mo_ne 76 k.c (by decide) 12 (by decide +kernel),h88];decide
     have h13:(mo k.c == 13)=true:=by rw [mo_ne 88 k.c (by decide) 13 (by decide +kernel)];simpa using h88
     by_cases h2:k.fin=at_+2
     ·have hto:((k.fin:Int) == (at_:Int)+2)=true:=by rw [h2];simp
      have k3:(at_:Int)+1<(s.length:Int):=by omega
      have k4:(at_:Int)+2≤(s.length:Int):=by omega
      have hlt1:at_+1<s.length:=by omega
      have HTW:=j7sb (zhh (s:=s) (i:=at_+1) hlt1);have HGD:=j7sb (show s.getD (at_+1) 0=s[at_+1] by rw [List.getD_eq_getElem?_getD,List.getElem?_eq_getElem hlt1];rfl);have HTX:=j7sb (escT_two hkf h2 HGD.out);have s2:¬ 9223372036854775807<here.length+((s.take (at_+2)).drop (at_+1)).length:=by rw [show at_+2=at_+1+1 from rfl,HTW.out];simp;omega
      have s3:¬ 9223372036854775807<here.length+((s.take (at_+2)).drop at_).length:=by rw [List.length_drop,List.length_take];omega
      have HN:=j7sb hn;clear hn hA hlone h88 hxs hfx hkf
      have hbs:s[at_+1]=36∨s[at_+1]=96∨s[at_+1]=34∨s[at_+1]=92∨s[at_+1]=10∨(s[at_+1]≠36∧s[at_+1]≠96∧s[at_+1]≠34∧s[at_+1]≠92∧s[at_+1]≠10):=by
       by_cases g1:s[at_+1]=36
       ·exact .inl g1
       by_cases g2:s[at_+1]=96
       ·exact .inr (.inl g2)
       by_cases g3:s[at_+1]=34
       ·exact .inr (.inr (.inl g3))
       by_cases g4:s[at_+1]=92
       ·exact .inr (.inr (.inr (.inl g4)))
       by_cases g5:s[at_+1]=10
       ·exact .inr (.inr (.inr (.inr (.inl g5))))
       exact .inr (.inr (.inr (.inr (.inr ⟨g1,g2,g3,g4,g5⟩))))
      rcases hbs with hb|hb|hb|hb|hb|⟨n36,n96,n34,n92,n10⟩
      ·have e36:=is_b (n:=36) (k:=36) rfl hb
       have HT:=j7sb (show escT s k=(s.take (at_+2)).drop (at_+1) by rw [HTX.out,hb,if_pos (by decide),show at_+2=at_+1+1 from rfl,HTW.out,HGD.out,hb]);clear hb
       go_wp2_with (go_at_call 62;refine HFD.out.mono ?_;rintro e w2 ⟨rfl,hb2⟩;have HN2:=j7sb (HN.out.below hb2);clear hb2)
       go_roundw
       case rel=>exact ⟨k.fin,f',_,x,dn,o,_,rfl,rfl,by rw [HT.out],by rw [show (k.fin:Int)=(at_:Int)+2 by omega],j7sb (HN2.out.below (za (Below.refl _ _) _))⟩
       case measure=>simp [intOf];omega
      ·have e96:=is_b (n:=96) (k:=96) rfl hb
       have e36:=not_b (n:=36) (k:=36) rfl (show s[at_+1]≠36 by rw [hb];decide);have HT:=j7sb (show escT s k=(s.take (at_+2)).drop (at_+1) by rw [HTX.out,hb,if_pos (by decide),show at_+2=at_+1+1 from rfl,HTW.out,HGD.out,hb]);clear hb
       go_wp2_with (go_at_call 62;refine HFD.out.mono ?_;rintro e w2 ⟨rfl,hb2⟩;have HN2:=j7sb (HN.out.below hb2);clear hb2)
       go_roundw
       case rel=>exact ⟨k.fin,f',_,x,dn,o,_,rfl,rfl,by rw [HT.out],by rw [show (k.fin:Int)=(at_:Int)+2 by omega],j7sb (HN2.out.below (za (Below.refl _ _) _))⟩
       case measure=>simp [intOf];omega
      ·have e34:=is_b (n:=34) (k:=34) rfl hb
       have e36:=not_b (n:=36) (k:=36) rfl (show s[at_+1]≠36 by rw [hb];decide);have e96:=not_b (n:=96) (k:=96) rfl (show s[at_+1]≠96 by rw [hb];decide);have HT:=j7sb (show escT s k=(s.take (at_+2)).drop (at_+1) by rw [HTX.out,hb,if_pos (by decide),show at_+2=at_+1+1 from rfl,HTW.out,HGD.out,hb]);clear hb
       go_wp2_with (go_at_call 62;refine HFD.out.mono ?_;rintro e w2 ⟨rfl,hb2⟩;have HN2:=j7sb (HN.out.below hb2);clear hb2)
       go_roundw
       case rel=>exact ⟨k.fin,f',_,x,dn,o,_,rfl,rfl,by rw [HT.out],by rw [show (k.fin:Int)=(at_:Int)+2 by omega],j7sb (HN2.out.below (za (Below.refl _ _) _))⟩
       case measure=>simp [intOf];omega
      ·have e92:=is_b (n:=92) (k:=92) rfl hb
       have e36:=not_b (n:=36) (k:=36) rfl (show s[at_+1]≠36 by rw [hb];decide);have e96:=not_b (n:=96) (k:=96) rfl (show s[at_+1]≠96 by rw [hb];decide);have e34:=not_b (n:=34) (k:=34) rfl (show s[at_+1]≠34 by rw [hb];decide);have HT:=j7sb (show escT s k=(s.take (at_+2)).drop (at_+1) by rw [HTX.out,hb,if_pos (by decide),show at_+2=at_+1+1 from rfl,HTW.out,HGD.out,hb]);clear hb
       go_wp2_with (go_at_call 62;refine HFD.out.mono ?_;rintro e w2 ⟨rfl,hb2⟩;have HN2:=j7sb (HN.out.below hb2);clear hb2)
       go_roundw
       case rel=>exact ⟨k.fin,f',_,x,dn,o,_,rfl,rfl,by rw [HT.out],by rw [show (k.fin:Int)=(at_:Int)+2 by omega],j7sb (HN2.out.below (za (Below.refl _ _) _))⟩
       case measure=>simp [intOf];omega
      ·have q10:=is_nb (n:=10) (k:=10) rfl hb
       have e36:=not_b (n:=36) (k:=36) rfl (show s[at_+1]≠36 by rw [hb];decide);have e96:=not_b (n:=96) (k:=96) rfl (show s[at_+1]≠96 by rw [hb];decide);have e34:=not_b (n:=34) (k:=34) rfl (show s[at_+1]≠34 by rw [hb];decide);have e92:=not_b (n:=92) (k:=92) rfl (show s[at_+1]≠92 by rw [hb];decide);have HT:=j7sb (show escT s k=[] by rw [HTX.out,hb,if_neg (by decide),if_pos (by decide)]);clear hb
       go_wp2_with (go_at_call 62;refine HFD.out.mono ?_;rintro e w2 ⟨rfl,hb2⟩;have HN2:=j7sb (HN.out.below hb2);clear hb2)
       go_roundw
       case rel=>exact ⟨k.fin,f',_,x,dn,o,_,rfl,rfl,by rw [HT.out,List.append_nil],by rw [show (k.fin:Int)=(at_:Int)+2 by omega],j7sb (HN2.out.below (za (Below.refl _ _) _))⟩
       case measure=>simp [intOf];omega
      ·have q10:=not_nb (n:=10) (k:=10) rfl n10
       have e36:=not_b (n:=36) (k:=36) rfl n36;have e96:=not_b (n:=96) (k:=96) rfl n96;have e34:=not_b (n:=34) (k:=34) rfl n34;have e92:=not_b (n:=92) (k:=92) rfl n92;have e10:=not_b (n:=10) (k:=10) rfl n10;have HT:=j7sb (show escT s k=(s.take (at_+2)).drop at_ by rw [HTX.out,if_neg (by unfold escB;rw [e36,e96,e34,e92];decide),if_neg (by rw [e10];decide)]);clear n36 n96 n34 n92 n10 e10
       go_wp2_with (go_at_call 62;refine HFD.out.mono ?_;rintro e w2 ⟨rfl,hb2⟩;have HN2:=j7sb (HN.out.below hb2);clear hb2)
       go_roundw
       case rel=>exact ⟨k.fin,f',_,x,dn,o,_,rfl,rfl,by rw [HT.out],by rw [show (k.fin:Int)=(at_:Int)+2 by omega],j7sb (HN2.out.below (za (Below.refl _ _) _))⟩
       case measure=>simp [intOf];omega
     ·have hto:((k.fin:Int) == (at_:Int)+2)=false:=by rw [beq_eq_false_iff_ne];omega
      rw [escT_one hkf (by omega),List.append_nil] at hn;have HN:=j7sb hn;clear hn hA hlone h88 hxs hfx hkf h2
      go_wp2_with (go_at_call 62;refine HFD.out.mono ?_;rintro e w2 ⟨rfl,hb2⟩;have HN2:=j7sb (HN.out.below hb2);clear hb2)
      go_roundw
      case rel=>exact ⟨k.fin,f',_,x,dn,o,_,rfl,rfl,rfl,rfl,j7sb (HN2.out.below (za (Below.refl _ _) _))⟩
      case measure=>simp [intOf];omega
    ·have HEX:=j7sb (fun (W':World) (o':Value) ds hd ho hb=>HI.out.exp (W':=W') (o':=o') h1 HSO.out hA hlone h88 ds hd ho hb)
     have h13:(mo k.c == 13)=false:=by rw [mo_ne 88 k.c (by decide) 13 (by decide +kernel)];simpa using h88
     have hsub:=j7sb (show subT s k.fr k.fin=(s.take k.fin).drop at_ by rw [HKF.out];rfl);have k3:(at_:Int)≤(k.fin:Int):=by omega
     have k4:(k.fin:Int)≤(s.length:Int):=by omega
     have hcn:=HI.out.cnt
     have hlo:(mo k.c == 12)=false∨((mo k.c == 12)=true∧((k.fin:Int) == (at_:Int)+1)=false):=by
      by_cases hc:k.c=76
      ·right
       refine ⟨by rw [mo_ne 76 k.c (by decide) 12 (by decide +kernel)];simpa using hc,?_⟩;rw [beq_eq_false_iff_ne];intro e;apply hlone;unfold loneP;have:=HKF.out;simp only [Bool.and_eq_true,beq_iff_eq];exact ⟨hc,by omega⟩
      ·left
       rw [mo_ne 76 k.c (by decide) 12 (by decide +kernel)];simpa using hc
     clear hA hlone h88 hxs;rcases hlo with h12|⟨h12,hto⟩
     all_goals
      rcases here with _|⟨hc,hr⟩
      ·go_wp2_with (first
        | (go_at_call 62;refine HFD.out.mono ?_;rintro e w2 ⟨rfl,hb2⟩;have HI2:=j7sb ((HI.out.below hb2).below (za (Below.refl _ _) (.cells #[.int .i64 (mo k.c),.int .i64 k.fr,.int .i64 k.fin,.int .i64 k.up,.bool k.op] 107)));have hwz2:=(HI.out.below hb2).be.size;have HPB:=j7sb (BoxN.new w2 [.int .i64 (mo k.c),.int .i64 k.fr,.int .i64 k.fin,.int .i64 k.up,.bool k.op] 107);have HNB:=j7sb (show o.ownBlock≠some w2.heap.size from fun e=>by have h:=HI.out.own.lt _ e;have:=hb2.size;omega);clear hb2)
        | ((at_builtin;refine zf _ rfl (.tmp 100) (.tmp 107) _ rfl w.heap.size 35 i0 _ 3 24 Tryz.underlying25 hi0 hz00 hz01 hz02 rfl (by decide) _ dn.length (dn.flatMap pcC) rfl (HI2.out.own.below (za (Below.refl _ _) _)) _ 1 [.bool true,.bool true,.string (B ((s.take k.fin).drop at_))] rfl rfl (zb8 _ _ _ _ _) (by simp [Value.oneCell']) (by unfold maxLen;omega) (by omega) (by first|(simp;done)|omega|(simp;omega)) ?_;intro v3 w3 hown3 hg3 hat3 hty3;have HTY3:=j7sb hty3;clear hty3);have HO3:=j7sb hown3;have HB3:=j7sb (ze (za HI2.out.be _) hg3 (fun k q=>q.2));have HPB3:=j7sb ((HPB.out.below (za (Below.refl _ _) _)).keeps hg3 (fun q=>HNB.out q.1));have p2:=HPB3.out.c 2 _ rfl;haveI:Old w3 w2.heap.size:=⟨HPB3.out.lt⟩;clear hown3 hg3 hat3))
       obtain ⟨f',hn⟩:=HEX.out _ _ (dn++(if ([]:List UInt8)=[] then [] else [⟨false,true,[]⟩])++[⟨true,true,subT s k.fr k.fin⟩]) rfl (by simpa [hsub.out,pcC] using HO3.out) HB3.out;go_roundw
       case rel=>exact ⟨k.fin,f',_,true,_,_,_,rfl,rfl,rfl,rfl,j7sb hn⟩
       case measure=>simp [intOf];omega
      ·go_wp2_with (first
        | (go_at_call 62;refine HFD.out.mono ?_;rintro e w2 ⟨rfl,hb2⟩;have HI2:=j7sb ((HI.out.below hb2).below (za (Below.refl _ _) (.cells #[.int .i64 (mo k.c),.int .i64 k.fr,.int .i64 k.fin,.int .i64 k.up,.bool k.op] 107)));have hwz2:=(HI.out.below hb2).be.size;have HPB:=j7sb (BoxN.new w2 [.int .i64 (mo k.c),.int .i64 k.fr,.int .i64 k.fin,.int .i64 k.up,.bool k.op] 107);have HNB:=j7sb (show o.ownBlock≠some w2.heap.size from fun e=>by have h:=HI.out.own.lt _ e;have:=hb2.size;omega);clear hb2)
        | ((at_builtin;refine zf _ rfl (.tmp 95) (.tmp 98) _ rfl w.heap.size 35 i0 _ 3 24 Tryz.underlying25 hi0 hz00 hz01 hz02 rfl (by decide) _ dn.length (dn.flatMap pcC) rfl (HI2.out.own.below (za (Below.refl _ _) _)) _ 1 [.bool false,.bool true,.string (B (hc :: hr))] rfl rfl (zb8 _ _ _ _ _) (by simp [Value.oneCell']) (by unfold maxLen;omega) (by omega) (by first|(simp;done)|omega|(simp;omega)) ?_;intro v3 w3 hown3 hg3 hat3 hty3;have HTY3:=j7sb hty3;clear hty3);have HO3:=j7sb hown3;have HB3:=j7sb (ze (za HI2.out.be _) hg3 (fun k q=>q.2));have hwz3:=HB3.out.size;have HPB3:=j7sb ((HPB.out.below (za (Below.refl _ _) _)).keeps hg3 (fun q=>HNB.out q.1));have p2:=HPB3.out.c 2 _ rfl;haveI:Old w3 w2.heap.size:=⟨HPB3.out.lt⟩;have HNB3:=j7sb (show v3.ownBlock≠some w2.heap.size from fun e=>hat3.elim (fun q=>HNB.out (q.symm.trans e)) (fun q=>by have:=q _ e;simp at this;omega));clear hown3 hg3 hat3)
        | ((at_builtin;refine zf _ rfl (.tmp 100) (.tmp 107) _ rfl w.heap.size 35 i0 _ 3 24 Tryz.underlying25 hi0 hz00 hz01 hz02 rfl (by decide) _ (dn.length+1) (dn.flatMap pcC++[.bool false,.bool true,.string (B (hc :: hr))]) rfl (HO3.out.below (za (Below.refl _ _) _)) _ 1 [.bool true,.bool true,.string (B ((s.take k.fin).drop at_))] rfl rfl (Src.one _ _ _ _) (by simp [Value.oneCell']) (by unfold maxLen;omega) (by omega) (by first|(simp;done)|omega|(simp;omega)) ?_;intro v4 w4 hown4 hg4 hat4 hty4;have HTY4:=j7sb hty4;clear hty4);have HO4:=j7sb hown4;have HB4:=j7sb (ze (za HB3.out _) hg4 (fun k q=>q.2));have HPB4:=j7sb ((HPB3.out.below (za (Below.refl _ _) _)).keeps hg4 (fun q=>HNB3.out q.1));have p4:=HPB4.out.c 2 _ rfl;haveI:Old w4 w2.heap.size:=⟨HPB4.out.lt⟩;clear hown4 hg4 hat4))
       obtain ⟨f',hn⟩:=HEX.out _ _ (dn++(if (hc :: hr)=[] then [] else [⟨false,true,hc :: hr⟩])++[⟨true,true,subT s k.fr k.fin⟩]) rfl (by simpa [hsub.out,pcC] using HO4.out) HB4.out;go_roundw
       case rel=>exact ⟨k.fin,f',_,true,_,_,_,rfl,rfl,rfl,rfl,j7sb hn⟩
       case measure=>simp [intOf];omega
  ·have hcn:=HI.out.cnt
   have hx:=HI.out.hx;have hwz:=HI.out.be.size;have heq:=HI.out.eq;rw [zej h1] at heq;rcases here with _|⟨hc,hr⟩
   ·rcases dn with _|⟨d,ds⟩
    ·have hx1:x=false:=hx
     subst hx1;have HEQ:=j7sb heq;obtain ⟨A,c,rfl,-⟩:=HI.out.own.form0;clear heq hx
     go_wp2_with ((at_builtin;refine zf _ rfl (.tmp 118) (.tmp 121) _ rfl w.heap.size 35 i0 _ 3 24 Tryz.underlying25 hi0 hz00 hz01 hz02 rfl (by decide) _ 0 [] rfl (HI.out.own.below (za (Below.refl _ _) _)) _ 1 [.bool false,.bool true,.string (B [])] rfl rfl (Src.one _ _ _ _) (by simp [Value.oneCell']) (by unfold maxLen;omega) (by omega) (by first|(simp;done)|omega|(simp;omega)) ?_;intro v3 w3 hown3 hg3 hat3 hty3;have HTY3:=j7sb hty3;clear hty3);have HO3:=j7sb hown3;have HB3:=j7sb (ze (za HI.out.be _) hg3 (fun k q=>q.2));clear hown3 hg3 hat3)
     go_ret;exact ⟨_,rfl,by rw [HEQ.out];simpa [pcC] using HO3.out,HB3.out⟩
    ·have hx1:x=true:=hx
     subst hx1;rw [if_pos ⟨rfl,rfl⟩,List.append_nil] at heq;have HEQ:=j7sb heq;have hOF:=HI.out.own.form0;obtain ⟨A,c,rfl,-⟩:=hOF;have hq:(((d :: ds).length:Int) == 0)=false:=by rw [beq_eq_false_iff_ne,List.length_cons];omega
     generalize hm:(d :: ds).length=m at *;have HM:=j7sb hm;clear heq hx hm;go_wp2;go_ret;exact ⟨_,rfl,by rw [HEQ.out];exact HI.out.own,HI.out.be⟩
   ·rw [if_neg (by simp)] at heq
    have HEQ:=j7sb heq;clear heq hx
    go_wp2_with ((at_builtin;refine zf _ rfl (.tmp 118) (.tmp 121) _ rfl w.heap.size 35 i0 _ 3 24 Tryz.underlying25 hi0 hz00 hz01 hz02 rfl (by decide) _ dn.length (dn.flatMap pcC) rfl (HI.out.own.below (za (Below.refl _ _) _)) _ 1 [.bool false,.bool true,.string (B (hc :: hr))] rfl rfl (Src.one _ _ _ _) (by simp [Value.oneCell']) (by unfold maxLen;omega) (by omega) (by first|(simp;done)|omega|(simp;omega)) ?_;intro v3 w3 hown3 hg3 hat3 hty3;have HTY3:=j7sb hty3;clear hty3);have HO3:=j7sb hown3;have HB3:=j7sb (ze (za HI.out.be _) hg3 (fun k q=>q.2));clear hown3 hg3 hat3)
    go_ret;exact ⟨_,rfl,by rw [HEQ.out];simpa [pcC] using HO3.out,HB3.out⟩
end Go.Proofs.YtfmecpnokefokaaGreatDoor.Li
namespace Go.Proofs.YtfmecpnokefokaaGreatDoor.Pa
open Go.ChangeShapes Go.WideShapes Go.Deep Go.RowKit Cls Md Mc
set_option maxRecDepth 100000
end Go.Proofs.YtfmecpnokefokaaGreatDoor.Pa
namespace Go.Proofs.YtfmecpnokefokaaGreatDoor.Cls
open Go.ChangeShapes Go.WideShapes Go.Deep Go.RowKit
set_option maxRecDepth 100000
theorem zlw (f:UInt8→Bool):∀ (l:List UInt8) (k:Nat),k≤l.length→(l.take k).all f=decide (k≤spanN f l)
 | l,0,_=>by simp
 | [],k+1,h=>by simp at h
 | c :: l,k+1,h=>by
  have ih:=zlw f l k (by simpa using h);rw [List.take_succ_cons,List.all_cons,ih];unfold spanN;rw [List.takeWhile_cons]
  cases hc:f c <;> simp
theorem zmu {s:List UInt8} {a k:Nat} (h1:1≤k) (hk:a+k≤s.length):isNameB ((s.take (a+k)).drop a)=decide (k≤nameN s a):=by
 have e:(s.take (a+k)).drop a=(s.drop a).take k:=by rw [List.drop_take,show a+k - a=k by omega]
 rw [e];have hl:(s.drop a).length=s.length - a:=List.length_drop;unfold nameN;generalize s.drop a=l at *;have hkl:k≤l.length:=by omega
 match l,hkl with
 | [],h=>simp at h;omega
 | c :: r,hkl =>
  obtain ⟨j,rfl⟩:∃ j,k=j+1:=⟨k - 1,by omega⟩
  unfold isNameB;rw [zlw nameB _ _ hkl];rw [List.take_succ_cons]
  show (letterB c && _)=_
  have hsp:(spanN letterB (c :: r) == 0) = !letterB c:=by
   unfold spanN;rw [List.takeWhile_cons]
   cases letterB c <;> simp
  rw [hsp]
  cases letterB c <;> simp
theorem zmv (s:List UInt8) (a:Nat) (w:World) (hs:s.length≤1073741824) (ha:a≤s.length):Calls Tryz.prog 103 #[.string (B s),.int .i64 a] w fun e w'=>e = .returned (.int .i64 (nameN s a))∧w=w':=by
 have HI:=j7sb fun (k:Nat) (h1:1≤k) (hk:a+k≤s.length) w=>(zmu h1 hk) ▸ zci ((s.take (a+k)).drop a) w (by rw [List.length_drop,List.length_take];omega)
 have hn:nameN s a≤s.length - a:=by
  unfold nameN
  split
  ·omega
  ·have:=zgr nameB (s.drop a);rwa [List.length_drop] at this
 generalize nameN s a=n at *;have hw0:IntKind.i64.wrap ((s.length:Int) - (a:Int))=(s.length:Int) - (a:Int):=IntWalk.i64_in _ (by omega);go_enter Tryz.func103,Tryz.ntmps103;go_wp2
 go_loopw [5,6] (fun v5 v6 wr=>∃ k:Nat,1≤k∧k≤s.length - a+1∧v6 = .int .i64 k∧v5 = .int .i64 ((min (k - 1) n:Nat):Int)∧w=wr) (fun _ i _=>s.length - a+1 - (intOf i).toNat)
 case atStart=>exact ⟨1,Nat.le_refl _,by omega,rfl,by simp,rfl⟩
 case round =>
  obtain ⟨k,hk1,hk,rfl,rfl,rfl⟩:=hrel;by_cases hlt:k≤s.length - a
  ·have k0:(0:Int)≤(a:Int):=by omega
   have k1:(k:Int)≤(s.length:Int) - (a:Int):=by omega
   have k2:IntKind.i64.wrap ((a:Int)+(k:Int))=(a:Int)+(k:Int):=IntWalk.i64_in _ (by omega);have k3:(a:Int)≤(a:Int)+(k:Int):=by omega
   have k4:(a:Int)+(k:Int)≤(s.length:Int):=by omega
   have k5:((a:Int)+(k:Int)).toNat=a+k:=by omega
   have HC:=j7sb (HI.out k hk1 (by omega) w);by_cases hc:k≤n
   ·rw [decide_eq_true hc] at HC
    go_wp2_with (go_at_call 20;refine HC.out.mono ?_;rintro e w2 ⟨rfl,rfl⟩)
    refine ⟨⟨k+1,by omega,by omega,by go_num,?_,trivial⟩,by simp [intOf];omega⟩;rw [show min (k+1 - 1) n=k by omega]
   ·rw [decide_eq_false hc] at HC
    go_wp2_with (go_at_call 20;refine HC.out.mono ?_;rintro e w2 ⟨rfl,rfl⟩)
    refine ⟨⟨k+1,by omega,by omega,by go_num,?_,trivial⟩,by simp [intOf];omega⟩;rw [show min (k+1 - 1) n=min (k - 1) n by omega]
  ·have k1:¬ (k:Int)≤(s.length:Int) - (a:Int):=by omega
   have hr:min (k - 1) n=n:=by omega
   rw [hr];go_wp2;go_ret;exact ⟨rfl,rfl⟩
def parL:List UInt8:=[64,42,35,63,45,36,33]
theorem parL_is (b:UInt8):parL.contains b=parB b.toNat:=by
 have h:∀ n:Fin 256,parL.contains (UInt8.ofNat n.val)=parB (UInt8.ofNat n.val).toNat:=by decide +kernel
 have:=h ⟨b.toNat,UInt8.toNat_lt b⟩
 simpa using this
theorem zc5 (s:List UInt8) (a:Nat) (w:World) (hs:s.length≤1073741824) (ha:a≤s.length):Calls Tryz.prog 66 #[.string (B s),.int .i64 a] w fun e w'=>e = .returned (.int .i64 (paramN s a))∧w=w':=by
 have HN:=j7sb fun w=>zmv s a w hs ha;unfold paramN;generalize nameN s a=n at *;by_cases h:n=0
 ·subst h
  rw [if_neg (by simp)];by_cases hl:a<s.length
  ·rw [dif_pos hl]
   have p2:(0:Int)≤(a:Int):=by omega
   have p3:(a:Int)<(s.length:Int):=by omega
   have hd:min (spanN digitB (s.drop a)) 1=if digitB s[a]=true then 1 else 0:=by
    rw [zco digitB hl]
    cases digitB s[a] <;> simp
   rw [hd];have HC:=j7sb (zbv s[a]);have HI:=j7sb fun w=>Pat.in_any s[a] parL w (by decide);rw [parL_is] at HI;unfold digitB;generalize clsB s[a]=q at *;generalize parB s[a].toNat=pb at *;clear hd;have hB:({ data:=#[64,42,35,63,45,36,33] }:ByteArray)=B parL:=rfl;by_cases h6:q=6
   ·subst h6
    go_enter Tryz.func66,Tryz.ntmps66
    cases pb <;>
    ·go_wp2_with (first
      | (go_at_call 103;refine (HN.out _).mono ?_;rintro e w' ⟨rfl,rfl⟩)
      | (go_at_call 45;refine (HC.out _).mono ?_;rintro e w' ⟨rfl,rfl⟩))
     go_ret;exact ⟨rfl,rfl⟩
   ·have h7:(q == 6)=false:=by simpa using h6
    rw [h7];go_enter Tryz.func66,Tryz.ntmps66;rw [hB]
    cases pb <;>
    ·go_wp2_with (first
      | (go_at_call 103;refine (HN.out _).mono ?_;rintro e w' ⟨rfl,rfl⟩)
      | (go_at_call 45;refine (HC.out _).mono ?_;rintro e w' ⟨rfl,rfl⟩)
      | (go_at_call 54;refine (HI.out _).mono ?_;rintro e w' ⟨rfl,rfl⟩))
     go_ret;exact ⟨rfl,rfl⟩
  ·rw [dif_neg hl]
   have p1:¬ (a:Int)<(s.length:Int):=by omega
   go_enter Tryz.func66,Tryz.ntmps66
   go_wp2_with (go_at_call 103;refine (HN.out _).mono ?_;rintro e w' ⟨rfl,rfl⟩)
   go_ret;exact ⟨rfl,rfl⟩
 ·rw [if_pos h]
  have h1:((n:Int) == 0)=false:=by rw [beq_eq_false_iff_ne];omega
  go_enter Tryz.func66,Tryz.ntmps66
  go_wp2_with (go_at_call 103;refine (HN.out _).mono ?_;rintro e w' ⟨rfl,rfl⟩)
  go_ret;exact ⟨rfl,rfl⟩
end Go.Proofs.YtfmecpnokefokaaGreatDoor.Cls
