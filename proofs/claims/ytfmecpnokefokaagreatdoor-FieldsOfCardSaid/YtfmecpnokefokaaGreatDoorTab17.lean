/-
  The walks of layer 19 (tables), on: Set of any name, Of; the reference's Of. Conditions: names of at most 2^30 bytes, values of at most 65536, fewer than 10000 entries.
-/
import Derived.Test.YtfmecpnokefokaaGreatDoorTab12
import Derived.Test.YtfmecpnokefokaaGreatDoorRunA
import Derived.Lib.SliceRun
import Derived.Test.YtfmecpnokefokaaGreatDoorKeyed2
import Derived.Test.YtfmecpnokefokaaGreatDoorTailIn
import Derived.Test.YtfmecpnokefokaaGreatDoorProg
import Derived.Test.YtfmecpnokefokaaGreatDoorOwn
import Derived.Lib.Strings
import Derived.Test.YtfmecpnokefokaaGreatDoorHist
import Derived.Test.YtfmecpnokefokaaGreatDoorPat4
import Derived.WalkMore
import Derived.Deep.RegionWith
set_option linter.unusedSimpArgs false
set_option linter.unusedVariables false
namespace Go.Proofs.YtfmecpnokefokaaGreatDoor.Tab
open Go.ChangeShapes Go.WideShapes Go.Deep Go.RowKit
set_option maxRecDepth 100000
theorem _root_.Go.Proofs.YtfmecpnokefokaaGreatDoor.j7xb {p:Prop} (h:p):Go.RowKit.Hid p:=Go.Lib.hid h
theorem zcu {xs:List Ent} (h:Rises xs) (s:List UInt8) {k:Nat} {x:Ent} (hx:xs[k]?=some x):(k<place xs s→Op.bytesLess x.name s=true∧(x.name == s)=false)∧(place xs s≤k→Op.bytesLess x.name s=false)∧(place xs s<k→(x.name == s)=false)∧(k=place xs s→(x.name == s)=there xs s):=by
 obtain ⟨h1,rfl⟩:=List.getElem?_eq_some_iff.1 hx;have hi:=zbu h s h1;refine ⟨fun hk=>?_,fun hk=>?_,fun hk=>?_,fun hk=>?_⟩
 ·have:=hi.2 hk
  refine ⟨by rw [zhi];simpa using this,?_⟩;rw [beq_eq_false_iff_ne];intro e;rw [e,zhj] at this;omega
 ·rw [zhi,decide_eq_false_iff_not]
  intro q;have:=hi.1 q;omega
 ·rw [beq_eq_false_iff_ne]
  intro e;have h3:Lib.compareBytes (xs[place xs s]'(by omega)).name (xs[k]).name<0:=List.pairwise_iff_getElem.1 h _ _ _ _ hk;rw [e] at h3;have:=(zbu h s (t:=place xs s) (by omega)).1 h3;omega
 ·unfold there
  rw [← hk,hx,Bool.eq_iff_iff];simp
def SetR (ys:List Ent) (w:World) (e:Ending) (w':World):Prop:=∃ v,e = .returned (.tuple #[v,.int .i64 0])∧Own w' w.heap.size 2 v ys.length (ys.flatMap Ent.cells)∧Below w.heap.size w w'
theorem zpi (kind:Int) (u:Value) (s v:List UInt8) (w:World) (hm:Cls.mayB kind s=false) (hs:s.length≤1073741824) :
  Calls Tryz.prog 26 #[.int .i64 kind,u,.string (B s),.string (B v)] w fun e w'=>e = .returned (.tuple #[u,.int .i64 5])∧w=w':=by
 have HMY:=j7xb fun w=>Cls.refMay_any kind s w hs;rw [hm] at HMY;clear hm;go_enter Tryz.func26,Tryz.ntmps26
 go_wp2_with (go_at_call 48;refine (HMY.out _).mono ?_;rintro e w' ⟨rfl,rfl⟩)
 go_ret2;exact ⟨rfl,rfl⟩
set_option maxHeartbeats 3200000 in
theorem zrr (kind:Int) (xs:List Ent) (u:Value) (s v:List UInt8) (w:World) (hu:Sl w Ent.cells 2 u xs) (hr:Rises xs) (hx:xs.length<10000) (hm:Cls.mayB kind s=true) (hs:s.length≤1073741824) (hv:v.length≤65536) :
  Calls Tryz.prog 26 #[.int .i64 kind,u,.string (B s),.string (B v)] w (SetR (setL xs s v) w):=by
 obtain ⟨i0,hi0,hz00,hz01,hz02⟩:=info_parts zc7;have HMY:=j7xb fun w=>Cls.refMay_any kind s w hs;rw [hm] at HMY;have HGE:=j7xb (refGet_any xs u s w hu (by omega));obtain ⟨A,c,rfl,hc1,hc2,hn,hA⟩:=hu;have HA:=j7xb hA;have HPN:=j7xb fun (k:Nat) (x:Ent) hx=>zcu (k:=k) (x:=x) hr s hx;have HE:=j7xb (setK_end xs s v);have HPL:=j7xb (zc8 xs s);have d1:=no (show ¬ (65536:Int)<(v.length:Int) by omega);have d2:=no (show ¬ (10000:Int)≤(xs.length:Int) by omega);clear hA hn hm hr
 obtain ⟨t,n,hg,hn⟩:∃ t n,Hid (getP (getE xs s) = .tuple #[.string (B t),.int .i64 n])∧(n=0∨n=1):=by
  cases getE xs s with
  | none=>exact ⟨[],0,rfl,.inl rfl⟩
  | some e=>exact ⟨e.val,1,rfl,.inr rfl⟩
 rw [hg.out] at HGE;clear hg;rcases hn with rfl|rfl
 all_goals
  go_enter Tryz.func26,Tryz.ntmps26
  go_wp2_with (first|(go_at_call 48;refine (HMY.out _).mono ?_;rintro e w' ⟨rfl,rfl⟩)|(go_at_call 21;refine (HGE.out).mono ?_;rintro e w' ⟨rfl,rfl⟩))
  go_loopw [12,13,14] (fun o d i w'=>∃ (v1:Value) (k:Nat),v1=o∧k≤xs.length∧d = .bool (decide (place xs s<k))∧i = .int .i64 k∧Hid (Own w' w.heap.size 2 v1 (setK xs s v k).length ((setK xs s v k).flatMap Ent.cells))∧Below w.heap.size w w') (fun _ _ i _=>xs.length - (intOf i).toNat)
  case atStart=>exact ⟨_,0,rfl,by omega,by simp,rfl,by show Own _ _ _ _ _ _;unfold setK;rw [if_pos (by omega),List.take_zero];exact Own.nil _ _ _,Below.refl _ _⟩
  case round =>
   obtain ⟨v1,k,rfl,hk,rfl,rfl,HO,hbl⟩:=hrel;have hbs:=hbl.size;by_cases hlt:k<xs.length
   ·obtain ⟨b,off,rfl,hb,hc⟩:=HA.out (by omega)
    obtain ⟨x,hxm⟩:=zae hlt;have e0:=(hbl.cell (p:=⟨b,off+k*2,none⟩) hb).trans (by have:=hc k _ hxm 0 _ rfl;simpa using this);have e1:=(hbl.cell (p:=⟨b,off+k*2+1,none⟩) hb).trans (hc k _ hxm 1 _ rfl)
    haveI:Old wr b:=⟨by omega⟩
    have k0:(0:Int)≤(k:Int):=by omega
    have k1:(k:Int)<(xs.length:Int):=by omega
    have hle:=znu xs s v k hk;obtain ⟨p1,p2,p3,p4⟩:=HPN.out k x hxm;rcases Nat.lt_trichotomy k (place xs s) with h1|h1|h1
    ·obtain ⟨q1,q2⟩:=p1 h1
     have q3:(x.name != s)=true:=by rw [bne,q2];rfl
     have q4:=no (show ¬ place xs s<k by omega);have q5:=no (show ¬ place xs s<k+1 by omega);have HS:=j7xb (setK_lo (v:=v) hxm h1);clear p1 p2 p3 p4 hc hxm;rw [q4]
     go_wp2_with ((at_builtin;refine zf _ rfl (.tmp 68) (.tmp 73) _ rfl w.heap.size 44 i0 _ 2 32 Tryz.underlying22 hi0 hz00 hz01 hz02 rfl (by decide) _ (setK xs s v k).length ((setK xs s v k).flatMap Ent.cells) rfl (HO.out.below (zzb)) _ 1 (Ent.cells x) rfl rfl (Src.one _ _ _ _) (by simp [Ent.cells,Value.oneCell']) (by unfold maxLen;omega) (by omega) (by first|(simp;done)|omega|(simp;omega)) ?_;intro v2 w2 hown2 hg2 hat2 hty2;have HTY2:=j7xb hty2;clear hty2);have HO2:=j7xb hown2;have HB2:=j7xb (ze (zb hbl (za (Below.refl _ _) _)) hg2 (fun k hk=>hk.2));clear hown2 hg2 hat2)
     go_roundw
     case rel=>exact ⟨v2,k+1,rfl,by omega,by rw [q5],by go_num,by
      show Own _ _ _ _ _ _
      rw [HS.out]
      simpa [List.flatMap_append] using HO2.out,HB2.out⟩
     case measure=>simp [intOf];omega
    ·have q1:=p2 (by omega)
     have q4:=no (show ¬ place xs s<k by omega);have q5:=yes (show place xs s<k+1 by omega);have HS:=j7xb (setK_at (s:=s) (v:=v) hxm h1);have q2:=p4 h1;clear p1 p2 p3 p4 hc hxm h1;rw [q4]
     cases ht:there xs s with
     | true =>
      rw [ht] at q2;have q3:(x.name != s)=false:=by rw [bne,q2];rfl
      rw [ht,if_pos rfl] at HS;clear ht
      go_wp2_with ((at_builtin;refine zf _ rfl (.tmp 55) (.tmp 59) _ rfl w.heap.size 44 i0 _ 2 32 Tryz.underlying22 hi0 hz00 hz01 hz02 rfl (by decide) _ (setK xs s v k).length ((setK xs s v k).flatMap Ent.cells) rfl (HO.out.below (zzb)) _ 1 (Ent.cells ⟨s,v⟩) rfl rfl (Src.one _ _ _ _) (by simp [Ent.cells,Value.oneCell']) (by unfold maxLen;omega) (by omega) (by first|(simp;done)|omega|(simp;omega)) ?_;intro v2 w2 hown2 hg2 hat2 hty2;have HTY2:=j7xb hty2;clear hty2);have HO2:=j7xb hown2;have HB2:=j7xb (ze (zb hbl (za (Below.refl _ _) _)) hg2 (fun k hk=>hk.2));have e0:=(HB2.out.cell (p:=⟨b,off+k*2,none⟩) hb).trans ((hbl.cell (p:=⟨b,off+k*2,none⟩) hb).symm.trans e0);haveI:Old w2 b:=⟨Nat.lt_of_lt_of_le hb HB2.out.size⟩;clear hown2 hg2 hat2)
      go_roundw
      case rel=>exact ⟨v2,k+1,rfl,by omega,by rw [q5],by go_num,by
       show Own _ _ _ _ _ _
       rw [HS.out]
       simpa [List.flatMap_append] using HO2.out,HB2.out⟩
      case measure=>simp [intOf];omega
     | false =>
      rw [ht] at q2;have q3:(x.name != s)=true:=by rw [bne,q2];rfl
      rw [ht,if_neg (by simp)] at HS;clear ht
      go_wp2_with (first
       | ((at_builtin;refine zf _ rfl (.tmp 55) (.tmp 59) _ rfl w.heap.size 44 i0 _ 2 32 Tryz.underlying22 hi0 hz00 hz01 hz02 rfl (by decide) _ (setK xs s v k).length ((setK xs s v k).flatMap Ent.cells) rfl (HO.out.below (zzb)) _ 1 (Ent.cells ⟨s,v⟩) rfl rfl (Src.one _ _ _ _) (by simp [Ent.cells,Value.oneCell']) (by unfold maxLen;omega) (by omega) (by first|(simp;done)|omega|(simp;omega)) ?_;intro v2 w2 hown2 hg2 hat2 hty2;have HTY2:=j7xb hty2;clear hty2);have HO2:=j7xb hown2;have HB2:=j7xb (ze (zb hbl (za (Below.refl _ _) _)) hg2 (fun k hk=>hk.2));have e0:=(HB2.out.cell (p:=⟨b,off+k*2,none⟩) hb).trans ((hbl.cell (p:=⟨b,off+k*2,none⟩) hb).symm.trans e0);have e1:=(HB2.out.cell (p:=⟨b,off+k*2+1,none⟩) hb).trans ((hbl.cell (p:=⟨b,off+k*2+1,none⟩) hb).symm.trans e1);have hbs2:=HB2.out.size;haveI:Old w2 b:=⟨Nat.lt_of_lt_of_le hb HB2.out.size⟩;clear hown2 hg2 hat2)
       | ((at_builtin;refine zf _ rfl (.tmp 68) (.tmp 73) _ rfl w.heap.size 44 i0 _ 2 32 Tryz.underlying22 hi0 hz00 hz01 hz02 rfl (by decide) _ ((setK xs s v k).length+1) ((setK xs s v k).flatMap Ent.cells++Ent.cells ⟨s,v⟩) rfl (HO2.out.below (zzb)) _ 1 (Ent.cells x) rfl rfl (Src.one _ _ _ _) (by simp [Ent.cells,Value.oneCell']) (by unfold maxLen;omega) (by omega) (by first|(simp;done)|omega|(simp;omega)) ?_;intro v3 w3 hown3 hg3 hat3 hty3;have HTY3:=j7xb hty3;clear hty3);have HO3:=j7xb hown3;have HB3:=j7xb (ze (zb HB2.out (za (Below.refl _ _) _)) hg3 (fun k hk=>hk.2));clear hown3 hg3 hat3))
      go_roundw
      case rel=>exact ⟨v3,k+1,rfl,by omega,by rw [q5],by go_num,by
       show Own _ _ _ _ _ _
       rw [HS.out]
       simpa [List.flatMap_append,List.append_assoc] using HO3.out,HB3.out⟩
      case measure=>simp [intOf];omega
    ·have q2:=p3 h1
     have q3:(x.name != s)=true:=by rw [bne,q2];rfl
     have q4:=yes h1;have q5:=yes (show place xs s<k+1 by omega);have HS:=j7xb (setK_hi (v:=v) hxm h1);clear p1 p2 p3 p4 hc hxm;rw [q4]
     go_wp2_with ((at_builtin;refine zf _ rfl (.tmp 68) (.tmp 73) _ rfl w.heap.size 44 i0 _ 2 32 Tryz.underlying22 hi0 hz00 hz01 hz02 rfl (by decide) _ (setK xs s v k).length ((setK xs s v k).flatMap Ent.cells) rfl (HO.out.below (zzb)) _ 1 (Ent.cells x) rfl rfl (Src.one _ _ _ _) (by simp [Ent.cells,Value.oneCell']) (by unfold maxLen;omega) (by omega) (by first|(simp;done)|omega|(simp;omega)) ?_;intro v2 w2 hown2 hg2 hat2 hty2;have HTY2:=j7xb hty2;clear hty2);have HO2:=j7xb hown2;have HB2:=j7xb (ze (zb hbl (za (Below.refl _ _) _)) hg2 (fun k hk=>hk.2));clear hown2 hg2 hat2)
     go_roundw
     case rel=>exact ⟨v2,k+1,rfl,by omega,by rw [q5],by go_num,by
      show Own _ _ _ _ _ _
      rw [HS.out]
      simpa [List.flatMap_append] using HO2.out,HB2.out⟩
     case measure=>simp [intOf];omega
   ·have hk2:k=xs.length:=by omega
    have d0:=no hlt;clear hlt;subst hk2;by_cases hpl:place xs s<xs.length
    ·have q4:=yes hpl
     rw [if_pos hpl] at HE;rw [q4];go_wp2;go_ret2;exact ⟨v1,rfl,by rw [← HE.out];exact HO.out,hbl⟩
    ·have q4:=no hpl
     rw [if_neg hpl] at HE;have hle:=znu xs s v _ hk;have HK:Hid (setK xs s v xs.length=xs):=by show _=_;unfold setK;rw [if_pos (by have:=HPL.out;omega),List.take_length]
     rw [q4];rw [HK.out] at HO
     go_wp2_with ((at_builtin;refine zf _ rfl (.tmp 77) (.tmp 81) _ rfl w.heap.size 44 i0 _ 2 32 Tryz.underlying22 hi0 hz00 hz01 hz02 rfl (by decide) _ xs.length (xs.flatMap Ent.cells) rfl (HO.out.below (zzb)) _ 1 (Ent.cells ⟨s,v⟩) rfl rfl (Src.one _ _ _ _) (by simp [Ent.cells,Value.oneCell']) (by unfold maxLen;omega) (by omega) (by first|(simp;done)|omega|(simp;omega)) ?_;intro v2 w2 hown2 hg2 hat2 hty2;have HTY2:=j7xb hty2;clear hty2);have HO2:=j7xb hown2;have HB2:=j7xb (ze (zb hbl (za (Below.refl _ _) _)) hg2 (fun k hk=>hk.2));clear hown2 hg2 hat2)
     go_ret2;exact ⟨v2,rfl,by rw [← HE.out];simpa [List.flatMap_append] using HO2.out,HB2.out⟩
open Go.ChangeShapes Go.WideShapes Go.Deep Go.RowKit Go.Shelf
attribute [local go_sem] Oper.semAt_some
def encE (x:Ent):Array Value:=#[.agg #[.string (B x.name),.string (B x.val)]]
@[go_sem] theorem encE_eq (x:Ent):encE x = #[.agg #[.string (B x.name),.string (B x.val)]]:=rfl
end Go.Proofs.YtfmecpnokefokaaGreatDoor.Tab
namespace Go.Proofs.YtfmecpnokefokaaGreatDoor
open Go.ChangeShapes Go.WideShapes Go.Deep Go.RowKit
set_option maxRecDepth 100000
theorem pre_take (s p:List UInt8) (h:p.length≤s.length):Lib.hasPrefix s p=(s.take p.length == p):=by
 unfold Lib.hasPrefix;rw [Bool.eq_iff_iff,List.isPrefixOf_iff_prefix,beq_iff_eq,List.prefix_iff_eq_take,eq_comm]
end Go.Proofs.YtfmecpnokefokaaGreatDoor
namespace Go.Proofs.YtfmecpnokefokaaGreatDoor.Tab
open Go.ChangeShapes Go.WideShapes Go.Deep Go.RowKit Go.Shelf
attribute [local go_sem] Oper.semAt_some
set_option maxRecDepth 100000
def begB (head:List UInt8) (e:Ent):Bool:=Lib.hasPrefix e.name head
structure WithI (w:World) (A:Nat) (head:List UInt8) (pre:List Ent) (v:Value) (W:World):Prop where
 o:BoxOwn W A (w.heap.size+1) 1 v pre.length ((pre.map Ent.name).flatMap strC)
 z:pre.length=0→v = .slice none 0 0
 h:W.cell? ⟨w.heap.size,0,none⟩=some (.string (B head))
 a:∀ x∈pre,begB head x=true
 b:Below w.heap.size w W
 s:A≤W.heap.size
theorem WithI.lull {w W W':World} {A:Nat} {head:List UInt8} {pre:List Ent} {v:Value} (h:WithI w A head pre v W) (hL:Lull A W W') (hA:w.heap.size≤A):WithI w A head pre v W' :=
 ⟨h.o.lull hL,h.z,hL.cell h.h,h.a,hL.below h.b hA (Nat.le_refl _),Nat.le_trans h.s hL.size⟩
theorem WithI.below {w W W':World} {A:Nat} {head:List UInt8} {pre:List Ent} {v:Value} (h:WithI w A head pre v W) (hb:Below W.heap.size W W'):WithI w A head pre v W' :=
 ⟨h.o.below hb,h.z,(hb.cell (World.block_lt_of_cell? W _ h.h)).trans h.h,h.a,h.b.trans (hb.mono h.b.size),Nat.le_trans h.s hb.size⟩
structure WithX (w:World) (A:Nat) (head:List UInt8) (pre:List Ent) (W:World):Prop where
 x:∃ q x v,pre=q++[x]∧begB head x=false∧WithI w A head q v W
theorem WithX.lull {w W W':World} {A:Nat} {head:List UInt8} {pre:List Ent} (h:WithX w A head pre W) (hL:Lull A W W') (hA:w.heap.size≤A):WithX w A head pre W':=by
 obtain ⟨q,x,v,e,hx,h⟩:=h.x;exact ⟨q,x,v,e,hx,h.lull hL hA⟩
open Go.ChangeShapes Go.WideShapes Go.Deep Go.RowKit
theorem zl0 {xs:List Ent} {s:List UInt8} (ht:there xs s=true):place xs s<xs.length:=by
 rcases Nat.lt_or_ge (place xs s) xs.length with h|h
 ·exact h
 ·unfold there at ht;rw [List.getElem?_eq_none h] at ht;cases ht
theorem zpj {xs:List Ent} (h:Rises xs) (s v:List UInt8):Rises (setL xs s v):=by
 unfold setL
 cases ht:there xs s with
 | false=>rw [if_neg (by simp)];exact zjz h s v ht
 | true =>
  rw [if_pos rfl];obtain ⟨x,hxm⟩:=zae (zl0 ht);have hxn:x.name=s:=by unfold there at ht;rw [hxm] at ht;simpa using ht
  have:=zj0 h (place xs s) x v hxm
  rwa [hxn] at this
theorem setL_len (xs:List Ent) (s v:List UInt8):(setL xs s v).length≤xs.length+1:=by
 unfold setL
 split
 ·rw [List.length_set];omega
 ·rw [List.length_append,List.length_cons,List.length_take,List.length_drop];omega
def setE (kind:Int) (xs:List Ent) (s v:List UInt8):List Ent:=if Cls.mayB kind s=true then setL xs s v else xs
theorem zpk {kind:Int} {xs:List Ent} (h:Rises xs) (s v:List UInt8):Rises (setE kind xs s v):=by
 unfold setE
 split
 ·exact zpj h s v
 ·exact h
theorem setE_len (kind:Int) (xs:List Ent) (s v:List UInt8):(setE kind xs s v).length≤xs.length+1:=by
 unfold setE
 split
 ·exact setL_len xs s v
 ·omega
def ofL (kind:Int) (l:List Ent):List Ent:=l.foldl (fun xs e=>setE kind xs e.name e.val) []
theorem zl1 (kind:Int) (l:List Ent) (k:Nat) (x:Ent) (h:l[k]?=some x):ofL kind (l.take (k+1))=setE kind (ofL kind (l.take k)) x.name x.val:=by
 obtain ⟨h1,rfl⟩:=List.getElem?_eq_some_iff.1 h;unfold ofL;rw [List.take_succ_eq_append_getElem h1,List.foldl_append];rfl
theorem ziw (kind:Int):∀ (l xs:List Ent),Rises xs→Rises (l.foldl (fun xs e=>setE kind xs e.name e.val) xs)∧(l.foldl (fun xs e=>setE kind xs e.name e.val) xs).length≤xs.length+l.length
 | [],xs,h=>⟨h,by simp⟩
 | e :: r,xs,h=>by
  have:=ziw kind r (setE kind xs e.name e.val) (zpk h _ _);have h2:=setE_len kind xs e.name e.val;simp only [List.foldl_cons,List.length_cons];exact ⟨this.1,by omega⟩
theorem ofL_rises (kind:Int) (l:List Ent):Rises (ofL kind l):=(ziw kind l [] List.Pairwise.nil).1
theorem ofL_len (kind:Int) (l:List Ent):(ofL kind l).length≤l.length:=by simpa [ofL] using (ziw kind l [] List.Pairwise.nil).2
structure SetAll (b0 tb:Nat) (lv:Value) (kind:Int) (ys:List Ent) (r:Int) (w:World) (e:Ending) (w':World):Prop where
 e:e = .returned (.int .i64 r)
 h:∃ lv',TabAt w' b0 tb lv' kind ys∧(lv'.ownBlock=lv.ownBlock∨∀ k,lv'.ownBlock=some k→w.heap.size≤k)
 k:Keeps (fun k=>k=tb∨(lv.ownBlock=some k∧b0≤k)) w w'
def setN (kind:Int) (s:List UInt8):Int:=if Cls.mayB kind s=true then 0 else 5
theorem set_all (w:World) (b0 tb:Nat) (lv:Value) (kind:Int) (xs:List Ent) (s v:List UInt8) (h:TabAt w b0 tb lv kind xs) (hs:s.length≤1073741824) (hv:v.length≤65536) (hx:xs.length<10000) :
  Calls Tryz.prog 37 #[.pointer (some ⟨tb,0,none⟩),.string (B s),.string (B v)] w (SetAll b0 tb lv kind (setE kind xs s v) (setN kind s) w):=by
 unfold setE setN
 cases hm:Cls.mayB kind s with
 | false =>
  rw [if_neg (by simp),if_neg (by simp)];refine (set_bad w b0 tb lv kind xs s v h hm hs).mono ?_;rintro e w' ⟨rfl,rfl⟩;exact ⟨rfl,⟨lv,h,.inl rfl⟩,Keeps.refl _ _⟩
 | true =>
  rw [if_pos rfl,if_pos rfl];unfold setL
  cases ht:there xs s with
  | false =>
   rw [if_neg (by simp)]
   exact (set_new w b0 tb lv kind xs s v h hm hs hv hx ht).mono fun e w' h=>⟨h.e,h.h,h.k⟩
  | true =>
   rw [if_pos rfl]
   exact (zrq w b0 tb lv kind xs s v h hm hs hv (by omega) ht).mono fun e w' h=>⟨h.e,h.h,h.k⟩
def OfP (kind:Int) (ys:List Ent) (w:World) (e:Ending) (w':World):Prop:=e = .returned (.pointer (some ⟨w.heap.size,0,none⟩))∧(∃ lv,TabAt w' w.heap.size w.heap.size lv kind ys)∧Below w.heap.size w w'
set_option maxHeartbeats 1600000 in
theorem of_ok (kind:Int) (l:List Ent) (u:Value) (w:World) (h1:1≤kind) (h2:kind≤4) (hu:Sl w Ent.cells 2 u l) (hl:l.length<10000) (hn:∀ e∈l,e.name.length≤1073741824∧e.val.length≤65536) :
  Calls Tryz.prog 13 #[.int .i64 kind,u] w (OfP kind (ofL kind l) w):=by
 have HN:=j7xb fun w=>new_ok kind w h1 h2;obtain ⟨A,c,rfl,hc1,hc2,hn0,hA⟩:=hu;have HA:=j7xb hA;have HNL:=j7xb hn;clear hA hn hn0 h1 h2;go_enter Tryz.func13,Tryz.ntmps13
 go_wp2_with (go_at_call 36;refine (HN.out _).mono ?_;rintro e w1 ⟨rfl,ht,hb⟩;have HT:=j7xb ht;have HB:=j7xb hb;clear ht hb)
 go_loopw [14] (fun i w'=>∃ (k:Nat) (lv:Value),k≤l.length∧i = .int .i64 k∧Hid (TabAt w' w.heap.size w.heap.size lv kind (ofL kind (l.take k)))∧Hid (Below w.heap.size w w')) (fun i _=>l.length - (intOf i).toNat)
 case atStart=>exact ⟨0,_,by omega,rfl,HT.out,HB.out⟩
 case round =>
  clear HT HB;obtain ⟨k,lv,hk,rfl,HT,HB⟩:=hrel;have hbs:=HB.out.size;by_cases hlt:k<l.length
  ·obtain ⟨b,off,rfl,hb,hc⟩:=HA.out (by omega)
   obtain ⟨x,hxm⟩:=zae hlt;have e0:=(HB.out.cell (p:=⟨b,off+k*2,none⟩) hb).trans (by have:=hc k _ hxm 0 _ rfl;simpa using this);have e1:=(HB.out.cell (p:=⟨b,off+k*2+1,none⟩) hb).trans (hc k _ hxm 1 _ rfl)
   haveI:Old wr b:=⟨by omega⟩
   have k0:(0:Int)≤(k:Int):=by omega
   have k1:(k:Int)<(l.length:Int):=by omega
   have hxl:=HNL.out x (List.mem_of_getElem? hxm);have hle:=ofL_len kind (l.take k);rw [List.length_take] at hle;have HS:=j7xb fun W (hW:Below wr.heap.size wr W)=>set_all W w.heap.size w.heap.size lv kind (ofL kind (l.take k)) x.name x.val (HT.out.below hW) hxl.1 hxl.2 (by omega);rw [← zl1 kind l k x hxm] at HS;clear hc hxm hle
   go_wp2_with (go_at_call 37;refine (HS.out _ (zzr)).mono ?_;rintro e w4 ⟨rfl,⟨lv2,ht2,-⟩,hk2⟩;have HT2:=j7xb ht2;have HB2:=j7xb (ze (za HB.out _) hk2 (fun k hk=>hk.elim (fun e=>by omega) (·.2)));clear ht2 hk2)
   go_roundw
   case rel=>exact ⟨k+1,lv2,by omega,by go_num,HT2.out,HB2.out⟩
   case measure=>simp [intOf];omega
  ·have hk2:k=l.length:=by omega
   subst hk2;have ht:=HT.out;rw [List.take_length] at ht;have HT2:=j7xb ht;have d0:=no hlt;clear hlt ht;go_wp2;go_ret;exact ⟨rfl,⟨lv,HT2.out⟩,HB.out⟩
set_option maxHeartbeats 3200000 in
theorem refOf_any (kind:Int) (l:List Ent) (u:Value) (w:World) (hu:Sl w Ent.cells 2 u l) (hl:l.length<10000) (hn:∀ e∈l,e.name.length≤1073741824∧e.val.length≤65536) :
  Calls Tryz.prog 15 #[.int .i64 kind,u] w (RowP (ofL kind l) w):=by
 obtain ⟨A,c,rfl,hc1,hc2,hn0,hA⟩:=hu;have HA:=j7xb hA;have HNL:=j7xb hn;clear hA hn hn0;go_enter Tryz.func15,Tryz.ntmps15;go_wp2
 go_loopw [5,6] (fun o i w'=>∃ (v:Value) (k:Nat),v=o∧k≤l.length∧i = .int .i64 k∧Hid (Own w' w.heap.size 2 v (ofL kind (l.take k)).length ((ofL kind (l.take k)).flatMap Ent.cells))∧Hid (Below w.heap.size w w')) (fun _ i _=>l.length - (intOf i).toNat)
 case atStart=>exact ⟨_,0,rfl,by omega,rfl,Own.nil _ _ _,Below.refl _ _⟩
 case round =>
  obtain ⟨v,k,rfl,hk,rfl,HO,HB⟩:=hrel;have hbs:=HB.out.size;by_cases hlt:k<l.length
  ·obtain ⟨b,off,rfl,hb,hc⟩:=HA.out (by omega)
   obtain ⟨x,hxm⟩:=zae hlt;have e0:=(HB.out.cell (p:=⟨b,off+k*2,none⟩) hb).trans (by have:=hc k _ hxm 0 _ rfl;simpa using this);have e1:=(HB.out.cell (p:=⟨b,off+k*2+1,none⟩) hb).trans (hc k _ hxm 1 _ rfl)
   haveI:Old wr b:=⟨by omega⟩
   have k0:(0:Int)≤(k:Int):=by omega
   have k1:(k:Int)<(l.length:Int):=by omega
   have hxl:=HNL.out x (List.mem_of_getElem? hxm);have hle:=ofL_len kind (l.take k);rw [List.length_take] at hle;have hsn:=zl1 kind l k x hxm;have HSN:=j7xb hsn;have hr:=ofL_rises kind (l.take k);have HX:=j7xb hxl;have HR:=j7xb hr;generalize hys:ofL kind (l.take k)=ys at *;clear hc hxm hsn hr hxl
   cases hm:Cls.mayB kind x.name with
   | false =>
    have HSB:=j7xb fun W=>zpi kind v x.name x.val W hm HX.out.1;have HE:Hid (setE kind ys x.name x.val=ys):=by show _=_;unfold setE;rw [hm,if_neg (by simp)]
    clear hm;go_wp2_with fail
    go_region_with (go_at_call 26;refine (HSB.out _).mono ?_;rintro e w4 ⟨rfl,rfl⟩)
    all_goals
     go_wp2;go_roundw
     case rel=>exact ⟨_,k+1,rfl,by omega,by go_num,by show Own _ _ _ _ _ _;rw [HSN.out,HE.out];exact HO.out.below (zzb),zb HB.out (zzb)⟩
     case measure=>simp [intOf];omega
   | true =>
    have HSO:=j7xb fun W (hW:Below wr.heap.size wr W)=>zrr kind ys v x.name x.val W ((HO.out.below hW).sl ent_len rfl) HR.out (by omega) hm HX.out.1 HX.out.2;have HE:Hid (setE kind ys x.name x.val=setL ys x.name x.val):=by show _=_;unfold setE;rw [hm,if_pos rfl]
    clear hm;go_wp2_with fail
    go_region_with (go_at_call 26;refine (HSO.out _ (zzb)).mono ?_;rintro e w4 ⟨v4,rfl,ho4,hb4⟩;have HO4:=j7xb ho4;have HB4:=j7xb hb4;clear ho4 hb4)
    all_goals
     go_wp2;go_roundw
     case rel=>exact ⟨v4,k+1,rfl,by omega,by go_num,by show Own _ _ _ _ _ _;rw [HSN.out,HE.out];exact HO4.out.mono (by simp;omega),zb HB.out (zb (zzb) HB4.out)⟩
     case measure=>simp [intOf];omega
  ·have hk2:k=l.length:=by omega
   subst hk2;have ho:=HO.out;rw [List.take_length] at ho;have HO2:=j7xb ho;have d0:=no hlt;clear hlt ho;go_wp2;go_ret;exact ⟨v,rfl,HO2.out,HB.out⟩
end Go.Proofs.YtfmecpnokefokaaGreatDoor.Tab
