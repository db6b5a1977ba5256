/-
  The walks of layer 19 (tables), on: slices.Insert of entries at the end, awake. Conditions: names of at most 2^30 bytes, at most 2^20 entries.
-/
import Derived.Test.YtfmecpnokefokaaGreatDoorExp11
import Derived.Test.YtfmecpnokefokaaGreatDoorExp1
set_option linter.unusedSimpArgs false
set_option linter.unusedVariables false
namespace Go.Proofs.YtfmecpnokefokaaGreatDoor.Ex
open Go.ChangeShapes Go.WideShapes Go.Deep Go.RowKit Cls Md Mc Pa Li Pat Bd
set_option maxRecDepth 100000
theorem _root_.Go.Proofs.YtfmecpnokefokaaGreatDoor.j7yb {p:Prop} (h:p):Go.RowKit.Hid p:=Go.Lib.hid h
theorem ze3 {xs:List Pc} {k:Nat} {p:Pc} (hp:xs[k]?=some p):txL (xs.take (k+1))=txL (xs.take k)++p.tx:=by
 rw [List.take_add_one,hp,zbh];simp [txL]
theorem txL_le {xs:List Pc} (k:Nat):(txL (xs.take k)).length≤(txL xs).length:=by
 conv=>rhs;rw [← List.take_append_drop k xs,zbh,List.length_append]
 omega
set_option maxHeartbeats 3200000 in
theorem text_any (a:Option Addr) (s:List UInt8) (w:World) {R:List Pc×Int} (hP:Calls Tryz.prog 12 #[.pointer a,.string (B s)] w (PcsP R w)) (hR:R.1.length≤2000000000) (hl:(txL R.1).length≤1048576) :
  Calls Tryz.prog 16 #[.pointer a,.string (B s)] w (ResP (txL R.1,R.2) w):=by
 obtain ⟨xs,er⟩:=R;dsimp only at hR hl ⊢;have HP:=j7yb hP;clear hP;have HTL:=j7yb hl;clear hl;go_enter Tryz.func16,Tryz.ntmps16
 go_wp2_with (go_at_call 12;refine HP.out.mono ?_;rintro e w1 ⟨v,rfl,ho,hb⟩;dsimp only at ho;obtain ⟨A,c,rfl,hA⟩:=ho.form0;have HO:=j7yb ho;have HB:=j7yb hb;have HA:=j7yb hA;clear ho hb hA)
 go_loopw [19] (fun i wr=>∃ (k:Nat) (v:Value),i = .int .i64 k∧k≤xs.length∧Hid (Below w1.heap.size w1 wr)∧Hid (Bld wr w1.heap.size (w1.heap.size+1) v (txL (xs.take k)))) (fun i _=>xs.length - (intOf i).toNat)
 case atStart=>exact ⟨0,_,rfl,by omega,j7yb (za (Below.refl _ _) _),j7yb (Bld.new w1 _)⟩
 case round =>
  obtain ⟨k,v,rfl,hk,HB1,HD⟩:=hrel;by_cases hlt:k<xs.length
  ·obtain ⟨p,hp⟩:=zae hlt
   obtain ⟨g,off,rfl⟩:=HA.out (by omega);obtain ⟨hg1,e0,e1,e2⟩:=own_pc HO.out hp;have hg:=World.block_lt_of_cell? w1 _ e0;have e0:=(HB1.out.cell (p:=⟨g,off+k*3,none⟩) hg).trans e0;have e1:=(HB1.out.cell (p:=⟨g,off+k*3+1,none⟩) hg).trans e1;have e2:=(HB1.out.cell (p:=⟨g,off+k*3+2,none⟩) hg).trans e2
   haveI:Old wr g:=⟨World.block_lt_of_cell? _ _ e0⟩
   have k0:(0:Int)≤(k:Int):=by omega
   have k1:(k:Int)<(xs.length:Int):=by omega
   have htk:=ze3 hp;have hle:=txL_le (xs:=xs) (k+1);rw [htk] at hle;have hsz:w1.heap.size+1≤wr.heap.size:=HD.out.lt;have HW:=j7yb (wstr_any (s:=p.tx) (HD.out.below (za (Below.refl _ _) (.cells #[.bool p.ex,.bool p.qu,.string (B p.tx)] 35))) (by have:=HTL.out;rw [List.length_append] at hle;omega) (by simp;omega));have HTK:=j7yb htk;clear hle htk hp hg1 hg
   go_wp2_with (go_at_call 42;refine HW.out.mono ?_;rintro e w3 ⟨rfl,v3,hd3,hk3⟩;have HD3:=j7yb hd3;have HB3:=j7yb (ze (za HB1.out _) hk3 (fun k q=>by omega));clear hd3 hk3)
   go_roundw
   case rel=>exact ⟨k+1,v3,by go_num,by omega,HB3,by rw [HTK.out];exact HD3⟩
   case measure=>simp [intOf];omega
  ·have hke:k=xs.length:=by omega
   subst hke;have hd:=HD.out;rw [List.take_length] at hd;have HS:=j7yb (zk9 hd (B0:=w1.heap.size) (Nat.le_refl _) (by omega));have d0:=no hlt;clear hd hlt
   go_wp2_with (go_at_call 43;refine HS.out.mono ?_;rintro e w3 ⟨rfl,hb⟩;have HB3:=j7yb hb;clear hb)
   go_ret2;exact ⟨rfl,HB.out.trans ((HB1.out.trans HB3.out).mono HB.out.size)⟩
end Go.Proofs.YtfmecpnokefokaaGreatDoor.Ex
namespace Go.Proofs.YtfmecpnokefokaaGreatDoor.Bd
open Go.ChangeShapes Go.WideShapes Go.Deep Go.RowKit
set_option maxRecDepth 100000 in
set_option maxHeartbeats 2000000 in
theorem zf1 {w:World} {b R:Nat} {v:Value} {l:List UInt8} (c:UInt8) (h:Bld w b R v l) (hlen:l.length+1≤70368744177664) (hR:R≤w.heap.size) :
  Calls Tryz.prog 44 #[.pointer (some ⟨b,0,none⟩),.int .u8 c.toNat] w fun e w'=>e = .returned .nilIface∧∃ v',Bld w' b R v' (l++[c])∧Keeps (fun k=>k=b∨v.ownBlock=some k) w w':=by
 obtain ⟨i0,hi,hz0,hz1,hz2⟩:=info_parts zd0;have HC:=j7yb (zk8 h);clear h;go_enter Tryz.func44,Tryz.ntmps44
 go_wp2_with (go_at_call 70;refine HC.out.mono ?_)
 rintro e w1 ⟨rfl,h1,c0,hk1⟩;have HK1:=j7yb hk1;have hR1:R≤w1.heap.size:=Nat.le_trans hR hk1.size;obtain ⟨_,c1,f0,f1,sh⟩:=h1.c;have H1:=j7yb h1;clear h1 hk1 sh
 go_wp2_with (at_builtin;refine zfn rfl (.tmp 11) (.tmp 13) 42 rfl R 5 i0 Tryz.underlying42 hi hz0 hz1 hz2 _ _ _ rfl H1.out.row c _ rfl rfl (by omega) hR1 ?_)
 intro v' w2 hown' hk2 hgrow;rw [zda,show [Value.int .u8 (c.toNat:Int)]=[c].flatMap byC from rfl,← List.flatMap_append,← zda,show l.length+1=(l++[c]).length by simp] at hown';obtain ⟨d0,d1,e1,hB⟩:=H1.out.store c0 hown' hgrow;have HB:=j7yb hB;have HK2:=j7yb (show Keeps (fun k=>v.ownBlock=some k) w1 w2 from ⟨hgrow.os,hgrow.tape,hgrow.output,hgrow.size,fun k hk hne=>hgrow.block k hk (fun e=>hne e.symm),hk2.ty⟩)
 obtain ⟨ao,n',cap,rfl⟩:∃ ao n' cap,v' = .slice ao n' cap:=by
  rcases hown'.2 with ⟨hv,_⟩|⟨g,cap,cur,hv,_⟩
  ·exact ⟨_,_,_,hv⟩
  ·exact ⟨_,_,_,hv⟩
 clear hB hk2 hown' hgrow;go_wp2;go_ret;refine ⟨rfl,_,HB.out,?_⟩;exact ((HK1.out.mono fun k _ e=>.inl e).trans (HK2.out.mono fun k _ e=>.inr e)).trans (Keeps.setCell (F:=fun k=>k=b∨v.ownBlock=some k) w2 (a:=⟨b,1,none⟩) (.inl rfl) _)
end Go.Proofs.YtfmecpnokefokaaGreatDoor.Bd
namespace Go.Proofs.YtfmecpnokefokaaGreatDoor.Ex
open Go.ChangeShapes Go.WideShapes Go.Deep Go.RowKit Cls Md Mc Pa Li Pat Bd
set_option maxRecDepth 100000
def patI (p:Pc) (j:Nat):List UInt8:=patC ⟨p.ex,p.qu,p.tx.take j⟩
theorem zj1 {p:Pc} {j:Nat} (h:j<p.tx.length):patI p (j+1)=patI p j++(if p.qu=true then [92,p.tx[j]] else [p.tx[j]]):=by
 unfold patI patC;dsimp only;have e:p.tx.take (j+1)=p.tx.take j++[p.tx[j]]:=by rw [List.take_add_one,List.getElem?_eq_getElem h];rfl
 rw [e]
 split
 ·rw [List.flatMap_append];rfl
 ·rfl
theorem zl2 (p:Pc):patI p p.tx.length=patC p:=by unfold patI;rw [List.take_length]
theorem znv (p:Pc) (j:Nat):(patI p j).length≤2*p.tx.length:=by
 have h:=pat_le [⟨p.ex,p.qu,p.tx.take j⟩];simp [txL] at h;unfold patI;omega
structure PbI (w1:World) (qb:Nat) (p:Pc) (l:List UInt8) (v:Value) (X:World):Prop where
 be:Below w1.heap.size w1 X
 d:Bld X w1.heap.size (w1.heap.size+1) v l
 q:Qb X qb p
 ne:qb≠w1.heap.size
theorem PbI.step {w1 X X':World} {qb:Nat} {p:Pc} {l l':List UInt8} {v v':Value} (h:PbI w1 qb p l v X) (hd:Bld X' w1.heap.size (w1.heap.size+1) v' l') (hk:Keeps (fun k=>k=w1.heap.size∨v.ownBlock=some k) X X'):PbI w1 qb p l' v' X' :=
 ⟨ze h.be hk (fun k q=>q.elim (fun e=>Nat.le_of_eq e.symm) (fun e=>by have:=(h.d.tyv e).2.1;omega)),hd,h.q.block (hk.block qb h.q.lt (fun q=>q.elim h.ne (fun e=>by have:=(h.d.tyv e).1;rw [h.q.t] at this;exact absurd this (by decide)))),h.ne⟩
theorem zj2 {xs:List Pc} {k:Nat} {p:Pc} (hp:xs[k]?=some p):(xs.take (k+1)).flatMap patC=(xs.take k).flatMap patC++patC p:=by
 rw [List.take_add_one,hp,List.flatMap_append];simp
theorem zix {xs:List Pc} (k:Nat):((xs.take k).flatMap patC).length≤(xs.flatMap patC).length:=by
 conv=>rhs;rw [← List.take_append_drop k xs,List.flatMap_append,List.length_append]
 omega
set_option maxHeartbeats 6400000 in
theorem zmy (a:Option Addr) (s:List UInt8) (w:World) {R:List Pc×Int} (hP:Calls Tryz.prog 12 #[.pointer a,.string (B s)] w (PcsP R w)) (hR:R.1.length≤2000000000) (hl:(txL R.1).length≤1048576) :
  Calls Tryz.prog 17 #[.pointer a,.string (B s)] w (ResP (R.1.flatMap patC,R.2) w):=by
 obtain ⟨xs,er⟩:=R;dsimp only at hR hl ⊢;have HP:=j7yb hP;clear hP;have HTL:=j7yb hl;have HFL:=j7yb (show (xs.flatMap patC).length≤2097152 by have:=pat_le xs;omega);clear hl;go_enter Tryz.func17,Tryz.ntmps17
 go_wp2_with (go_at_call 12;refine HP.out.mono ?_;rintro e w1 ⟨v,rfl,ho,hb⟩;dsimp only at ho;obtain ⟨A,c,rfl,hA⟩:=ho.form0;have HO:=j7yb ho;have HB:=j7yb hb;have HA:=j7yb hA;clear ho hb hA)
 go_loopw [20] (fun i wr=>∃ (k:Nat) (v:Value),i = .int .i64 k∧k≤xs.length∧Hid (Below w1.heap.size w1 wr)∧Hid (Bld wr w1.heap.size (w1.heap.size+1) v ((xs.take k).flatMap patC))) (fun i _=>xs.length - (intOf i).toNat)
 case atStart=>exact ⟨0,_,rfl,by omega,j7yb (za (Below.refl _ _) _),j7yb (Bld.new w1 _)⟩
 case round =>
  obtain ⟨k,v,rfl,hk,HB1,HD⟩:=hrel;by_cases hlt:k<xs.length
  ·obtain ⟨p,hp⟩:=zae hlt
   obtain ⟨g,off,rfl⟩:=HA.out (by omega);obtain ⟨hg1,e0,e1,e2⟩:=own_pc HO.out hp;have hg:=World.block_lt_of_cell? w1 _ e0;have e0:=(HB1.out.cell (p:=⟨g,off+k*3,none⟩) hg).trans e0;have e1:=(HB1.out.cell (p:=⟨g,off+k*3+1,none⟩) hg).trans e1;have e2:=(HB1.out.cell (p:=⟨g,off+k*3+2,none⟩) hg).trans e2
   haveI:Old wr g:=⟨World.block_lt_of_cell? _ _ e0⟩
   have k0:(0:Int)≤(k:Int):=by omega
   have k1:(k:Int)<(xs.length:Int):=by omega
   have htk:=zj2 hp;have hle:=zix (xs:=xs) (k+1);have hle2:=zix (xs:=xs) k;have hsz:w1.heap.size+1≤wr.heap.size:=HD.out.lt;have hal:=za (Below.refl wr.heap.size wr) (.cells #[.bool p.ex,.bool p.qu,.string (B p.tx)] 35)
   have HI:=j7yb (show PbI w1 wr.heap.size p ((xs.take k).flatMap patC++patI p 0) v (wr.alloc (.cells #[.bool p.ex,.bool p.qu,.string (B p.tx)] 35)) from
    ⟨zb HB1.out hal,by rw [show patI p 0=[] by unfold patI patC;dsimp only;split <;> rfl,List.append_nil];exact HD.out.below hal,Qb.new wr p,by omega⟩)
   have hptx:p.tx.length≤1048576:=by
    have h1:=txL_le (xs:=xs) (k+1);rw [ze3 hp,List.length_append] at h1;have:=HTL.out;omega
   have HTK:=j7yb htk;have hacc:((xs.take k).flatMap patC).length≤2097152:=Nat.le_trans hle2 HFL.out;clear hle hle2 htk hp hg1 hg hal;generalize (xs.take k).flatMap patC=acc at *;go_wp2;generalize wr.heap.size=qb at *
   go_loopw [27] (fun i X=>∃ (j:Nat) (v:Value),i = .int .i64 j∧j≤p.tx.length∧Hid (PbI w1 qb p (acc++patI p j) v X)) (fun i _=>p.tx.length - (intOf i).toNat)
   case atStart=>exact ⟨0,_,rfl,by omega,HI⟩
   case round =>
    obtain ⟨j,v4,rfl,hj,HJ⟩:=hrel;have hle:=znv p j;have q1:=HJ.out.q.c 1 _ rfl;have q2:=HJ.out.q.c 2 _ rfl;have hqs:=HJ.out.be.size;have hqr:w1.heap.size+1≤wr.heap.size:=HJ.out.d.lt
    haveI:Old wr qb:=⟨HJ.out.q.lt⟩
    by_cases hjl:j<p.tx.length
    ·have j0:(0:Int)≤(j:Int):=by omega
     have j1:(j:Int)<(p.tx.length:Int):=by omega
     have HN:=j7yb (zj1 hjl)
     cases hq:p.qu with
     | true =>
      rw [hq] at q1 HN;have HW1:=j7yb (zf1 92 HJ.out.d (by rw [List.length_append];omega) hqr);rw [show (((92:UInt8).toNat:Nat):Int)=92 from rfl] at HW1
      go_wp2_with (first
       | (go_at_call 44;refine HW2.out.mono ?_;rintro e w6 ⟨rfl,v6,hd6,hk6⟩;have HJ6:=j7yb (HJ5.out.step hd6 hk6);clear hd6 hk6)
       | (go_at_call 44;refine HW1.out.mono ?_;rintro e w5 ⟨rfl,v5,hd5,hk5⟩;have HJ5:=j7yb (HJ.out.step hd5 hk5);clear hd5 hk5;have q25:=HJ5.out.q.c 2 _ rfl;haveI:Old w5 qb:=⟨HJ5.out.q.lt⟩;have HW2:=j7yb (zf1 p.tx[j] HJ5.out.d (by simp only [List.length_append,List.length_singleton];omega) HJ5.out.d.lt)))
      go_roundw
      case rel=>exact ⟨j+1,v6,by go_num,by omega,by rw [HN.out,if_pos (by trivial),show ([92,p.tx[j]]:List UInt8)=[92]++[p.tx[j]] from rfl,← List.append_assoc,← List.append_assoc];exact HJ6⟩
      case measure=>simp [intOf];omega
     | false =>
      rw [hq] at q1 HN;have HW1:=j7yb (zf1 p.tx[j] HJ.out.d (by rw [List.length_append];omega) hqr)
      go_wp2_with (go_at_call 44;refine HW1.out.mono ?_;rintro e w5 ⟨rfl,v5,hd5,hk5⟩;have HJ5:=j7yb (HJ.out.step hd5 hk5);clear hd5 hk5)
      go_roundw
      case rel=>exact ⟨j+1,v5,by go_num,by omega,by rw [HN.out,if_neg (by decide),← List.append_assoc];exact HJ5⟩
      case measure=>simp [intOf];omega
    ·have hje:j=p.tx.length:=by omega
     subst hje;have HE:=j7yb (show Bld wr w1.heap.size (w1.heap.size+1) v4 ((xs.take (k+1)).flatMap patC) by rw [HTK.out,← zl2];exact HJ.out.d);have d0:=no hjl;clear hjl;go_wp2;go_roundw
     case rel=>exact ⟨k+1,v4,by go_num,by omega,j7yb HJ.out.be,HE⟩
     case measure=>simp [intOf];omega
  ·have hke:k=xs.length:=by omega
   subst hke;have hd:=HD.out;rw [List.take_length] at hd;have HS:=j7yb (zk9 hd (B0:=w1.heap.size) (Nat.le_refl _) (by omega));have d0:=no hlt;clear hd hlt
   go_wp2_with (go_at_call 43;refine HS.out.mono ?_;rintro e w3 ⟨rfl,hb⟩;have HB3:=j7yb hb;clear hb)
   go_ret2;exact ⟨rfl,HB.out.trans ((HB1.out.trans HB3.out).mono HB.out.size)⟩
theorem zj3:∀ (l:List (Pc×Int)) (acc:List Pc),(takeE l acc).1.length≤acc.length+l.length
 | [],acc=>by simp [takeE]
 | (p,e) :: r,acc=>by
  rw [takeE]
  split
  ·simp
  ·have:=zj3 r (acc++[p])
   simp at this ⊢;omega
theorem zf2 (one:Pc→Res):∀ (l:List Pc) (n:Nat),(tellE one n l).length=l.length
 | [],_=>rfl
 | p :: r,n=>by rw [tellE,List.length_cons,List.length_cons,zf2 one r]
theorem zec (g:Look) (f:Nat) (w:List UInt8) (hs:w.length≤30000):(expG g f w).1.length≤2000000000:=by
 cases f with
 | zero=>simp [expG]
 | succ f =>
  rw [zdu];have:=zj3 (tellE (oneG (textG g f) (patG g f) g) 0 (piecesL w)) [];rw [zf2] at this;have:=zbj hs;simp at *;omega
theorem zj4 {w0:World} {a:Option Addr} {g:Look} (hm:MaxL w0) (hg:GetC w0 (.pointer a) g) {M:Nat} (hM0:0<M) (hM:M≤1048577) (hI:ItoaC w0 M) (hgl:∀ b v,g b=some v→v.length<M):∀ f,f≤30001 →
  (∀ (u:List UInt8) (W:World),Below w0.heap.size w0 W→u.length<f→Calls Tryz.prog 12 #[.pointer a,.string (B u)] W (PcsP (expG g f u) W)) ∧
  (∀ (u:List UInt8) (W:World),Below w0.heap.size w0 W→u.length<f→Calls Tryz.prog 16 #[.pointer a,.string (B u)] W (ResP (textG g f u) W)) ∧
  (∀ (u:List UInt8) (W:World),Below w0.heap.size w0 W→u.length<f→Calls Tryz.prog 17 #[.pointer a,.string (B u)] W (ResP (patG g f u) W))
 | 0,_=>⟨fun _ _ _ h=>absurd h (Nat.not_lt_zero _),fun _ _ _ h=>absurd h (Nat.not_lt_zero _),fun _ _ _ h=>absurd h (Nat.not_lt_zero _)⟩
 | f+1,hf=>by
  obtain ⟨-,iT,iP⟩:=zj4 hm hg hM0 hM hI hgl f (by omega)
  have hp:∀ (u:List UInt8) (W:World),Below w0.heap.size w0 W→u.length<f+1→Calls Tryz.prog 12 #[.pointer a,.string (B u)] W (PcsP (expG g (f+1) u) W):=fun u W hW hu=>by
   rw [zdu];refine pcs_any a u W (by omega) (zkz (fun _=>zl3 _ _ _) (fun a v h=>by have:=hgl a v h;omega)) fun p hp hx W' hW'=>?_;have hok:=zjv u p hp hx;have hl:=zi9 u p hp hx
   have h1:1≤p.tx.length:=by rcases hok with ⟨r,e⟩|⟨c,r,e⟩ <;> rw [e] <;> simp
   have hb:=zb hW hW';exact one_any p hok (hm.below hb) (hg.below hb) hM0 hM (hI.below hb) hgl (by omega) (fun x X hX hx=>iT x X (zb hb hX) (by omega)) (fun x X hX hx=>iP x X (zb hb hX) (by omega)) (fun x=>znx _ _ _)
  refine ⟨hp,fun u W hW hu=>?_,fun u W hW hu=>?_⟩
  ·exact text_any a u W (hp u W hW hu) (zec _ _ _ (by omega)) (zcc _ _ _)
  ·exact zmy a u W (hp u W hW hu) (zec _ _ _ (by omega)) (zcc _ _ _)
set_option maxHeartbeats 3200000 in
theorem zpl (vv:Value) (s:List UInt8) (w:World) {R:List Pc×Int} (hP:Calls Tryz.prog 14 #[vv,.string (B s)] w (PcsP R w)) (hR:R.1.length≤2000000000) (hl:(txL R.1).length≤1048576) :
  Calls Tryz.prog 18 #[vv,.string (B s)] w (ResP (txL R.1,R.2) w):=by
 obtain ⟨xs,er⟩:=R;dsimp only at hR hl ⊢;have HP:=j7yb hP;clear hP;have HTL:=j7yb hl;clear hl;go_enter Tryz.func18,Tryz.ntmps18
 go_wp2_with (go_at_call 14;refine HP.out.mono ?_;rintro e w1 ⟨v,rfl,ho,hb⟩;dsimp only at ho;obtain ⟨A,c,rfl,hA⟩:=ho.form0;have HO:=j7yb ho;have HB:=j7yb hb;have HA:=j7yb hA;clear ho hb hA)
 go_loopw [8,9] (fun t i wr=>∃ k:Nat,t = .string (B (txL (xs.take k)))∧i = .int .i64 k∧k≤xs.length∧wr=w1) (fun _ i _=>xs.length - (intOf i).toNat)
 case atStart=>exact ⟨0,rfl,rfl,by omega,rfl⟩
 case round =>
  obtain ⟨k,rfl,rfl,hk,rfl⟩:=hrel;by_cases hlt:k<xs.length
  ·obtain ⟨p,hp⟩:=zae hlt
   obtain ⟨g,off,rfl⟩:=HA.out (by omega);obtain ⟨hg1,e0,e1,e2⟩:=own_pc HO.out hp;have k0:(0:Int)≤(k:Int):=by omega
   have k1:(k:Int)<(xs.length:Int):=by omega
   have HTK:=j7yb (ze3 hp);have hl2:=txL_le (xs:=xs) (k+1);rw [HTK.out,List.length_append] at hl2;have hl3:(txL (xs.take k)).length≤1048576:=by have:=HTL.out;omega
   have hl4:p.tx.length≤1048576:=by have:=HTL.out;omega
   clear hg1 hp hl2;generalize txL (xs.take k)=t at *;go_wp2;go_roundw
   case rel=>exact ⟨k+1,by rw [HTK.out],by go_num,by omega,trivial⟩
   case measure=>simp [intOf];omega
  ·have hke:k=xs.length:=by omega
   subst hke;have d0:=no hlt;rw [List.take_length];clear hlt;go_wp2;go_ret2;exact ⟨rfl,HB.out⟩
set_option maxHeartbeats 3200000 in
theorem zkh (vv:Value) (s:List UInt8) (w:World) {R:List Pc×Int} (hP:Calls Tryz.prog 14 #[vv,.string (B s)] w (PcsP R w)) (hR:R.1.length≤2000000000) (hl:(txL R.1).length≤1048576) :
  Calls Tryz.prog 19 #[vv,.string (B s)] w (ResP (R.1.flatMap patC,R.2) w):=by
 obtain ⟨xs,er⟩:=R;dsimp only at hR hl ⊢;have HP:=j7yb hP;clear hP;have HTL:=j7yb hl;have HFL:=j7yb (show (xs.flatMap patC).length≤2097152 by have:=pat_le xs;omega);clear hl;go_enter Tryz.func19,Tryz.ntmps19
 go_wp2_with (go_at_call 14;refine HP.out.mono ?_;rintro e w1 ⟨v,rfl,ho,hb⟩;dsimp only at ho;obtain ⟨A,c,rfl,hA⟩:=ho.form0;have HO:=j7yb ho;have HB:=j7yb hb;have HA:=j7yb hA;clear ho hb hA)
 go_loopw [8,9] (fun t i wr=>∃ k:Nat,t = .string (B ((xs.take k).flatMap patC))∧i = .int .i64 k∧k≤xs.length∧wr=w1) (fun _ i _=>xs.length - (intOf i).toNat)
 case atStart=>exact ⟨0,rfl,rfl,by omega,rfl⟩
 case round =>
  obtain ⟨k,rfl,rfl,hk,rfl⟩:=hrel;by_cases hlt:k<xs.length
  ·obtain ⟨p,hp⟩:=zae hlt
   obtain ⟨g,off,rfl⟩:=HA.out (by omega);obtain ⟨hg1,e0,e1,e2⟩:=own_pc HO.out hp;have k0:(0:Int)≤(k:Int):=by omega
   have k1:(k:Int)<(xs.length:Int):=by omega
   have HTK:=j7yb (zj2 hp)
   have hptx:p.tx.length≤1048576:=by
    have h1:=txL_le (xs:=xs) (k+1);rw [ze3 hp,List.length_append] at h1;have:=HTL.out;omega
   have hacc:((xs.take k).flatMap patC).length≤2097152:=Nat.le_trans (zix k) HFL.out;clear hg1 hp;have H00:=j7yb (show (xs.take k).flatMap patC=(xs.take k).flatMap patC++patI p 0 by rw [show patI p 0=[] by unfold patI patC;dsimp only;split <;> rfl,List.append_nil]);generalize (xs.take k).flatMap patC=acc at *;go_wp2
   go_loopw [8,10] (fun t i X=>∃ j:Nat,t = .string (B (acc++patI p j))∧i = .int .i64 j∧j≤p.tx.length∧X=wr) (fun _ i _=>p.tx.length - (intOf i).toNat)
   case atStart=>exact ⟨0,by rw [← H00.out],rfl,by omega,by trivial⟩
   case round =>
    obtain ⟨j,rfl,rfl,hj,rfl⟩:=hrel;have hle:=znv p j;have hle2:(acc++patI p j).length≤8388608:=by rw [List.length_append];omega
    by_cases hjl:j<p.tx.length
    ·have j0:(0:Int)≤(j:Int):=by omega
     have j1:(j:Int)<(p.tx.length:Int):=by omega
     have j2:(j:Int)≤(j:Int)+1:=by omega
     have j3:(j:Int)+1≤(p.tx.length:Int):=by omega
     have HN:=j7yb (zj1 hjl)
     have hsub:((p.tx.take (j+1)).drop j)=[p.tx[j]]:=by
      rw [List.take_add_one,List.getElem?_eq_getElem hjl,List.drop_append_of_le_length (by rw [List.length_take];omega),List.drop_eq_nil_of_le (by rw [List.length_take];omega)];rfl
     cases hq:p.qu with
     | true =>
      rw [hq] at e1 HN;rw [if_pos rfl] at HN;have HE:=j7yb (show acc++patI p (j+1)=acc++patI p j++[92,p.tx[j]] by rw [HN.out];simp);clear HN;generalize acc++patI p j=t at *;go_wp2;go_roundw
      case rel=>exact ⟨j+1,by rw [HE.out],by go_num,by omega,by trivial⟩
      case measure=>simp [intOf];omega
     | false =>
      rw [hq] at e1 HN;rw [if_neg (by decide)] at HN;have HE:=j7yb (show acc++patI p (j+1)=acc++patI p j++[p.tx[j]] by rw [HN.out];simp);clear HN;generalize acc++patI p j=t at *;go_wp2;go_roundw
      case rel=>exact ⟨j+1,by rw [HE.out],by go_num,by omega,by trivial⟩
      case measure=>simp [intOf];omega
    ·have hje:j=p.tx.length:=by omega
     subst hje;have d0:=no hjl;clear hjl;have HE:=j7yb (show (xs.take (k+1)).flatMap patC=acc++patI p p.tx.length by rw [HTK.out,zl2]);generalize acc++patI p p.tx.length=t at *;go_wp2;go_roundw
     case rel=>exact ⟨k+1,by rw [HE.out],by go_num,by omega,by trivial⟩
     case measure=>simp [intOf];omega
  ·have hke:k=xs.length:=by omega
   subst hke;have d0:=no hlt;rw [List.take_length];clear hlt;go_wp2;go_ret2;exact ⟨rfl,HB.out⟩
end Go.Proofs.YtfmecpnokefokaaGreatDoor.Ex
namespace Go.Proofs.YtfmecpnokefokaaGreatDoor.Tab
open Go.ChangeShapes Go.WideShapes Go.Deep Go.RowKit
set_option maxRecDepth 100000
theorem zc7:(Tryz.prog.info? 44).map (fun i=>(i.zero,i.size,i.bytes))=some (some (.agg #[.string ByteArray.empty,.string ByteArray.empty]),2,32):=by kernel_rfl
def InsP (b0:Nat) (lv:Value) (ys:List Ent) (w:World) (e:Ending) (w':World):Prop :=
 ∃ v',e = .returned v'∧Own w' b0 2 v' ys.length (ys.flatMap Ent.cells)∧Keeps (fun k=>lv.ownBlock=some k∧b0≤k) w w'∧(v'.ownBlock=lv.ownBlock∨∀ k,v'.ownBlock=some k→w.heap.size≤k)
set_option maxHeartbeats 1600000 in
theorem zpm (w:World) (b0 vb:Nat) (lv:Value) (xs:List Ent) (y:Ent) (ho:Own w b0 2 lv xs.length (xs.flatMap Ent.cells)) (hs:Src w (.slice (some ⟨vb,0,none⟩) 1 1) 1 (Ent.cells y)) (hx:xs.length≤1048576) (hb:b0≤w.heap.size) :
  Calls Tryz.prog 60 #[lv,.int .i64 xs.length,.slice (some ⟨vb,0,none⟩) 1 1] w (InsP b0 lv (xs++[y]) w):=by
 obtain ⟨i0,hi0,hz00,hz01,hz02⟩:=info_parts zc7;have hcap:=zin ho;have HO:=j7yb ho;obtain ⟨A,c,rfl,hA⟩:=ho.form0;have hc:=hcap A _ c rfl;have HS:=j7yb hs;clear hcap ho hs
 cases A with
 | none =>
  have h0:xs.length=0:=by
   rcases Nat.eq_zero_or_pos xs.length with h|h
   ·exact h
   ·obtain ⟨g,off,e⟩:=hA h;cases e
  have:xs=[]:=List.eq_nil_of_length_eq_zero h0;subst this;clear hA h0;go_enter Tryz.func60,Tryz.ntmps60
  go_wp2_with ((at_builtin;refine zf _ rfl (.tmp 23) (.tmp 24) _ rfl b0 44 i0 _ 2 32 Tryz.underlying22 hi0 hz00 hz01 hz02 rfl (by decide) _ 0 [] rfl (show Own w b0 2 (.slice none 0 c) 0 [] from HO.out) _ 1 (Ent.cells y) rfl rfl HS.out (by simp [Ent.cells,Value.oneCell']) (by unfold maxLen;omega) (by omega) (by first|(simp;done)|omega|(simp;omega)) ?_;intro v1 w1 hown1 hg1 hat1 hty1;have HTY1:=j7yb hty1;clear hty1))
  go_ret;exact ⟨v1,rfl,by simpa [List.flatMap_append] using hown1,hg1,hat1⟩
 | some a =>
  clear hA;go_enter Tryz.func60,Tryz.ntmps60
  go_wp2_with ((at_builtin;refine zf _ rfl (.tmp 23) (.tmp 24) _ rfl b0 44 i0 _ 2 32 Tryz.underlying22 hi0 hz00 hz01 hz02 rfl (by decide) _ xs.length (xs.flatMap Ent.cells) rfl HO.out _ 1 (Ent.cells y) rfl rfl HS.out (by simp [Ent.cells,Value.oneCell']) (by unfold maxLen;omega) (by omega) (by first|(simp;done)|omega|(simp;omega)) ?_;intro v1 w1 hown1 hg1 hat1 hty1;have HTY1:=j7yb hty1;clear hty1))
  all_goals
   go_ret;exact ⟨v1,rfl,by simpa [List.flatMap_append] using hown1,hg1,hat1⟩
theorem zrs {w w' w2:World} {b0 tb:Nat} {lv:Value} {kind:Int} {xs:List Ent} (h:TabAt w b0 tb lv kind xs) (hb':Below w.heap.size w w') (hg:Keeps (fun k=>lv.ownBlock=some k∧b0≤k) w' w2) :
  w2.cell? ⟨tb,0,none⟩=some (.int .i64 kind)∧w2.cell? ⟨tb,1,none⟩=some lv∧(∀ j,w2.frozen? ⟨tb,j,none⟩=false)∧tb<w2.heap.size∧Keeps (fun k=>k=tb∨(lv.ownBlock=some k∧b0≤k)) w w2:=by
 have h':=h.below hb';have hh:w2.heap[tb]?=w'.heap[tb]?:=hg.block tb h'.lt (fun e=>h.ne e.1);have hc:∀ j,w2.cell? ⟨tb,j,none⟩=w'.cell? ⟨tb,j,none⟩:=fun j=>World.cell?_of_block (w:=w') hh;have hf:∀ j,w2.frozen? ⟨tb,j,none⟩=w'.frozen? ⟨tb,j,none⟩:=fun j=>World.frozen?_of_block (w:=w') hh;exact ⟨(hc 0).trans h'.c0,(hc 1).trans h'.c1,fun j=>(hf j).trans (h'.f0 j),Nat.lt_of_lt_of_le h'.lt hg.size,(Keeps.of_below hb').trans (hg.mono fun k _ hk=>.inr hk)⟩
theorem zrt {w2:World} {b0 tb:Nat} {v:Value} {kind:Int} {xs:List Ent} (ge:b0≤tb) (t0:w2.cell? ⟨tb,0,none⟩=some (.int .i64 kind)) (t1:∃ v,w2.cell? ⟨tb,1,none⟩=some v) (t2:∀ j,w2.frozen? ⟨tb,j,none⟩=false) (t3:tb<w2.heap.size)
  (ho:Own w2 b0 2 v xs.length (xs.flatMap Ent.cells)) (hne:v.ownBlock≠some tb) (hr:Rises xs):TabAt (w2.setCell ⟨tb,1,none⟩ v) b0 tb v kind xs:=by
 have hk:Keeps (fun k=>k=tb) w2 (w2.setCell ⟨tb,1,none⟩ v):=Keeps.setCell (F:=fun k=>k=tb) w2 (a:=⟨tb,1,none⟩) rfl _;obtain ⟨u,hu⟩:=t1;refine ⟨Nat.lt_of_lt_of_le t3 hk.size,ge,?_,?_,fun j=>?_,ho.keeps hk (fun k h _ e=>hne (by rw [h,e])),hne,hr⟩
 ·rw [World.cell?_setCell_other _ _ _ _ (by simp)];exact t0
 ·exact World.cell?_setCell_same' _ _ _ (by rw [hu];rfl)
 ·rw [World.frozen?_setCell];exact t2 j
structure SetPost (b0 tb:Nat) (lv:Value) (kind:Int) (ys:List Ent) (w:World) (e:Ending) (w':World):Prop where
 e:e = .returned (.int .i64 0)
 h:∃ lv',TabAt w' b0 tb lv' kind ys∧(lv'.ownBlock=lv.ownBlock∨∀ k,lv'.ownBlock=some k→w.heap.size≤k)
 k:Keeps (fun k=>k=tb∨(lv.ownBlock=some k∧b0≤k)) w w'
theorem set_bad (w:World) (b0 tb:Nat) (lv:Value) (kind:Int) (xs:List Ent) (s v:List UInt8) (h:TabAt w b0 tb lv kind xs) (hm:Cls.mayB kind s=false) (hs:s.length≤1073741824) :
  Calls Tryz.prog 37 #[.pointer (some ⟨tb,0,none⟩),.string (B s),.string (B v)] w fun e w'=>e = .returned (.int .i64 5)∧w=w':=by
 have HMY:=j7yb fun w=>Cls.may_any kind s w hs;rw [hm] at HMY;have c0:=h.c0
 haveI:Old w tb:=⟨h.lt⟩
 clear h hm;go_enter Tryz.func37,Tryz.ntmps37
 go_wp2_with (go_at_call 58;refine (HMY.out _).mono ?_;rintro e w' ⟨rfl,rfl⟩)
 go_ret;exact ⟨rfl,rfl⟩
end Go.Proofs.YtfmecpnokefokaaGreatDoor.Tab
