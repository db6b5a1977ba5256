/-
  The walks of layer 16 (pattern): the member at a place, added to a set. Conditions: texts of at most 2^30 bytes; the library's variable MaxLen holds some number.
-/
import Derived.Test.YtfmecpnokefokaaGreatDoorPat4
import Derived.Test.YtfmecpnokefokaaGreatDoorHist
set_option linter.unusedSimpArgs false
set_option linter.unusedVariables false
namespace Go.Proofs.YtfmecpnokefokaaGreatDoor.Pat
open Go.ChangeShapes Go.WideShapes Go.Deep Go.RowKit
set_option maxRecDepth 100000
theorem _root_.Go.Proofs.YtfmecpnokefokaaGreatDoor.j7nb {p:Prop} (h:p):Go.RowKit.Hid p:=Go.Lib.hid h
theorem wrapb (k:Nat) (h:k<256):IntKind.u8.wrap (k:Int)=((UInt8.ofNat k).toNat:Int):=by
 rw [wraps_u8 _ (by omega) (by omega)];simp;omega
set_option maxHeartbeats 1600000 in
theorem zo6 (name:List UInt8) (w:World):Calls Tryz.prog 175 #[.string (B name)] w fun e w'=>e = .returned (.bool (known name))∧w=w':=by
 obtain ⟨r,hr⟩:∃ r,r=known name:=⟨_,rfl⟩
 rw [← hr];have HR:=j7nb hr;clear hr;go_enter Tryz.func175,Tryz.ntmps175;go_wp2
 go_loop [3] (fun i=>∃ k:Nat,k≤128∧i = .int .i64 k∧Hid (∀ j,j<k→inCls name (UInt8.ofNat j)=false)) (fun i=>128 - (intOf i).toNat)
 case atStart=>exact ⟨0,by omega,rfl,fun j h=>by omega⟩
 case round =>
  obtain ⟨k,hk,rfl,HF⟩:=hrel;by_cases hlt:k<128
  ·have hw:=wrapb k (by omega)
   cases hx:inCls name (UInt8.ofNat k) with
   | true =>
    have HO:=j7nb fun w=>of_any name (UInt8.ofNat k) w;rw [hx] at HO;have HX:=j7nb hx;clear hx
    go_wp2_with (go_at_call 161;refine (HO.out _).mono ?_;rintro e w' ⟨rfl,rfl⟩)
    go_ret;refine ⟨ret_b ?_,rfl⟩;rw [HR.out,← zjs];exact (List.any_eq_true.2 ⟨k,by simpa using hlt,HX.out⟩).symm
   | false =>
    have HO:=j7nb fun w=>of_any name (UInt8.ofNat k) w;rw [hx] at HO;have HX:=j7nb hx;clear hx
    go_wp2_with (go_at_call 161;refine (HO.out _).mono ?_;rintro e w' ⟨rfl,rfl⟩)
    go_round
    case rel =>
     refine ⟨k+1,by omega,by go_num,fun j hj=>?_⟩;by_cases hjk:j<k
     ·exact HF.out j hjk
     ·obtain rfl:j=k:=by omega
      exact HX.out
    case measure=>simp [intOf];omega
  ·have hk':k=128:=by omega
   have HK:=j7nb hk';clear hk';go_wp2;go_ret;refine ⟨ret_b ?_,rfl⟩;rw [HR.out,← zjs];refine (List.any_eq_false.2 fun j hj=>?_).symm;rw [HF.out j (by have:=HK.out;simp at hj;omega)];simp
def clsL (p:List UInt8) (n:Nat):Nat:=match clsAt p n with
 | none=>0
 | some nm=>nm.length+4
def clsN (p:List UInt8) (n:Nat):List UInt8:=match clsAt p n with
 | none=>[]
 | some nm=>nm
theorem zeu {p:List UInt8} {n:Nat} {nm:List UInt8} (h:clsAt p n=some nm):clsL p n=nm.length+4∧clsN p n=nm:=by unfold clsL clsN;rw [h];exact ⟨rfl,rfl⟩
theorem zev {p:List UInt8} {n:Nat} (h:clsAt p n=none):clsL p n=0∧clsN p n=[]:=by unfold clsL clsN;rw [h];exact ⟨rfl,rfl⟩
theorem zo7 {p:List UInt8} {n k:Nat} (h:clsK p n k=false) :
  (decide ((n:Int)+k+4≤(p.length:Int))=false) ∨
  ((n:Int)+k+4≤(p.length:Int)∧((p.take (n+2)).drop n == [91,58])=false) ∨
  ((n:Int)+k+4≤(p.length:Int)∧((p.take (n+2)).drop n == [91,58])=true∧((p.take (n+4+k)).drop (n+2+k) == [58,93])=false) ∨
  ((n:Int)+k+4≤(p.length:Int)∧((p.take (n+2)).drop n == [91,58])=true∧((p.take (n+4+k)).drop (n+2+k) == [58,93])=true∧known (nmK p n k)=false):=by
 unfold clsK at h;by_cases h1:n+k+4≤p.length
 ·rw [yes h1,Bool.true_and] at h
  cases h2:((p.take (n+2)).drop n == [91,58]) with
  | false=>exact .inr (.inl ⟨by omega,rfl⟩)
  | true =>
   rw [h2,Bool.true_and] at h
   cases h3:((p.take (n+4+k)).drop (n+2+k) == [58,93]) with
   | false=>exact .inr (.inr (.inl ⟨by omega,rfl,rfl⟩))
   | true =>
    rw [h3,Bool.true_and] at h;exact .inr (.inr (.inr ⟨by omega,rfl,rfl,h⟩))
 ·exact .inl (no (by omega))
theorem clsK_all {p:List UInt8} {n k:Nat} (h:clsK p n k=true):(n:Int)+k+4≤(p.length:Int)∧((p.take (n+2)).drop n == [91,58])=true∧((p.take (n+4+k)).drop (n+2+k) == [58,93])=true∧known (nmK p n k)=true:=by
 simp only [clsK,Bool.and_eq_true,decide_eq_true_eq] at h;exact ⟨by have:=h.1.1.1;omega,h.1.1.2,h.1.2,h.2⟩
theorem clsAt_of {p:List UInt8} {n k:Nat} (h5:5≤k∧k<7) (h:clsK p n k=true) (hf:∀ j,5≤j→j<k→clsK p n j=false):clsAt p n=some (nmK p n k):=by
 unfold clsAt;by_cases hk:k=5
 ·subst hk;rw [if_pos h]
 ·obtain rfl:k=6:=by omega
  rw [hf 5 (by omega) (by omega),if_neg (by simp),if_pos h]
theorem zo8 {p:List UInt8} {n:Nat} (hf:∀ j,5≤j→j<7→clsK p n j=false):clsAt p n=none:=by
 unfold clsAt;rw [hf 5 (by omega) (by omega),if_neg (by simp),hf 6 (by omega) (by omega),if_neg (by simp)]
theorem zh5 {f:Nat→Bool} {k:Nat} (h:∀ j,5≤j→j<k→f j=false) (hk:f k=false):∀ j,5≤j→j<k+1→f j=false:=fun j h1 h2=>by
 by_cases hj:j<k
 ·exact h j h1 hj
 ·obtain rfl:j=k:=by omega
  exact hk
set_option maxHeartbeats 3200000 in
theorem zq8 (p:List UInt8) (n:Nat) (w:World) (hp:p.length≤1073741824) (hn:n≤1073741824) :
  Calls Tryz.prog 159 #[.string (B p),.int .i64 n] w fun e w'=>e = .returned (.tuple #[.int .i64 (clsL p n),.string (B (clsN p n))])∧Below w.heap.size w w':=by
 obtain ⟨r1,h1⟩:∃ r,r=clsL p n:=⟨_,rfl⟩
 obtain ⟨r2,h2⟩:∃ r,r=clsN p n:=⟨_,rfl⟩
 rw [← h1,← h2];have HR:=j7nb (And.intro h1 h2);clear h1 h2;go_enter Tryz.func159,Tryz.ntmps159;go_wp2
 go_loopw [6] (fun i w'=>∃ k:Nat,5≤k∧k≤7∧i = .int .i64 k∧Hid (∀ j,5≤j→j<k→clsK p n j=false)∧w'=w) (fun i _=>7 - (intOf i).toNat)
 case atStart=>exact ⟨5,by omega,by omega,rfl,fun j h1 h=>by omega,rfl⟩
 case round =>
  obtain ⟨k,hk5,hk,rfl,HF,rfl⟩:=hrel;by_cases hlt:k<7
  ·have d0:(k:Int)≤6:=by omega
   have hkn:=j7nb fun w=>zo6 (nmK p n k) w
   cases hc:clsK p n k with
   | true =>
    obtain ⟨c1,c2,c3,c4⟩:=clsK_all hc;have HC:=j7nb hc;rw [c4] at hkn;unfold nmK at hkn;have HA:=j7nb (clsAt_of (by omega) HC.out HF.out);clear hc c4
    go_wp2_with (go_at_call 175;refine (hkn.out _).mono ?_;rintro e w' ⟨rfl,rfl⟩)
    have q1:IntKind.i64.wrap ((k:Int)+4)=(k:Int)+4:=IntWalk.i64_in _ (by omega);have q2:IntKind.i64.wrap ((n:Int)+2)=(n:Int)+2:=IntWalk.i64_in _ (by omega);have q3:IntKind.i64.wrap ((n:Int)+2+(k:Int))=(n:Int)+2+(k:Int):=IntWalk.i64_in _ (by omega);have q4:(0:Int)≤(n:Int)+2:=by omega
    have q5:(n:Int)+2≤(n:Int)+2+(k:Int):=by omega
    have q6:(n:Int)+2+(k:Int)≤(p.length:Int):=by omega
    have q7:((n:Int)+2).toNat=n+2:=by omega
    have q8:((n:Int)+2+(k:Int)).toNat=n+2+k:=by omega
    have HL:=j7nb (zcy (p:=p) (n:=n) (k:=k) (by omega));go_quiet (fail);go_wp2;go_ret2;refine ⟨?_,zzr⟩;obtain ⟨r1,r2⟩:=HR.out;rw [r1,r2,(zeu HA.out).1,(zeu HA.out).2,HL.out];rfl
   | false =>
    have HC:=j7nb hc;clear HC;rcases zo7 hc with c1|⟨c1,c2⟩|⟨c1,c2,c3⟩|⟨c1,c2,c3,c4⟩
    rotate_right
    ·rw [c4] at hkn
     unfold nmK at hkn;have HC:=j7nb hc;clear hc c4
     go_wp2_with (go_at_call 175;refine (hkn.out _).mono ?_;rintro e w' ⟨rfl,rfl⟩)
     go_roundw
     case rel=>exact ⟨k+1,by omega,by omega,by go_num,zh5 HF.out HC.out,trivial⟩
     case measure=>simp [intOf];omega
    all_goals
     have HC:=j7nb hc;clear hc;go_wp2;go_roundw
     case rel=>exact ⟨k+1,by omega,by omega,by go_num,zh5 HF.out HC.out,trivial⟩
     case measure=>simp [intOf];omega
  ·have HK:=j7nb (show k=7 by omega)
   have HA:Hid (clsAt p n=none):=zo8 (fun j h1 h2=>HF.out j h1 (by have:=HK.out;omega));go_wp2;go_ret2;refine ⟨?_,Below.refl _ _⟩;obtain ⟨r1,r2⟩:=HR.out;rw [r1,r2,(zev HA.out).1,(zev HA.out).2];rfl
theorem zgk (s p:List UInt8) (w:World):Calls Tryz.prog 89 #[.string (B s),.string (B p)] w fun e w'=>e = .returned (.bool (Lib.hasPrefix s p))∧w=w' :=
 (Tryz.strings_HasPrefix (B s) (B p) w).mono fun e w' ⟨he,hw⟩=>⟨by rw [he,B_data,B_data],hw.symm⟩
theorem index_b (s p:List UInt8) (w:World) (hs:s.length≤1073741824) (hm:MaxL w):Calls Tryz.prog 201 #[.string (B s),.string (B p)] w fun e w'=>e = .returned (.int .i64 (Lib.index s p))∧w=w':=by
 obtain ⟨m,hm⟩:=hm
 exact (Tryz.strings_Index (B s) (B p) m w (by rw [B_size];omega) hm).mono fun e w' ⟨he,hw⟩=>⟨by rw [he,B_data,B_data],hw.symm⟩
theorem prefix2 (p:List UInt8) (n:Nat):Lib.hasPrefix (p.drop n) [91,58]=((p.take (n+2)).drop n == [91,58]):=by
 unfold Lib.hasPrefix;rw [zex,show n+2 - n=2 by omega];generalize p.drop n=q
 match q with
 | []=>rfl
 | [a]=>simp [List.isPrefixOf]
 | a :: b :: t=>simp [List.isPrefixOf,Bool.beq_comm (a:=(91:UInt8)),Bool.beq_comm (a:=(58:UInt8)),eq_comm]
def clsEnd (p:List UInt8) (n:Nat):Nat:=match clsAt p n with
 | none=>n
 | some nm=>n+nm.length+4
def clsSet (p:List UInt8) (n:Nat) (f:UInt8→Bool):UInt8→Bool:=match clsAt p n with
 | none=>f
 | some nm=>fun c=>f c || inCls nm c
theorem zft {p:List UInt8} {n:Nat} {nm:List UInt8} (f:UInt8→Bool) (h:clsAt p n=some nm):clsEnd p n=n+nm.length+4∧clsSet p n f=fun c=>f c || inCls nm c:=by unfold clsEnd clsSet;rw [h];exact ⟨rfl,rfl⟩
theorem zfu {p:List UInt8} {n:Nat} (f:UInt8→Bool) (h:clsAt p n=none):clsEnd p n=n∧clsSet p n f=f:=by unfold clsEnd clsSet;rw [h];exact ⟨rfl,rfl⟩
def ClsPost (p:List UInt8) (n b:Nat) (f:UInt8→Bool) (w:World) (e:Ending) (w':World):Prop:=e = .returned (.int .i64 (clsEnd p n))∧SetAt w' b (clsSet p n f)∧Keeps (fun k=>k=b) w w'
theorem ClsPost.none_ {p:List UInt8} {n b:Nat} {f:UInt8→Bool} {w:World} (hs:SetAt w b f) (h:clsAt p n=none):ClsPost p n b f w (.returned (.int .i64 n)) w:=by
 obtain ⟨h1,h2⟩:=zfu f h;exact ⟨by rw [h1],by rw [h2];exact hs,Keeps.refl _ _⟩
def upto (nm:List UInt8) (k:Nat) (f:UInt8→Bool):UInt8→Bool:=fun c=>f c || (decide (c.toNat<k) && inCls nm c)
theorem zq9 (nm:List UInt8) (f:UInt8→Bool):upto nm 0 f=f:=by funext c;simp [upto]
theorem upto_all (nm:List UInt8) (f:UInt8→Bool):upto nm 256 f=fun c=>f c || inCls nm c:=by
 funext c
 have:=c.toNat_lt;simp only [upto,decide_eq_true (show c.toNat<256 by omega),Bool.true_and]
theorem byte_k {k:Nat} (h:k<256) (c:UInt8):c=UInt8.ofNat k ↔ c.toNat=k:=by
 constructor
 ·intro e;subst e;simp;omega
 ·intro e;subst e;simp
theorem upto_yes {nm:List UInt8} {k:Nat} (f:UInt8→Bool) (hk:k<256) (h:inCls nm (UInt8.ofNat k)=true):(fun c=>upto nm k f c || c == UInt8.ofNat k)=upto nm (k+1) f:=by
 funext c
 simp only [upto];by_cases e:c=UInt8.ofNat k
 ·have e2:=(byte_k hk c).1 e
  have h':inCls nm c=true:=by rw [e];exact h
  rw [decide_eq_true (show c.toNat<k+1 by omega),h',e];simp
 ·have e2:c.toNat≠k:=fun h=>e ((byte_k hk c).2 h)
  have e3:(c == UInt8.ofNat k)=false:=by simpa using e
  rw [e3,Bool.or_false];by_cases h1:c.toNat<k
  ·rw [decide_eq_true h1,decide_eq_true (show c.toNat<k+1 by omega)]
  ·rw [decide_eq_false h1,decide_eq_false (show ¬ c.toNat<k+1 by omega)]
theorem upto_no {nm:List UInt8} {k:Nat} (f:UInt8→Bool) (hk:k<256) (h:inCls nm (UInt8.ofNat k)=false):upto nm k f=upto nm (k+1) f:=by
 funext c
 simp only [upto];by_cases e:c=UInt8.ofNat k
 ·rw [← e] at h
  rw [h];simp
 ·have e2:c.toNat≠k:=fun h=>e ((byte_k hk c).2 h)
  by_cases h1:c.toNat<k
  ·rw [decide_eq_true h1,decide_eq_true (show c.toNat<k+1 by omega)]
  ·rw [decide_eq_false h1,decide_eq_false (show ¬ c.toNat<k+1 by omega)]
set_option maxHeartbeats 3200000 in
theorem cls_any (p:List UInt8) (n b:Nat) (f:UInt8→Bool) (w:World) (hs:SetAt w b f) (hm:MaxL w) (hb:b≠0) (hp:p.length≤1073741824) (hn:n≤p.length) :
  Calls Tryz.prog 198 #[.pointer (some ⟨b,0,none⟩),.string (B p),.int .i64 n] w (ClsPost p n b f w):=by
 have HS:=j7nb hs;have HM:=j7nb hm;have i0:(0:Int)≤(n:Int):=by omega
 have i1:(n:Int)≤(p.length:Int):=by omega
 clear hs hm
 cases hh:((p.take (n+2)).drop n == [91,58]) with
 | false =>
  have HP:=j7nb fun w=>zgk (p.drop n) [91,58] w;rw [prefix2,hh] at HP;have HA:=j7nb (zpa (p:=p) (n:=n) (by simpa using hh));clear hh;go_enter Tryz.func198,Tryz.ntmps198
  go_wp2_with (go_at_call 89;refine (HP.out _).mono ?_;rintro e w' ⟨rfl,rfl⟩)
  go_ret;exact ClsPost.none_ HS.out HA.out
 | true =>
  have HP:=j7nb fun w=>zgk (p.drop n) [91,58] w;rw [prefix2,hh] at HP;have hh2:(p.take (n+2)).drop n=[91,58]:=by simpa using hh
  have hl:n+2≤p.length:=by have:=congrArg List.length hh2;simp at this;omega
  have HH:=j7nb hh2;have HX:=j7nb fun w=>index_b (p.drop (n+2)) [58,93] w (by simp;omega);clear hh hh2;have i2:(n:Int)+2≤(p.length:Int):=by omega
  by_cases hi:Lib.index (p.drop (n+2)) [58,93]<0
  ·have HA:=j7nb (zms hi)
   generalize Lib.index (p.drop (n+2)) [58,93]=x at *;go_enter Tryz.func198,Tryz.ntmps198
   go_wp2_with (first|(go_at_call 89;refine (HP.out _).mono ?_;rintro e w' ⟨rfl,rfl⟩)|(go_at_call 201;refine (HX.out _ HM.out).mono ?_;rintro e w' ⟨rfl,rfl⟩))
   go_ret;exact ClsPost.none_ HS.out HA.out
  ·obtain ⟨k,hk⟩:∃ k:Nat,Lib.index (p.drop (n+2)) [58,93]=k:=⟨(Lib.index (p.drop (n+2)) [58,93]).toNat,by omega⟩
   have hr:=Lib.index_room (p.drop (n+2)) [58,93] (by omega);rw [hk] at hr;have hl2:n+k+4≤p.length:=by simp at hr;omega
   have HK:=j7nb hk;rw [hk] at HX;have d0:=no (show ¬ (k:Int)<0 by omega);have i3:(n:Int)+2+k≤(p.length:Int):=by omega
   have i4:(n:Int)+2≤(n:Int)+2+k:=by omega
   have i5:(0:Int)≤(k:Int):=by omega
   have HIS:Hid (∀ w,Calls Tryz.prog 202 #[.string (B (nmK p n k)),.int .u8 0] w fun e w'=>e = .returned (.tuple #[.bool (inCls (nmK p n k) 0),.bool (known (nmK p n k))])∧w=w'):=fun w=>is_any (nmK p n k) 0 w;unfold nmK at HIS;clear hi hk hr
   cases hkn:known (nmK p n k) with
   | false =>
    unfold nmK at hkn;rw [hkn] at HIS;have HA:=j7nb (zke HK.out hkn);clear hkn;go_enter Tryz.func198,Tryz.ntmps198
    go_wp2_with (first|(go_at_call 89;refine (HP.out _).mono ?_;rintro e w' ⟨rfl,rfl⟩)|(go_at_call 201;refine (HX.out _ HM.out).mono ?_;rintro e w' ⟨rfl,rfl⟩)|(go_at_call 202;refine (HIS.out _).mono ?_;rintro e w' ⟨rfl,rfl⟩))
    go_ret;exact ClsPost.none_ HS.out HA.out
   | true =>
    have HA:=j7nb (zrd HH.out HK.out hkn);have HL:=j7nb (zcy hl2);unfold nmK at hkn HA HL;rw [hkn] at HIS;have HKN:=j7nb hkn;clear hkn;go_enter Tryz.func198,Tryz.ntmps198
    go_wp2_with (first|(go_at_call 89;refine (HP.out _).mono ?_;rintro e w' ⟨rfl,rfl⟩)|(go_at_call 201;refine (HX.out _ HM.out).mono ?_;rintro e w' ⟨rfl,rfl⟩)|(go_at_call 202;refine (HIS.out _).mono ?_;rintro e w' ⟨rfl,rfl⟩))
    generalize (p.take (n+2+k)).drop (n+2)=nm at *
    go_loopw [44] (fun i w'=>∃ j:Nat,j≤256∧i = .int .i64 j∧Hid (SetAt w' b (upto nm j f))∧Hid (Keeps (fun k=>k=b) w w')) (fun i _=>256 - (intOf i).toNat)
    case atStart=>exact ⟨0,by omega,rfl,by show SetAt _ _ _;rw [zq9];exact HS.out,Keeps.refl _ _⟩
    case round =>
     obtain ⟨j,hj,rfl,HSJ,HKJ⟩:=hrel;by_cases hlt:j<256
     ·have hw:=wrapb j hlt
      have HIJ:=j7nb fun w=>is_any nm (UInt8.ofNat j) w;have HAD:=j7nb fun w hs=>add_any (upto nm j f) (UInt8.ofNat j) b w hs
      cases hx:inCls nm (UInt8.ofNat j) with
      | true =>
       have HE:=j7nb (upto_yes f hlt hx);rw [hx] at HIJ;clear hx
       go_wp2_with (first|(go_at_call 202;refine (HIJ.out _).mono ?_;rintro e w' ⟨rfl,rfl⟩)|(go_at_call 200;refine (HAD.out _ HSJ.out).mono ?_;rintro e w2 ⟨rfl,hs2,hk2⟩;have HS2:=j7nb hs2;have HK2:=j7nb (HKJ.out.trans hk2);clear hs2 hk2))
       go_roundw
       case rel=>exact ⟨j+1,by omega,by go_num,by show SetAt _ _ _;rw [← HE.out];exact HS2.out,HK2.out⟩
       case measure=>simp [intOf];omega
      | false =>
       have HE:=j7nb (upto_no f hlt hx);rw [hx] at HIJ;clear hx
       go_wp2_with (go_at_call 202;refine (HIJ.out _).mono ?_;rintro e w' ⟨rfl,rfl⟩)
       go_roundw
       case rel=>exact ⟨j+1,by omega,by go_num,by show SetAt _ _ _;rw [← HE.out];exact HSJ.out,HKJ.out⟩
       case measure=>simp [intOf];omega
     ·have hj':j=256:=by omega
      have HJ:=j7nb hj';clear hj';go_wp2;go_ret;obtain ⟨h1,h2⟩:=zft f HA.out;refine ⟨?_,?_,HKJ.out⟩
      ·rw [h1,HL.out]
       exact ret_i64 (by omega)
      ·rw [h2,← upto_all,← HJ.out];exact HSJ.out
theorem zjl {p:List UInt8} {n:Nat} {nm:List UInt8} (h:clsAt p n=some nm):memAt p n=some (inCls nm,n+nm.length+4):=by unfold memAt;rw [h]
theorem zh6 {p:List UInt8} {n:Nat} (h:clsAt p n=none) (h1:p.length≤esc p n):memAt p n=none:=by
 unfold memAt;rw [h];dsimp only;rw [List.getElem?_eq_none h1]
theorem zjm {p:List UInt8} {n:Nat} {lo:UInt8} (h:clsAt p n=none) (h1:p[esc p n]?=some lo) (h2:dash p (esc p n+1)=false):memAt p n=some (fun b=>b == lo,esc p n+1):=by
 unfold memAt;rw [h];dsimp only;rw [h1];dsimp only;rw [h2];rfl
theorem zh7 {p:List UInt8} {n:Nat} {lo:UInt8} (h:clsAt p n=none) (h1:p[esc p n]?=some lo) (h2:dash p (esc p n+1)=true) (h3:p.length≤esc p (esc p n+2)):memAt p n=none:=by
 unfold memAt;rw [h];dsimp only;rw [h1];dsimp only;rw [if_pos h2,List.getElem?_eq_none h3]
theorem zjn {p:List UInt8} {n:Nat} {lo hi:UInt8} (h:clsAt p n=none) (h1:p[esc p n]?=some lo) (h2:dash p (esc p n+1)=true) (h3:p[esc p (esc p n+2)]?=some hi):memAt p n=some (fun b=>btw b lo.toNat hi.toNat,esc p (esc p n+2)+1):=by
 unfold memAt;rw [h];dsimp only;rw [h1];dsimp only;rw [if_pos h2,h3]
def bitI (x:Bool):Int:=if x=true then 1 else 0
theorem bit_any (x:Bool) (w:World):Calls Tryz.prog 160 #[.bool x] w fun e w'=>e = .returned (.int .i64 (bitI x))∧w=w':=by
 cases x
 all_goals
  go_enter Tryz.func160,Tryz.ntmps160;go_wp2;go_ret;exact ⟨rfl,rfl⟩
def memB (p:List UInt8) (n:Nat) (b:UInt8):Int:=match memAt p n with
 | none=>0
 | some x=>bitI (x.1 b)
def memE (p:List UInt8) (n:Nat):Int:=match memAt p n with
 | none => -1
 | some x=>x.2
theorem zc2 {p:List UInt8} {n e:Nat} {g:UInt8→Bool} (b:UInt8) (h:memAt p n=some (g,e)):memB p n b=bitI (g b)∧memE p n=e:=by unfold memB memE;rw [h];exact ⟨rfl,rfl⟩
theorem zc3 {p:List UInt8} {n:Nat} (b:UInt8) (h:memAt p n=none):memB p n b=0∧memE p n = -1:=by unfold memB memE;rw [h];exact ⟨rfl,rfl⟩
def MemPost (p:List UInt8) (n:Nat) (b:UInt8) (w:World) (e:Ending) (w':World):Prop:=e = .returned (.tuple #[.int .i64 (memB p n b),.int .i64 (memE p n)])∧Below w.heap.size w w'
theorem MemPost.some_ {p:List UInt8} {n e:Nat} {b:UInt8} {w w':World} {g:UInt8→Bool} {x y:Int} (h:memAt p n=some (g,e)) (hx:x=bitI (g b)) (hy:y=e) (hb:Below w.heap.size w w'):MemPost p n b w (.returned (.tuple #[.int .i64 x,.int .i64 y])) w':=by
 obtain ⟨h1,h2⟩:=zc2 b h;exact ⟨by rw [h1,h2,hx,hy],hb⟩
theorem MemPost.none_ {p:List UInt8} {n:Nat} {b:UInt8} {w w':World} (h:memAt p n=none) (hb:Below w.heap.size w w'):MemPost p n b w (.returned (.tuple #[.int .i64 0,.int .i64 (-1)])) w':=by
 obtain ⟨h1,h2⟩:=zc3 b h;exact ⟨by rw [h1,h2],hb⟩
theorem bit_eq (x b:UInt8):bitI ((x.toNat:Int) == (b.toNat:Int))=bitI ((fun c=>c == x) b):=by
 refine congrArg bitI ?_;by_cases h:b=x
 ·subst h;simp
 ·rw [u8_ne (fun e=>h e.symm)];exact (beq_eq_false_iff_ne.2 h).symm
set_option maxHeartbeats 3200000 in
theorem zh8 (p:List UInt8) (n:Nat) (b:UInt8) (w:World) (hp:p.length≤1073741824) (hn:n<p.length) :
  Calls Tryz.prog 135 #[.string (B p),.int .i64 n,.int .u8 b.toNat] w (MemPost p n b w):=by
 have HC:=j7nb fun w=>zq8 p n w hp (by omega);have HB:=j7nb bit_any;have i0:(0:Int)≤(n:Int):=by omega
 have i1:(n:Int)<(p.length:Int):=by omega
 cases hc:clsAt p n with
 | some nm =>
  have hl:=zjq hc;rw [(zeu hc).1,(zeu hc).2] at HC;have HA:=j7nb (zjl hc);have HO:=j7nb fun w=>of_any nm b w;have d0:(0:Int)<(nm.length:Int)+4:=by omega
  clear hc;go_enter Tryz.func135,Tryz.ntmps135
  go_wp2_with (first|(go_at_call 159;refine (HC.out _).mono ?_;rintro e w' ⟨rfl,hb⟩;obtain ⟨g,rfl⟩:=zl hb;clear hb)|(go_at_call 161;refine (HO.out _).mono ?_;rintro e w' ⟨rfl,rfl⟩)|(go_at_call 160;refine (HB.out _ _).mono ?_;rintro e w' ⟨rfl,rfl⟩))
  go_ret2;exact MemPost.some_ HA.out rfl (by omega) (zzr)
 | none =>
  rw [(zev hc).1,(zev hc).2] at HC;have HN:=j7nb hc;clear hc;go_enter Tryz.func135,Tryz.ntmps135;go_upto_if 29 with ((go_at_call 159;refine (HC.out _).mono ?_;rintro e w' ⟨rfl,hb⟩;obtain ⟨g,rfl⟩:=zl hb;clear hb))
  go_cut [1] (fun s1 w'=>s1 = .int .i64 (esc p n)∧Below w.heap.size w w')
  case first =>
   by_cases h92:p[n]=92
   ·have e1:=is_b (n:=92) rfl h92
    have HE:=j7nb (znk hn h92);clear h92;go_wp2;go_meet;exact ⟨by rw [HE.out];go_num,zzr⟩
   ·have e1:=not_b (n:=92) rfl h92
    have HE:=j7nb (esc_no hn h92);clear h92;go_wp2;go_meet;exact ⟨by rw [HE.out],zzr⟩
  case rest =>
  obtain ⟨rfl,hb1⟩:=hcut;have HL:=j7nb (esc_le p n);by_cases h1:esc p n<p.length
  ·have hlo:=List.getElem?_eq_getElem h1
   have HLO:=j7nb hlo;have HM1:=j7nb fun h2=>zjm HN.out hlo h2;have HM2:=j7nb fun h2 h3=>zh7 HN.out hlo h2 h3;have HM3:=j7nb fun hi h2 h3=>zjn (hi:=hi) HN.out hlo h2 h3;clear hlo;generalize esc p n=m at *;rcases zia (p:=p) (m:=m+1) with ⟨hd,c1⟩|⟨hd,h2,c1,c2⟩|⟨hd,h2,c1,c2,c3⟩|⟨hd,h2,c1,c2,c3⟩
   ·have d1:=no (show ¬ (m:Int)+1+1<(p.length:Int) by omega)
    have HD:=j7nb hd;clear hd
    go_wp2_with (go_at_call 160;refine (HB.out _ _).mono ?_;rintro e w' ⟨rfl,rfl⟩)
    go_ret2;exact MemPost.some_ (HM1.out HD.out) (bit_eq _ _) (by omega) hb1
   ·have d1:(m:Int)+1+1<(p.length:Int):=by omega
    have d2:=not_b (n:=45) rfl c2;have HD:=j7nb hd;clear hd c2
    go_wp2_with (go_at_call 160;refine (HB.out _ _).mono ?_;rintro e w' ⟨rfl,rfl⟩)
    go_ret2;exact MemPost.some_ (HM1.out HD.out) (bit_eq _ _) (by omega) hb1
   ·have d1:(m:Int)+1+1<(p.length:Int):=by omega
    have d2:=is_b (n:=45) rfl c2;have d3:=is_nb (n:=93) rfl c3;have HD:=j7nb hd;clear hd c2 c3
    go_wp2_with (go_at_call 160;refine (HB.out _ _).mono ?_;rintro e w' ⟨rfl,rfl⟩)
    go_ret2;exact MemPost.some_ (HM1.out HD.out) (bit_eq _ _) (by omega) hb1
   ·have d1:(m:Int)+1+1<(p.length:Int):=by omega
    have d2:=is_b (n:=45) rfl c2;have d3:=not_nb (n:=93) rfl c3;have HD:=j7nb hd;clear hd c2 c3;go_upto_if 64 with fail
    go_cut [1] (fun s1 w'=>s1 = .int .i64 (esc p (m+2))∧Below w.heap.size w w')
    case first =>
     have hm2:m+1+1<p.length:=by omega
     by_cases h92:p[m+1+1]=92
     ·have e1:=is_b (n:=92) rfl h92
      have HE:=j7nb (znk hm2 h92);clear h92;go_wp2;go_meet;exact ⟨by rw [HE.out];go_num,hb1⟩
     ·have e1:=not_b (n:=92) rfl h92
      have HE:=j7nb (esc_no hm2 h92);clear h92;go_wp2;go_meet;exact ⟨by rw [HE.out];go_num,hb1⟩
    case rest =>
    obtain ⟨rfl,hb2⟩:=hcut;have hle:=esc_le p (m+2);generalize esc p (m+2)=q at *;by_cases hq:q<p.length
    ·have HQ:=j7nb (HM3.out p[q] HD.out (List.getElem?_eq_getElem hq))
     have e1:=no (show ¬ p.length≤q by omega);have q0:(0:Int)≤(q:Int):=by omega
     have q1:(q:Int)<(p.length:Int):=by omega
     by_cases hlo:p[m].toNat≤b.toNat
     ·have HLB:=j7nb hlo
      go_wp2_with (go_at_call 160;refine (HB.out _ _).mono ?_;rintro e w' ⟨rfl,rfl⟩)
      go_ret2;refine MemPost.some_ HQ.out (congrArg bitI ?_) (by omega) hb2
      show _=btw _ _ _
      rw [btw_mk (yes (by have:=HLB.out;omega)) rfl,Bool.true_and];rw [decide_eq_decide];omega
     ·have e2:=no hlo
      have HLB:=j7nb hlo;clear hlo
      go_wp2_with (go_at_call 160;refine (HB.out _ _).mono ?_;rintro e w' ⟨rfl,rfl⟩)
      go_ret2;refine MemPost.some_ HQ.out (congrArg bitI ?_) (by omega) hb2
      show _=btw _ _ _
      rw [btw_mk (no (by have:=HLB.out;omega)) rfl,Bool.false_and]
    ·have HA:=j7nb (HM2.out HD.out (by omega))
     have e1:p.length≤q:=by omega
     go_wp2;go_ret2;exact MemPost.none_ HA.out hb2
  ·have HA:=j7nb (zh6 HN.out (by omega:p.length≤esc p n))
   generalize esc p n=m at *;have d1:p.length≤m:=by omega
   go_wp2;go_ret2;exact MemPost.none_ HA.out hb1
def memEnd (p:List UInt8) (n:Nat):Nat:=match memAt p n with
 | none=>0
 | some x=>x.2
def memSet (p:List UInt8) (n:Nat) (f:UInt8→Bool):UInt8→Bool:=match memAt p n with
 | none=>f
 | some x=>fun c=>f c || x.1 c
def MemP (p:List UInt8) (n b:Nat) (f:UInt8→Bool) (w:World) (e:Ending) (w':World):Prop:=e = .returned (.int .i64 (memEnd p n))∧SetAt w' b (memSet p n f)∧Keeps (fun k=>k=b) w w'
theorem MemP.some_ {p:List UInt8} {n b e:Nat} {f g h:UInt8→Bool} {w w':World} {y:Int} (hm:memAt p n=some (g,e)) (hy:y=e) (hs:SetAt w' b h) (hg:h=fun c=>f c || g c) (hk:Keeps (fun k=>k=b) w w'):MemP p n b f w (.returned (.int .i64 y)) w':=by
 have h1:memEnd p n=e:=by unfold memEnd;rw [hm]
 have h2:memSet p n f=fun c=>f c || g c:=by unfold memSet;rw [hm]
 exact ⟨by rw [h1,hy],by rw [h2,← hg];exact hs,hk⟩
theorem MemP.none_ {p:List UInt8} {n b:Nat} {f:UInt8→Bool} {w w':World} (hm:memAt p n=none) (hs:SetAt w' b f) (hk:Keeps (fun k=>k=b) w w'):MemP p n b f w (.returned (.int .i64 0)) w':=by
 have h1:memEnd p n=0:=by unfold memEnd;rw [hm]
 have h2:memSet p n f=f:=by unfold memSet;rw [hm]
 exact ⟨by rw [h1];rfl,by rw [h2];exact hs,hk⟩
def rng (f:UInt8→Bool) (lo j:Nat):UInt8→Bool:=fun c=>f c || (decide (lo≤c.toNat) && decide (c.toNat<j))
theorem zlm (f:UInt8→Bool) (lo:Nat):rng f lo lo=f:=by
 funext c
 unfold rng;by_cases h:lo≤c.toNat
 ·rw [decide_eq_false (show ¬ c.toNat<lo by omega),Bool.and_false,Bool.or_false]
 ·rw [decide_eq_false h,Bool.false_and,Bool.or_false]
theorem zln (f:UInt8→Bool) {lo j:Nat} (h:lo≤j) (hj:j<256):(fun c=>rng f lo j c || c == UInt8.ofNat j)=rng f lo (j+1):=by
 funext c
 unfold rng;by_cases e:c=UInt8.ofNat j
 ·have e2:=(byte_k hj c).1 e
  rw [decide_eq_true (show c.toNat<j+1 by omega),decide_eq_true (show lo≤c.toNat by omega),e];simp
 ·have e2:c.toNat≠j:=fun h=>e ((byte_k hj c).2 h)
  have e3:(c == UInt8.ofNat j)=false:=by simpa using e
  rw [e3,Bool.or_false];by_cases h1:c.toNat<j
  ·rw [decide_eq_true h1,decide_eq_true (show c.toNat<j+1 by omega)]
  ·rw [decide_eq_false h1,decide_eq_false (show ¬ c.toNat<j+1 by omega)]
theorem zne (f:UInt8→Bool) {lo hi j:Nat} (h:hi<j) (h2:j=lo∨j≤hi+1):rng f lo j=fun c=>f c || btw c lo hi:=by
 funext c
 unfold rng btw
 congr 1
 rw [Bool.eq_iff_iff,Bool.and_eq_true,Bool.and_eq_true,decide_eq_true_eq,decide_eq_true_eq,decide_eq_true_eq,decide_eq_true_eq];omega
theorem btw_one (lo:UInt8):(fun b:UInt8=>b == lo)=fun b=>btw b lo.toNat lo.toNat:=by
 funext b
 unfold btw;rw [Bool.eq_iff_iff,Bool.and_eq_true,decide_eq_true_eq,decide_eq_true_eq,beq_iff_eq]
 constructor
 ·intro h;subst h;omega
 ·intro h;exact UInt8.toNat_inj.1 (by omega)
theorem fin_g {x f g g':UInt8→Bool} (h:x=fun c=>f c || g' c) (hg:g=g'):x=fun c=>f c || g c:=by rw [h,hg]
set_option maxHeartbeats 3200000 in
theorem znf (p:List UInt8) (n b:Nat) (f:UInt8→Bool) (w:World) (hs:SetAt w b f) (hm:MaxL w) (hb:b≠0) (hp:p.length≤1073741824) (hn:n<p.length) :
  Calls Tryz.prog 197 #[.pointer (some ⟨b,0,none⟩),.string (B p),.int .i64 n] w (MemP p n b f w):=by
 have HC:=j7nb fun w hs hm=>cls_any p n b f w hs hm hb hp (by omega);have HS:=j7nb hs;have HM:=j7nb hm;have i0:(0:Int)≤(n:Int):=by omega
 have i1:(n:Int)<(p.length:Int):=by omega
 clear hs hm
 cases hc:clsAt p n with
 | some nm =>
  unfold ClsPost at HC;rw [(zft f hc).1,(zft f hc).2] at HC;have HA:=j7nb (zjl hc);have d0:(n:Int)<(n:Int)+(nm.length:Int)+4:=by omega
  clear hc;go_enter Tryz.func197,Tryz.ntmps197
  go_wp2_with (go_at_call 198;refine (HC.out _ HS.out HM.out).mono ?_;rintro e w2 ⟨rfl,hs2,hk2⟩;have HS2:=j7nb hs2;have HK2:=j7nb hk2;clear hs2 hk2)
  go_ret;exact MemP.some_ HA.out (by omega) HS2.out rfl HK2.out
 | none =>
  unfold ClsPost at HC;rw [(zfu f hc).1,(zfu f hc).2] at HC;have HN:=j7nb hc;have HO:=j7nb fun w=>one_any p n w (by omega) (by omega);have hle:=esc_le p n;clear hc;by_cases h1:esc p n<p.length
  ·have hlo:=List.getElem?_eq_getElem h1
   have HM1:=j7nb fun h2=>zjm HN.out hlo h2;have HM2:=j7nb fun h2 h3=>zh7 HN.out hlo h2 h3;have HM3:=j7nb fun hi h2 h3=>zjn (hi:=hi) HN.out hlo h2 h3;rw [zdr (m:=esc p n) rfl hlo] at HO;clear hlo;dsimp only at HO;generalize esc p n=m at *
   obtain ⟨lo,hlo⟩:∃ c,p[m]=c:=⟨_,rfl⟩
   rw [hlo] at HO HM1 HM3;clear hlo;have d0:=beq_eq_false_iff_ne.2 (show ¬ (m:Int)+1=0 by omega);rcases zia (p:=p) (m:=m+1) with ⟨hd,c1⟩|⟨hd,h2,c1,c2⟩|⟨hd,h2,c1,c2,c3⟩|⟨hd,h2,c1,c2,c3⟩
   rotate_right
   ·have d1:(m:Int)+1+1<(p.length:Int):=by omega
    have d2:=is_b (n:=45) rfl c2;have d3:=not_nb (n:=93) rfl c3;have HD:=j7nb hd
    have ho2:∀ w,Calls Tryz.prog 199 #[.string (B p),.int .i64 ((m:Int)+1+1)] w fun e w'=>e = .returned (.tuple #[.int .u8 (oneV p (m+2)).1.toNat,.int .i64 (oneV p (m+2)).2])∧w=w':=fun w=>by
     have:=one_any p (m+2) w (by omega) (by omega)
     rwa [show ((m+2:Nat):Int)=(m:Int)+1+1 by omega] at this
    have HO2:=j7nb ho2;have hle2:=esc_le p (m+2);clear hd c2 c3 ho2;by_cases hq:esc p (m+2)<p.length
    ·have hhi:=List.getElem?_eq_getElem hq
     have HQ:=j7nb (HM3.out _ HD.out hhi);rw [zdr (m:=esc p (m+2)) rfl hhi] at HO2;clear hhi;dsimp only at HO2;generalize esc p (m+2)=q at *
     obtain ⟨hi,hhi⟩:∃ c,p[q]=c:=⟨_,rfl⟩
     rw [hhi] at HO2 HQ;clear hhi;have d4:=beq_eq_false_iff_ne.2 (show ¬ (q:Int)+1=0 by omega);have hlo8:=lo.toNat_lt;have hhi8:=hi.toNat_lt;go_enter Tryz.func197,Tryz.ntmps197
     go_wp2_with (first|(go_at_call 198;refine (HC.out _ HS.out HM.out).mono ?_;rintro e w2 ⟨rfl,hs2,hk2⟩;have HS2:=j7nb hs2;have HK2:=j7nb hk2;clear hs2 hk2)|(go_at_call 199;(with_reducible refine (HO.out _).mono ?_);rintro e w' ⟨rfl,rfl⟩)|(go_at_call 199;(with_reducible refine (HO2.out _).mono ?_);rintro e w' ⟨rfl,rfl⟩))
     go_loopw [10] (fun i w'=>∃ j:Nat,lo.toNat≤j∧j≤256∧(j=lo.toNat∨j≤hi.toNat+1)∧i = .int .i64 j∧Hid (SetAt w' b (rng f lo.toNat j))∧Hid (Keeps (fun k=>k=b) w w')) (fun i _=>256 - (intOf i).toNat)
     case atStart=>exact ⟨lo.toNat,by omega,by omega,.inl rfl,rfl,by show SetAt _ _ _;rw [zlm];exact HS2.out,HK2.out⟩
     case round =>
      obtain ⟨j,hj0,hj1,hj2,rfl,HSJ,HKJ⟩:=hrel;by_cases hlt:j≤hi.toNat
      ·have hw:=wrapb j (by omega)
       have HAD:=j7nb fun w hs=>add_any (rng f lo.toNat j) (UInt8.ofNat j) b w hs;have HE:=j7nb (zln f hj0 (show j<256 by omega))
       go_wp2_with (go_at_call 200;refine (HAD.out _ HSJ.out).mono ?_;rintro e w3 ⟨rfl,hs3,hk3⟩;have HS3:=j7nb hs3;have HK3:=j7nb (HKJ.out.trans hk3);clear hs3 hk3)
       go_roundw
       case rel=>exact ⟨j+1,by omega,by omega,by omega,by go_num,by show SetAt _ _ _;rw [← HE.out];exact HS3.out,HK3.out⟩
       case measure=>simp [intOf];omega
      ·have HE:=j7nb (zne f (show hi.toNat<j by omega) hj2)
       have d1:=no hlt;go_wp2;go_ret;exact MemP.some_ HQ.out (by omega) HSJ.out (fin_g HE.out rfl) HKJ.out
    ·have HA:=j7nb (HM2.out HD.out (by omega))
     rw [zdq (m:=esc p (m+2)) rfl (List.getElem?_eq_none (by omega))] at HO2;dsimp only at HO2;go_enter Tryz.func197,Tryz.ntmps197
     go_wp2_with (first|(go_at_call 198;refine (HC.out _ HS.out HM.out).mono ?_;rintro e w2 ⟨rfl,hs2,hk2⟩;have HS2:=j7nb hs2;have HK2:=j7nb hk2;clear hs2 hk2)|(go_at_call 199;(with_reducible refine (HO.out _).mono ?_);rintro e w' ⟨rfl,rfl⟩)|(go_at_call 199;(with_reducible refine (HO2.out _).mono ?_);rintro e w' ⟨rfl,rfl⟩))
     go_ret;exact MemP.none_ HA.out HS2.out HK2.out
   all_goals
    try have d1:=no (show ¬ (m:Int)+1+1<(p.length:Int) by omega)
    try have d2:(m:Int)+1+1<(p.length:Int):=by omega
    try have d3:=not_b (n:=45) rfl c2
    try have d3:=is_b (n:=45) rfl c2
    try have d4:=is_nb (n:=93) rfl c3
    have HD:=j7nb hd;have HQ:=j7nb (HM1.out HD.out);have HG:=j7nb (btw_one lo);have hlo8:=lo.toNat_lt;clear hd
    try clear c2
    try clear c3
    go_enter Tryz.func197,Tryz.ntmps197
    go_wp2_with (first|(go_at_call 198;refine (HC.out _ HS.out HM.out).mono ?_;rintro e w2 ⟨rfl,hs2,hk2⟩;have HS2:=j7nb hs2;have HK2:=j7nb hk2;clear hs2 hk2)|(go_at_call 199;(with_reducible refine (HO.out _).mono ?_);rintro e w' ⟨rfl,rfl⟩))
    go_loopw [10] (fun i w'=>∃ j:Nat,lo.toNat≤j∧j≤256∧(j=lo.toNat∨j≤lo.toNat+1)∧i = .int .i64 j∧Hid (SetAt w' b (rng f lo.toNat j))∧Hid (Keeps (fun k=>k=b) w w')) (fun i _=>256 - (intOf i).toNat)
    case atStart=>exact ⟨lo.toNat,by omega,by omega,.inl rfl,rfl,by show SetAt _ _ _;rw [zlm];exact HS2.out,HK2.out⟩
    case round =>
     obtain ⟨j,hj0,hj1,hj2,rfl,HSJ,HKJ⟩:=hrel;by_cases hlt:j≤lo.toNat
     ·have hw:=wrapb j (by omega)
      have HAD:=j7nb fun w hs=>add_any (rng f lo.toNat j) (UInt8.ofNat j) b w hs;have HE:=j7nb (zln f hj0 (show j<256 by omega))
      go_wp2_with (go_at_call 200;refine (HAD.out _ HSJ.out).mono ?_;rintro e w3 ⟨rfl,hs3,hk3⟩;have HS3:=j7nb hs3;have HK3:=j7nb (HKJ.out.trans hk3);clear hs3 hk3)
      go_roundw
      case rel=>exact ⟨j+1,by omega,by omega,by omega,by go_num,by show SetAt _ _ _;rw [← HE.out];exact HS3.out,HK3.out⟩
      case measure=>simp [intOf];omega
     ·have HE:=j7nb (zne f (show lo.toNat<j by omega) hj2)
      have d1:=no hlt;go_wp2;go_ret;exact MemP.some_ HQ.out (by omega) HSJ.out (fin_g HE.out HG.out) HKJ.out
  ·have HA:=j7nb (zh6 HN.out (by omega:p.length≤esc p n))
   rw [zdq (m:=esc p n) rfl (List.getElem?_eq_none (by omega))] at HO;dsimp only at HO;go_enter Tryz.func197,Tryz.ntmps197
   go_wp2_with (first|(go_at_call 198;refine (HC.out _ HS.out HM.out).mono ?_;rintro e w2 ⟨rfl,hs2,hk2⟩;have HS2:=j7nb hs2;have HK2:=j7nb hk2;clear hs2 hk2)|(go_at_call 199;(with_reducible refine (HO.out _).mono ?_);rintro e w' ⟨rfl,rfl⟩))
   go_ret;exact MemP.none_ HA.out HS2.out HK2.out
end Go.Proofs.YtfmecpnokefokaaGreatDoor.Pat
