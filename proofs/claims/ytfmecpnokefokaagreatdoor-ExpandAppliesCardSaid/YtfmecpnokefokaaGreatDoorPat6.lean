/-
  The walks of layer 16 (pattern): the class that is named at a place, added to a set. Conditions: texts of at most 2^30 bytes; the library's variable MaxLen holds some number.
-/
import Derived.Test.YtfmecpnokefokaaGreatDoorPat4
import Derived.Test.YtfmecpnokefokaaGreatDoorHist
set_option linter.unusedSimpArgs false
set_option linter.unusedVariables false
namespace Go.Proofs.YtfmecpnokefokaaGreatDoor.Pat
open Go.ChangeShapes Go.WideShapes Go.Deep Go.RowKit
set_option maxRecDepth 100000
theorem wrapb (k:Nat) (h:k<256):IntKind.u8.wrap (k:Int)=((UInt8.ofNat k).toNat:Int):=by
 rw [wraps_u8 _ (by omega) (by omega)]
 simp;omega
set_option maxHeartbeats 1600000 in
theorem zpv (name:List UInt8) (w:World):Calls Tryz.prog 175 #[.string (B name)] w fun e w'=>e = .returned (.bool (known name))∧w=w':=by
 obtain ⟨r,hr⟩:∃ r,r=known name:=⟨_,rfl⟩
 rw [← hr]
 have HR:=Lib.hid hr
 clear hr
 go_enter Tryz.func175,Tryz.ntmps175
 go_wp2
 go_loop [3] (fun i=>∃ k:Nat,k≤128∧i = .int .i64 k∧Hid (∀ j,j<k→inCls name (UInt8.ofNat j)=false)) (fun i=>128 - (intOf i).toNat)
 case atStart=>exact ⟨0,by omega,rfl,fun j h=>by omega⟩
 case round =>
  obtain ⟨k,hk,rfl,HF⟩:=hrel
  by_cases hlt:k<128
  ·have hw:=wrapb k (by omega)
   cases hx:inCls name (UInt8.ofNat k) with
   | true =>
    have HO:=Lib.hid fun w=>of_any name (UInt8.ofNat k) w
    rw [hx] at HO
    have HX:=Lib.hid hx
    clear hx
    go_wp2_with (go_at_call 161;refine (HO.out _).mono ?_;rintro e w' ⟨rfl,rfl⟩)
    go_ret
    refine ⟨ret_b ?_,rfl⟩
    rw [HR.out,← zkj]
    exact (List.any_eq_true.2 ⟨k,by simpa using hlt,HX.out⟩).symm
   | false =>
    have HO:=Lib.hid fun w=>of_any name (UInt8.ofNat k) w
    rw [hx] at HO
    have HX:=Lib.hid hx
    clear hx
    go_wp2_with (go_at_call 161;refine (HO.out _).mono ?_;rintro e w' ⟨rfl,rfl⟩)
    go_round
    case rel =>
     refine ⟨k+1,by omega,by go_num,fun j hj=>?_⟩
     by_cases hjk:j<k
     ·exact HF.out j hjk
     ·obtain rfl:j=k:=by omega
      exact HX.out
    case measure=>simp [intOf];omega
  ·have hk':k=128:=by omega
   have HK:=Lib.hid hk'
   clear hk'
   go_wp2
   go_ret
   refine ⟨ret_b ?_,rfl⟩
   rw [HR.out,← zkj]
   refine (List.any_eq_false.2 fun j hj=>?_).symm
   rw [HF.out j (by have:=HK.out;simp at hj;omega)]
   simp
def clsL (p:List UInt8) (n:Nat):Nat:=match clsAt p n with
 | none=>0
 | some nm=>nm.length+4
def clsN (p:List UInt8) (n:Nat):List UInt8:=match clsAt p n with
 | none=>[]
 | some nm=>nm
theorem zfa {p:List UInt8} {n:Nat} {nm:List UInt8} (h:clsAt p n=some nm):clsL p n=nm.length+4∧clsN p n=nm:=by unfold clsL clsN;rw [h];exact ⟨rfl,rfl⟩
theorem zfb {p:List UInt8} {n:Nat} (h:clsAt p n=none):clsL p n=0∧clsN p n=[]:=by unfold clsL clsN;rw [h];exact ⟨rfl,rfl⟩
theorem zpw {p:List UInt8} {n k:Nat} (h:clsK p n k=false) :
  (decide ((n:Int)+k+4≤(p.length:Int))=false) ∨
  ((n:Int)+k+4≤(p.length:Int)∧((p.take (n+2)).drop n == [91,58])=false) ∨
  ((n:Int)+k+4≤(p.length:Int)∧((p.take (n+2)).drop n == [91,58])=true∧((p.take (n+4+k)).drop (n+2+k) == [58,93])=false) ∨
  ((n:Int)+k+4≤(p.length:Int)∧((p.take (n+2)).drop n == [91,58])=true∧((p.take (n+4+k)).drop (n+2+k) == [58,93])=true∧known (nmK p n k)=false):=by
 unfold clsK at h
 by_cases h1:n+k+4≤p.length
 ·rw [yes h1,Bool.true_and] at h
  cases h2:((p.take (n+2)).drop n == [91,58]) with
  | false=>exact .inr (.inl ⟨by omega,rfl⟩)
  | true =>
   rw [h2,Bool.true_and] at h
   cases h3:((p.take (n+4+k)).drop (n+2+k) == [58,93]) with
   | false=>exact .inr (.inr (.inl ⟨by omega,rfl,rfl⟩))
   | true =>
    rw [h3,Bool.true_and] at h
    exact .inr (.inr (.inr ⟨by omega,rfl,rfl,h⟩))
 ·exact .inl (no (by omega))
theorem clsK_all {p:List UInt8} {n k:Nat} (h:clsK p n k=true):(n:Int)+k+4≤(p.length:Int)∧((p.take (n+2)).drop n == [91,58])=true∧((p.take (n+4+k)).drop (n+2+k) == [58,93])=true∧known (nmK p n k)=true:=by
 simp only [clsK,Bool.and_eq_true,decide_eq_true_eq] at h
 exact ⟨by have:=h.1.1.1;omega,h.1.1.2,h.1.2,h.2⟩
theorem clsAt_of {p:List UInt8} {n k:Nat} (h5:5≤k∧k<7) (h:clsK p n k=true) (hf:∀ j,5≤j→j<k→clsK p n j=false):clsAt p n=some (nmK p n k):=by
 unfold clsAt
 by_cases hk:k=5
 ·subst hk;rw [if_pos h]
 ·obtain rfl:k=6:=by omega
  rw [hf 5 (by omega) (by omega),if_neg (by simp),if_pos h]
theorem zpx {p:List UInt8} {n:Nat} (hf:∀ j,5≤j→j<7→clsK p n j=false):clsAt p n=none:=by
 unfold clsAt
 rw [hf 5 (by omega) (by omega),if_neg (by simp),hf 6 (by omega) (by omega),if_neg (by simp)]
theorem zio {f:Nat→Bool} {k:Nat} (h:∀ j,5≤j→j<k→f j=false) (hk:f k=false):∀ j,5≤j→j<k+1→f j=false:=fun j h1 h2=>by
 by_cases hj:j<k
 ·exact h j h1 hj
 ·obtain rfl:j=k:=by omega
  exact hk
set_option maxHeartbeats 3200000 in
theorem zry (p:List UInt8) (n:Nat) (w:World) (hp:p.length≤1073741824) (hn:n≤1073741824) :
  Calls Tryz.prog 159 #[.string (B p),.int .i64 n] w fun e w'=>e = .returned (.tuple #[.int .i64 (clsL p n),.string (B (clsN p n))])∧Below w.heap.size w w':=by
 obtain ⟨r1,h1⟩:∃ r,r=clsL p n:=⟨_,rfl⟩
 obtain ⟨r2,h2⟩:∃ r,r=clsN p n:=⟨_,rfl⟩
 rw [← h1,← h2]
 have HR:=Lib.hid (And.intro h1 h2)
 clear h1 h2
 go_enter Tryz.func159,Tryz.ntmps159
 go_wp2
 go_loopw [6] (fun i w'=>∃ k:Nat,5≤k∧k≤7∧i = .int .i64 k∧Hid (∀ j,5≤j→j<k→clsK p n j=false)∧w'=w) (fun i _=>7 - (intOf i).toNat)
 case atStart=>exact ⟨5,by omega,by omega,rfl,fun j h1 h=>by omega,rfl⟩
 case round =>
  obtain ⟨k,hk5,hk,rfl,HF,rfl⟩:=hrel
  by_cases hlt:k<7
  ·have d0:(k:Int)≤6:=by omega
   have hkn:=Lib.hid fun w=>zpv (nmK p n k) w
   cases hc:clsK p n k with
   | true =>
    obtain ⟨c1,c2,c3,c4⟩:=clsK_all hc
    have HC:=Lib.hid hc
    rw [c4] at hkn
    unfold nmK at hkn
    have HA:=Lib.hid (clsAt_of (by omega) HC.out HF.out)
    clear hc c4
    go_wp2_with (go_at_call 175;refine (hkn.out _).mono ?_;rintro e w' ⟨rfl,rfl⟩)
    have q1:IntKind.i64.wrap ((k:Int)+4)=(k:Int)+4:=IntWalk.i64_in _ (by omega)
    have q2:IntKind.i64.wrap ((n:Int)+2)=(n:Int)+2:=IntWalk.i64_in _ (by omega)
    have q3:IntKind.i64.wrap ((n:Int)+2+(k:Int))=(n:Int)+2+(k:Int):=IntWalk.i64_in _ (by omega)
    have q4:(0:Int)≤(n:Int)+2:=by omega
    have q5:(n:Int)+2≤(n:Int)+2+(k:Int):=by omega
    have q6:(n:Int)+2+(k:Int)≤(p.length:Int):=by omega
    have q7:((n:Int)+2).toNat=n+2:=by omega
    have q8:((n:Int)+2+(k:Int)).toNat=n+2+k:=by omega
    have HL:=Lib.hid (zc6 (p:=p) (n:=n) (k:=k) (by omega))
    go_quiet (fail)
    go_wp2
    go_ret2
    refine ⟨?_,zzr⟩
    obtain ⟨r1,r2⟩:=HR.out
    rw [r1,r2,(zfa HA.out).1,(zfa HA.out).2,HL.out]
    rfl
   | false =>
    have HC:=Lib.hid hc
    clear HC
    rcases zpw hc with c1|⟨c1,c2⟩|⟨c1,c2,c3⟩|⟨c1,c2,c3,c4⟩
    rotate_right
    ·rw [c4] at hkn
     unfold nmK at hkn
     have HC:=Lib.hid hc
     clear hc c4
     go_wp2_with (go_at_call 175;refine (hkn.out _).mono ?_;rintro e w' ⟨rfl,rfl⟩)
     go_roundw
     case rel=>exact ⟨k+1,by omega,by omega,by go_num,zio HF.out HC.out,trivial⟩
     case measure=>simp [intOf];omega
    all_goals
     have HC:=Lib.hid hc
     clear hc
     go_wp2
     go_roundw
     case rel=>exact ⟨k+1,by omega,by omega,by go_num,zio HF.out HC.out,trivial⟩
     case measure=>simp [intOf];omega
  ·have HK:=Lib.hid (show k=7 by omega)
   have HA:Hid (clsAt p n=none):=zpx (fun j h1 h2=>HF.out j h1 (by have:=HK.out;omega))
   go_wp2
   go_ret2
   refine ⟨?_,Below.refl _ _⟩
   obtain ⟨r1,r2⟩:=HR.out
   rw [r1,r2,(zfb HA.out).1,(zfb HA.out).2]
   rfl
end Go.Proofs.YtfmecpnokefokaaGreatDoor.Pat
namespace Go.Proofs.YtfmecpnokefokaaGreatDoor.Pat
open Go.ChangeShapes Go.WideShapes Go.Deep Go.RowKit
set_option maxRecDepth 100000
theorem zg1 (s p:List UInt8) (w:World):Calls Tryz.prog 89 #[.string (B s),.string (B p)] w fun e w'=>e = .returned (.bool (Lib.hasPrefix s p))∧w=w' :=
 (Tryz.strings_HasPrefix (B s) (B p) w).mono fun e w' ⟨he,hw⟩=>⟨by rw [he,B_data,B_data],hw.symm⟩
theorem index_b (s p:List UInt8) (w:World) (hs:s.length≤1073741824) (hm:MaxL w):Calls Tryz.prog 201 #[.string (B s),.string (B p)] w fun e w'=>e = .returned (.int .i64 (Lib.index s p))∧w=w':=by
 obtain ⟨m,hm⟩:=hm
 exact (Tryz.strings_Index (B s) (B p) m w (by rw [B_size];omega) hm).mono fun e w' ⟨he,hw⟩=>⟨by rw [he,B_data,B_data],hw.symm⟩
theorem prefix2 (p:List UInt8) (n:Nat):Lib.hasPrefix (p.drop n) [91,58]=((p.take (n+2)).drop n == [91,58]):=by
 unfold Lib.hasPrefix
 rw [zfd,show n+2 - n=2 by omega]
 generalize p.drop n=q
 match q with
 | []=>rfl
 | [a]=>simp [List.isPrefixOf]
 | a :: b :: t=>simp [List.isPrefixOf,Bool.beq_comm (a:=(91:UInt8)),Bool.beq_comm (a:=(58:UInt8)),eq_comm]
def clsEnd (p:List UInt8) (n:Nat):Nat:=match clsAt p n with
 | none=>n
 | some nm=>n+nm.length+4
def clsSet (p:List UInt8) (n:Nat) (f:UInt8→Bool):UInt8→Bool:=match clsAt p n with
 | none=>f
 | some nm=>fun c=>f c || inCls nm c
theorem zf6 {p:List UInt8} {n:Nat} {nm:List UInt8} (f:UInt8→Bool) (h:clsAt p n=some nm):clsEnd p n=n+nm.length+4∧clsSet p n f=fun c=>f c || inCls nm c:=by unfold clsEnd clsSet;rw [h];exact ⟨rfl,rfl⟩
theorem zf7 {p:List UInt8} {n:Nat} (f:UInt8→Bool) (h:clsAt p n=none):clsEnd p n=n∧clsSet p n f=f:=by unfold clsEnd clsSet;rw [h];exact ⟨rfl,rfl⟩
def ClsPost (p:List UInt8) (n b:Nat) (f:UInt8→Bool) (w:World) (e:Ending) (w':World):Prop:=e = .returned (.int .i64 (clsEnd p n))∧SetAt w' b (clsSet p n f)∧Keeps (fun k=>k=b) w w'
theorem ClsPost.none_ {p:List UInt8} {n b:Nat} {f:UInt8→Bool} {w:World} (hs:SetAt w b f) (h:clsAt p n=none):ClsPost p n b f w (.returned (.int .i64 n)) w:=by
 obtain ⟨h1,h2⟩:=zf7 f h
 exact ⟨by rw [h1],by rw [h2];exact hs,Keeps.refl _ _⟩
def upto (nm:List UInt8) (k:Nat) (f:UInt8→Bool):UInt8→Bool:=fun c=>f c || (decide (c.toNat<k) && inCls nm c)
theorem zrz (nm:List UInt8) (f:UInt8→Bool):upto nm 0 f=f:=by funext c;simp [upto]
theorem upto_all (nm:List UInt8) (f:UInt8→Bool):upto nm 256 f=fun c=>f c || inCls nm c:=by
 funext c
 have:=c.toNat_lt
 simp only [upto,decide_eq_true (show c.toNat<256 by omega),Bool.true_and]
theorem byte_k {k:Nat} (h:k<256) (c:UInt8):c=UInt8.ofNat k ↔ c.toNat=k:=by
 constructor
 ·intro e;subst e;simp;omega
 ·intro e;subst e;simp
theorem upto_yes {nm:List UInt8} {k:Nat} (f:UInt8→Bool) (hk:k<256) (h:inCls nm (UInt8.ofNat k)=true):(fun c=>upto nm k f c || c == UInt8.ofNat k)=upto nm (k+1) f:=by
 funext c
 simp only [upto]
 by_cases e:c=UInt8.ofNat k
 ·have e2:=(byte_k hk c).1 e
  have h':inCls nm c=true:=by rw [e];exact h
  rw [decide_eq_true (show c.toNat<k+1 by omega),h',e];simp
 ·have e2:c.toNat≠k:=fun h=>e ((byte_k hk c).2 h)
  have e3:(c == UInt8.ofNat k)=false:=by simpa using e
  rw [e3,Bool.or_false]
  by_cases h1:c.toNat<k
  ·rw [decide_eq_true h1,decide_eq_true (show c.toNat<k+1 by omega)]
  ·rw [decide_eq_false h1,decide_eq_false (show ¬ c.toNat<k+1 by omega)]
theorem upto_no {nm:List UInt8} {k:Nat} (f:UInt8→Bool) (hk:k<256) (h:inCls nm (UInt8.ofNat k)=false):upto nm k f=upto nm (k+1) f:=by
 funext c
 simp only [upto]
 by_cases e:c=UInt8.ofNat k
 ·rw [← e] at h
  rw [h];simp
 ·have e2:c.toNat≠k:=fun h=>e ((byte_k hk c).2 h)
  by_cases h1:c.toNat<k
  ·rw [decide_eq_true h1,decide_eq_true (show c.toNat<k+1 by omega)]
  ·rw [decide_eq_false h1,decide_eq_false (show ¬ c.toNat<k+1 by omega)]
set_option maxHeartbeats 3200000 in
theorem cls_any (p:List UInt8) (n b:Nat) (f:UInt8→Bool) (w:World) (hs:SetAt w b f) (hm:MaxL w) (hb:b≠0) (hp:p.length≤1073741824) (hn:n≤p.length) :
  Calls Tryz.prog 198 #[.pointer (some ⟨b,0,none⟩),.string (B p),.int .i64 n] w (ClsPost p n b f w):=by
 have HS:=Lib.hid hs
 have HM:=Lib.hid hm
 have i0:(0:Int)≤(n:Int):=by omega
 have i1:(n:Int)≤(p.length:Int):=by omega
 clear hs hm
 cases hh:((p.take (n+2)).drop n == [91,58]) with
 | false =>
  have HP:=Lib.hid fun w=>zg1 (p.drop n) [91,58] w
  rw [prefix2,hh] at HP
  have HA:=Lib.hid (zpz (p:=p) (n:=n) (by simpa using hh))
  clear hh
  go_enter Tryz.func198,Tryz.ntmps198
  go_wp2_with (go_at_call 89;refine (HP.out _).mono ?_;rintro e w' ⟨rfl,rfl⟩)
  go_ret
  exact ClsPost.none_ HS.out HA.out
 | true =>
  have HP:=Lib.hid fun w=>zg1 (p.drop n) [91,58] w
  rw [prefix2,hh] at HP
  have hh2:(p.take (n+2)).drop n=[91,58]:=by simpa using hh
  have hl:n+2≤p.length:=by have:=congrArg List.length hh2;simp at this;omega
  have HH:=Lib.hid hh2
  have HX:=Lib.hid fun w=>index_b (p.drop (n+2)) [58,93] w (by simp;omega)
  clear hh hh2
  have i2:(n:Int)+2≤(p.length:Int):=by omega
  by_cases hi:Lib.index (p.drop (n+2)) [58,93]<0
  ·have HA:=Lib.hid (znh hi)
   generalize Lib.index (p.drop (n+2)) [58,93]=x at *
   go_enter Tryz.func198,Tryz.ntmps198
   go_wp2_with (first|(go_at_call 89;refine (HP.out _).mono ?_;rintro e w' ⟨rfl,rfl⟩)|(go_at_call 201;refine (HX.out _ HM.out).mono ?_;rintro e w' ⟨rfl,rfl⟩))
   go_ret
   exact ClsPost.none_ HS.out HA.out
  ·obtain ⟨k,hk⟩:∃ k:Nat,Lib.index (p.drop (n+2)) [58,93]=k:=⟨(Lib.index (p.drop (n+2)) [58,93]).toNat,by omega⟩
   have hr:=Lib.index_room (p.drop (n+2)) [58,93] (by omega)
   rw [hk] at hr
   have hl2:n+k+4≤p.length:=by simp at hr;omega
   have HK:=Lib.hid hk
   rw [hk] at HX
   have d0:=no (show ¬ (k:Int)<0 by omega)
   have i3:(n:Int)+2+k≤(p.length:Int):=by omega
   have i4:(n:Int)+2≤(n:Int)+2+k:=by omega
   have i5:(0:Int)≤(k:Int):=by omega
   have HIS:Hid (∀ w,Calls Tryz.prog 202 #[.string (B (nmK p n k)),.int .u8 0] w fun e w'=>e = .returned (.tuple #[.bool (inCls (nmK p n k) 0),.bool (known (nmK p n k))])∧w=w'):=fun w=>is_any (nmK p n k) 0 w
   unfold nmK at HIS
   clear hi hk hr
   cases hkn:known (nmK p n k) with
   | false =>
    unfold nmK at hkn
    rw [hkn] at HIS
    have HA:=Lib.hid (zk4 HK.out hkn)
    clear hkn
    go_enter Tryz.func198,Tryz.ntmps198
    go_wp2_with (first|(go_at_call 89;refine (HP.out _).mono ?_;rintro e w' ⟨rfl,rfl⟩)|(go_at_call 201;refine (HX.out _ HM.out).mono ?_;rintro e w' ⟨rfl,rfl⟩)|(go_at_call 202;refine (HIS.out _).mono ?_;rintro e w' ⟨rfl,rfl⟩))
    go_ret
    exact ClsPost.none_ HS.out HA.out
   | true =>
    have HA:=Lib.hid (zr3 HH.out HK.out hkn)
    have HL:=Lib.hid (zc6 hl2)
    unfold nmK at hkn HA HL
    rw [hkn] at HIS
    have HKN:=Lib.hid hkn
    clear hkn
    go_enter Tryz.func198,Tryz.ntmps198
    go_wp2_with (first|(go_at_call 89;refine (HP.out _).mono ?_;rintro e w' ⟨rfl,rfl⟩)|(go_at_call 201;refine (HX.out _ HM.out).mono ?_;rintro e w' ⟨rfl,rfl⟩)|(go_at_call 202;refine (HIS.out _).mono ?_;rintro e w' ⟨rfl,rfl⟩))
    generalize (p.take (n+2+k)).drop (n+2)=nm at *
    go_loopw [44] (fun i w'=>∃ j:Nat,j≤256∧i = .int .i64 j∧Hid (SetAt w' b (upto nm j f))∧Hid (Keeps (fun k=>k=b) w w')) (fun i _=>256 - (intOf i).toNat)
    case atStart=>exact ⟨0,by omega,rfl,by show SetAt _ _ _;rw [zrz];exact HS.out,Keeps.refl _ _⟩
    case round =>
     obtain ⟨j,hj,rfl,HSJ,HKJ⟩:=hrel
     by_cases hlt:j<256
     ·have hw:=wrapb j hlt
      have HIJ:=Lib.hid fun w=>is_any nm (UInt8.ofNat j) w
      have HAD:=Lib.hid fun w hs=>zjj (upto nm j f) (UInt8.ofNat j) b w hs
      cases hx:inCls nm (UInt8.ofNat j) with
      | true =>
       have HE:=Lib.hid (upto_yes f hlt hx)
       rw [hx] at HIJ
       clear hx
       go_wp2_with (first|(go_at_call 202;refine (HIJ.out _).mono ?_;rintro e w' ⟨rfl,rfl⟩)|(go_at_call 200;refine (HAD.out _ HSJ.out).mono ?_;rintro e w2 ⟨rfl,hs2,hk2⟩;have HS2:=Lib.hid hs2;have HK2:=Lib.hid (HKJ.out.trans hk2);clear hs2 hk2))
       go_roundw
       case rel=>exact ⟨j+1,by omega,by go_num,by show SetAt _ _ _;rw [← HE.out];exact HS2.out,HK2.out⟩
       case measure=>simp [intOf];omega
      | false =>
       have HE:=Lib.hid (upto_no f hlt hx)
       rw [hx] at HIJ
       clear hx
       go_wp2_with (go_at_call 202;refine (HIJ.out _).mono ?_;rintro e w' ⟨rfl,rfl⟩)
       go_roundw
       case rel=>exact ⟨j+1,by omega,by go_num,by show SetAt _ _ _;rw [← HE.out];exact HSJ.out,HKJ.out⟩
       case measure=>simp [intOf];omega
     ·have hj':j=256:=by omega
      have HJ:=Lib.hid hj'
      clear hj'
      go_wp2
      go_ret
      obtain ⟨h1,h2⟩:=zf6 f HA.out
      refine ⟨?_,?_,HKJ.out⟩
      ·rw [h1,HL.out]
       exact ret_i64 (by omega)
      ·rw [h2,← upto_all,← HJ.out];exact HSJ.out
end Go.Proofs.YtfmecpnokefokaaGreatDoor.Pat
