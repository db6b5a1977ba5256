/-
  The walks of layer 16 (pattern): the set at a place, by the program. Conditions: texts of at most 2^30 bytes; the library's variable MaxLen holds some number.
-/
import Derived.Test.YtjcdmjdofdnaoaaGreatDoorPat5
import Derived.Test.YtjcdmjdofdnaoaaGreatDoorShaped
set_option linter.unusedSimpArgs false
set_option linter.unusedVariables false
namespace Go.Proofs.YtjcdmjdofdnaoaaGreatDoor.Pat
open Go.ChangeShapes Go.WideShapes Go.Deep Go.RowKit
set_option maxRecDepth 100000
theorem _root_.Go.Proofs.YtjcdmjdofdnaoaaGreatDoor.j7mb {p:Prop} (h:p):Go.RowKit.Hid p:=Go.Lib.hid h
theorem zfj (s p:List UInt8) (w:World):Calls Tryz.prog 35 #[.string (B s),.string (B p)] w fun e w'=>e = .returned (.bool (Lib.hasPrefix s p))∧w=w' :=
 (Tryz.strings_HasPrefix (B s) (B p) w).mono fun e w' ⟨he,hw⟩=>⟨by rw [he,B_data,B_data],hw.symm⟩
theorem index_b (s p:List UInt8) (w:World) (hs:s.length≤1073741824) (hm:MaxL w):Calls Tryz.prog 112 #[.string (B s),.string (B p)] w fun e w'=>e = .returned (.int .i64 (Lib.index s p))∧w=w':=by
 obtain ⟨m,hm⟩:=hm
 exact (Tryz.strings_Index (B s) (B p) m w (by rw [B_size];omega) hm).mono fun e w' ⟨he,hw⟩=>⟨by rw [he,B_data,B_data],hw.symm⟩
theorem prefix2 (p:List UInt8) (n:Nat):Lib.hasPrefix (p.drop n) [91,58]=((p.take (n+2)).drop n == [91,58]):=by
 unfold Lib.hasPrefix;rw [zd3,show n+2 - n=2 by omega];generalize p.drop n=q
 match q with
 | []=>rfl
 | [a]=>simp [List.isPrefixOf]
 | a :: b :: t=>simp [List.isPrefixOf,Bool.beq_comm (a:=(91:UInt8)),Bool.beq_comm (a:=(58:UInt8)),eq_comm]
def clsEnd (p:List UInt8) (n:Nat):Nat:=match clsAt p n with
 | none=>n
 | some nm=>n+nm.length+4
def clsSet (p:List UInt8) (n:Nat) (f:UInt8→Bool):UInt8→Bool:=match clsAt p n with
 | none=>f
 | some nm=>fun c=>f c || inCls nm c
theorem zeq {p:List UInt8} {n:Nat} {nm:List UInt8} (f:UInt8→Bool) (h:clsAt p n=some nm):clsEnd p n=n+nm.length+4∧clsSet p n f=fun c=>f c || inCls nm c:=by unfold clsEnd clsSet;rw [h];exact ⟨rfl,rfl⟩
theorem zer {p:List UInt8} {n:Nat} (f:UInt8→Bool) (h:clsAt p n=none):clsEnd p n=n∧clsSet p n f=f:=by unfold clsEnd clsSet;rw [h];exact ⟨rfl,rfl⟩
def ClsPost (p:List UInt8) (n b:Nat) (f:UInt8→Bool) (w:World) (e:Ending) (w':World):Prop:=e = .returned (.int .i64 (clsEnd p n))∧SetAt w' b (clsSet p n f)∧Keeps (fun k=>k=b) w w'
theorem ClsPost.none_ {p:List UInt8} {n b:Nat} {f:UInt8→Bool} {w:World} (hs:SetAt w b f) (h:clsAt p n=none):ClsPost p n b f w (.returned (.int .i64 n)) w:=by
 obtain ⟨h1,h2⟩:=zer f h;exact ⟨by rw [h1],by rw [h2];exact hs,Keeps.refl _ _⟩
def upto (nm:List UInt8) (k:Nat) (f:UInt8→Bool):UInt8→Bool:=fun c=>f c || (decide (c.toNat<k) && inCls nm c)
theorem zo7 (nm:List UInt8) (f:UInt8→Bool):upto nm 0 f=f:=by funext c;simp [upto]
theorem upto_all (nm:List UInt8) (f:UInt8→Bool):upto nm 256 f=fun c=>f c || inCls nm c:=by
 funext c
 have:=c.toNat_lt;simp only [upto,decide_eq_true (show c.toNat<256 by omega),Bool.true_and]
theorem byte_k {k:Nat} (h:k<256) (c:UInt8):c=UInt8.ofNat k ↔ c.toNat=k:=by
 constructor
 ·intro e;subst e;simp;omega
 ·intro e;subst e;simp
theorem upto_yes {nm:List UInt8} {k:Nat} (f:UInt8→Bool) (hk:k<256) (h:inCls nm (UInt8.ofNat k)=true):(fun c=>upto nm k f c || c == UInt8.ofNat k)=upto nm (k+1) f:=by
 funext c
 simp only [upto];by_cases e:c=UInt8.ofNat k
 ·have e2:=(byte_k hk c).1 e
  have h':inCls nm c=true:=by rw [e];exact h
  rw [decide_eq_true (show c.toNat<k+1 by omega),h',e];simp
 ·have e2:c.toNat≠k:=fun h=>e ((byte_k hk c).2 h)
  have e3:(c == UInt8.ofNat k)=false:=by simpa using e
  rw [e3,Bool.or_false];by_cases h1:c.toNat<k
  ·rw [decide_eq_true h1,decide_eq_true (show c.toNat<k+1 by omega)]
  ·rw [decide_eq_false h1,decide_eq_false (show ¬ c.toNat<k+1 by omega)]
theorem upto_no {nm:List UInt8} {k:Nat} (f:UInt8→Bool) (hk:k<256) (h:inCls nm (UInt8.ofNat k)=false):upto nm k f=upto nm (k+1) f:=by
 funext c
 simp only [upto];by_cases e:c=UInt8.ofNat k
 ·rw [← e] at h
  rw [h];simp
 ·have e2:c.toNat≠k:=fun h=>e ((byte_k hk c).2 h)
  by_cases h1:c.toNat<k
  ·rw [decide_eq_true h1,decide_eq_true (show c.toNat<k+1 by omega)]
  ·rw [decide_eq_false h1,decide_eq_false (show ¬ c.toNat<k+1 by omega)]
set_option maxHeartbeats 3200000 in
theorem cls_any (p:List UInt8) (n b:Nat) (f:UInt8→Bool) (w:World) (hs:SetAt w b f) (hm:MaxL w) (hb:b≠0) (hp:p.length≤1073741824) (hn:n≤p.length) :
  Calls Tryz.prog 165 #[.pointer (some ⟨b,0,none⟩),.string (B p),.int .i64 n] w (ClsPost p n b f w):=by
 have HS:=j7mb hs;have HM:=j7mb hm;have i0:(0:Int)≤(n:Int):=by omega
 have i1:(n:Int)≤(p.length:Int):=by omega
 clear hs hm
 cases hh:((p.take (n+2)).drop n == [91,58]) with
 | false =>
  have HP:=j7mb fun w=>zfj (p.drop n) [91,58] w;rw [prefix2,hh] at HP;have HA:=j7mb (znd (p:=p) (n:=n) (by simpa using hh));clear hh;go_enter Tryz.func165,Tryz.ntmps165
  go_wp2_with (go_at_call 35;refine (HP.out _).mono ?_;rintro e w' ⟨rfl,rfl⟩)
  go_ret;exact ClsPost.none_ HS.out HA.out
 | true =>
  have HP:=j7mb fun w=>zfj (p.drop n) [91,58] w;rw [prefix2,hh] at HP;have hh2:(p.take (n+2)).drop n=[91,58]:=by simpa using hh
  have hl:n+2≤p.length:=by have:=congrArg List.length hh2;simp at this;omega
  have HH:=j7mb hh2;have HX:=j7mb fun w=>index_b (p.drop (n+2)) [58,93] w (by simp;omega);clear hh hh2;have i2:(n:Int)+2≤(p.length:Int):=by omega
  by_cases hi:Lib.index (p.drop (n+2)) [58,93]<0
  ·have HA:=j7mb (zk6 hi)
   generalize Lib.index (p.drop (n+2)) [58,93]=x at *;go_enter Tryz.func165,Tryz.ntmps165
   go_wp2_with (first|(go_at_call 35;refine (HP.out _).mono ?_;rintro e w' ⟨rfl,rfl⟩)|(go_at_call 112;refine (HX.out _ HM.out).mono ?_;rintro e w' ⟨rfl,rfl⟩))
   go_ret;exact ClsPost.none_ HS.out HA.out
  ·obtain ⟨k,hk⟩:∃ k:Nat,Lib.index (p.drop (n+2)) [58,93]=k:=⟨(Lib.index (p.drop (n+2)) [58,93]).toNat,by omega⟩
   have hr:=Lib.index_room (p.drop (n+2)) [58,93] (by omega);rw [hk] at hr;have hl2:n+k+4≤p.length:=by simp at hr;omega
   have HK:=j7mb hk;rw [hk] at HX;have d0:=no (show ¬ (k:Int)<0 by omega);have i3:(n:Int)+2+k≤(p.length:Int):=by omega
   have i4:(n:Int)+2≤(n:Int)+2+k:=by omega
   have i5:(0:Int)≤(k:Int):=by omega
   have HIS:Hid (∀ w,Calls Tryz.prog 186 #[.string (B (nmK p n k)),.int .u8 0] w fun e w'=>e = .returned (.tuple #[.bool (inCls (nmK p n k) 0),.bool (known (nmK p n k))])∧w=w'):=fun w=>is_any (nmK p n k) 0 w;unfold nmK at HIS;clear hi hk hr
   cases hkn:known (nmK p n k) with
   | false =>
    unfold nmK at hkn;rw [hkn] at HIS;have HA:=j7mb (zie HK.out hkn);clear hkn;go_enter Tryz.func165,Tryz.ntmps165
    go_wp2_with (first|(go_at_call 35;refine (HP.out _).mono ?_;rintro e w' ⟨rfl,rfl⟩)|(go_at_call 112;refine (HX.out _ HM.out).mono ?_;rintro e w' ⟨rfl,rfl⟩)|(go_at_call 186;refine (HIS.out _).mono ?_;rintro e w' ⟨rfl,rfl⟩))
    go_ret;exact ClsPost.none_ HS.out HA.out
   | true =>
    have HA:=j7mb (zpo HH.out HK.out hkn);have HL:=j7mb (zdm hl2);unfold nmK at hkn HA HL;rw [hkn] at HIS;have HKN:=j7mb hkn;clear hkn;go_enter Tryz.func165,Tryz.ntmps165
    go_wp2_with (first|(go_at_call 35;refine (HP.out _).mono ?_;rintro e w' ⟨rfl,rfl⟩)|(go_at_call 112;refine (HX.out _ HM.out).mono ?_;rintro e w' ⟨rfl,rfl⟩)|(go_at_call 186;refine (HIS.out _).mono ?_;rintro e w' ⟨rfl,rfl⟩))
    generalize (p.take (n+2+k)).drop (n+2)=nm at *
    go_loopw [44] (fun i w'=>∃ j:Nat,j≤256∧i = .int .i64 j∧Hid (SetAt w' b (upto nm j f))∧Hid (Keeps (fun k=>k=b) w w')) (fun i _=>256 - (intOf i).toNat)
    case atStart=>exact ⟨0,by omega,rfl,by show SetAt _ _ _;rw [zo7];exact HS.out,Keeps.refl _ _⟩
    case round =>
     obtain ⟨j,hj,rfl,HSJ,HKJ⟩:=hrel;by_cases hlt:j<256
     ·have hw:=wrapb j hlt
      have HIJ:=j7mb fun w=>is_any nm (UInt8.ofNat j) w;have HAD:=j7mb fun w hs=>add_any (upto nm j f) (UInt8.ofNat j) b w hs
      cases hx:inCls nm (UInt8.ofNat j) with
      | true =>
       have HE:=j7mb (upto_yes f hlt hx);rw [hx] at HIJ;clear hx
       go_wp2_with (first|(go_at_call 186;refine (HIJ.out _).mono ?_;rintro e w' ⟨rfl,rfl⟩)|(go_at_call 167;refine (HAD.out _ HSJ.out).mono ?_;rintro e w2 ⟨rfl,hs2,hk2⟩;have HS2:=j7mb hs2;have HK2:=j7mb (HKJ.out.trans hk2);clear hs2 hk2))
       go_roundw
       case rel=>exact ⟨j+1,by omega,by go_num,by show SetAt _ _ _;rw [← HE.out];exact HS2.out,HK2.out⟩
       case measure=>simp [intOf];omega
      | false =>
       have HE:=j7mb (upto_no f hlt hx);rw [hx] at HIJ;clear hx
       go_wp2_with (go_at_call 186;refine (HIJ.out _).mono ?_;rintro e w' ⟨rfl,rfl⟩)
       go_roundw
       case rel=>exact ⟨j+1,by omega,by go_num,by show SetAt _ _ _;rw [← HE.out];exact HSJ.out,HKJ.out⟩
       case measure=>simp [intOf];omega
     ·have hj':j=256:=by omega
      have HJ:=j7mb hj';clear hj';go_wp2;go_ret;obtain ⟨h1,h2⟩:=zeq f HA.out;refine ⟨?_,?_,HKJ.out⟩
      ·rw [h1,HL.out]
       exact ret_i64 (by omega)
      ·rw [h2,← upto_all,← HJ.out];exact HSJ.out
theorem zo8 {p:List UInt8} {n:Nat} {nm:List UInt8} (h:clsAt p n=some nm):memAt p n=some (inCls nm,n+nm.length+4):=by unfold memAt;rw [h]
theorem zm8 {p:List UInt8} {n:Nat} (h:clsAt p n=none) (h1:p.length≤esc p n):memAt p n=none:=by
 unfold memAt;rw [h];dsimp only;rw [List.getElem?_eq_none h1]
theorem zo9 {p:List UInt8} {n:Nat} {lo:UInt8} (h:clsAt p n=none) (h1:p[esc p n]?=some lo) (h2:dash p (esc p n+1)=false):memAt p n=some (fun b=>b == lo,esc p n+1):=by
 unfold memAt;rw [h];dsimp only;rw [h1];dsimp only;rw [h2];rfl
theorem zm9 {p:List UInt8} {n:Nat} {lo:UInt8} (h:clsAt p n=none) (h1:p[esc p n]?=some lo) (h2:dash p (esc p n+1)=true) (h3:p.length≤esc p (esc p n+2)):memAt p n=none:=by
 unfold memAt;rw [h];dsimp only;rw [h1];dsimp only;rw [if_pos h2,List.getElem?_eq_none h3]
theorem zpa {p:List UInt8} {n:Nat} {lo hi:UInt8} (h:clsAt p n=none) (h1:p[esc p n]?=some lo) (h2:dash p (esc p n+1)=true) (h3:p[esc p (esc p n+2)]?=some hi):memAt p n=some (fun b=>btw b lo.toNat hi.toNat,esc p (esc p n+2)+1):=by
 unfold memAt;rw [h];dsimp only;rw [h1];dsimp only;rw [if_pos h2,h3]
def bitI (x:Bool):Int:=if x=true then 1 else 0
def memB (p:List UInt8) (n:Nat) (b:UInt8):Int:=match memAt p n with
 | none=>0
 | some x=>bitI (x.1 b)
def memE (p:List UInt8) (n:Nat):Int:=match memAt p n with
 | none => -1
 | some x=>x.2
theorem mem_some {p:List UInt8} {n e:Nat} {g:UInt8→Bool} (b:UInt8) (h:memAt p n=some (g,e)):memB p n b=bitI (g b)∧memE p n=e:=by unfold memB memE;rw [h];exact ⟨rfl,rfl⟩
theorem mem_none {p:List UInt8} {n:Nat} (b:UInt8) (h:memAt p n=none):memB p n b=0∧memE p n = -1:=by unfold memB memE;rw [h];exact ⟨rfl,rfl⟩
def MemPost (p:List UInt8) (n:Nat) (b:UInt8) (w:World) (e:Ending) (w':World):Prop:=e = .returned (.tuple #[.int .i64 (memB p n b),.int .i64 (memE p n)])∧Below w.heap.size w w'
theorem MemPost.some_ {p:List UInt8} {n e:Nat} {b:UInt8} {w w':World} {g:UInt8→Bool} {x y:Int} (h:memAt p n=some (g,e)) (hx:x=bitI (g b)) (hy:y=e) (hb:Below w.heap.size w w'):MemPost p n b w (.returned (.tuple #[.int .i64 x,.int .i64 y])) w':=by
 obtain ⟨h1,h2⟩:=mem_some b h;exact ⟨by rw [h1,h2,hx,hy],hb⟩
theorem MemPost.none_ {p:List UInt8} {n:Nat} {b:UInt8} {w w':World} (h:memAt p n=none) (hb:Below w.heap.size w w'):MemPost p n b w (.returned (.tuple #[.int .i64 0,.int .i64 (-1)])) w':=by
 obtain ⟨h1,h2⟩:=mem_none b h;exact ⟨by rw [h1,h2],hb⟩
def memEnd (p:List UInt8) (n:Nat):Nat:=match memAt p n with
 | none=>0
 | some x=>x.2
def memSet (p:List UInt8) (n:Nat) (f:UInt8→Bool):UInt8→Bool:=match memAt p n with
 | none=>f
 | some x=>fun c=>f c || x.1 c
def MemP (p:List UInt8) (n b:Nat) (f:UInt8→Bool) (w:World) (e:Ending) (w':World):Prop:=e = .returned (.int .i64 (memEnd p n))∧SetAt w' b (memSet p n f)∧Keeps (fun k=>k=b) w w'
theorem MemP.some_ {p:List UInt8} {n b e:Nat} {f g h:UInt8→Bool} {w w':World} {y:Int} (hm:memAt p n=some (g,e)) (hy:y=e) (hs:SetAt w' b h) (hg:h=fun c=>f c || g c) (hk:Keeps (fun k=>k=b) w w'):MemP p n b f w (.returned (.int .i64 y)) w':=by
 have h1:memEnd p n=e:=by unfold memEnd;rw [hm]
 have h2:memSet p n f=fun c=>f c || g c:=by unfold memSet;rw [hm]
 exact ⟨by rw [h1,hy],by rw [h2,← hg];exact hs,hk⟩
theorem MemP.none_ {p:List UInt8} {n b:Nat} {f:UInt8→Bool} {w w':World} (hm:memAt p n=none) (hs:SetAt w' b f) (hk:Keeps (fun k=>k=b) w w'):MemP p n b f w (.returned (.int .i64 0)) w':=by
 have h1:memEnd p n=0:=by unfold memEnd;rw [hm]
 have h2:memSet p n f=f:=by unfold memSet;rw [hm]
 exact ⟨by rw [h1];rfl,by rw [h2];exact hs,hk⟩
def rng (f:UInt8→Bool) (lo j:Nat):UInt8→Bool:=fun c=>f c || (decide (lo≤c.toNat) && decide (c.toNat<j))
theorem zjs (f:UInt8→Bool) (lo:Nat):rng f lo lo=f:=by
 funext c
 unfold rng;by_cases h:lo≤c.toNat
 ·rw [decide_eq_false (show ¬ c.toNat<lo by omega),Bool.and_false,Bool.or_false]
 ·rw [decide_eq_false h,Bool.false_and,Bool.or_false]
theorem zjt (f:UInt8→Bool) {lo j:Nat} (h:lo≤j) (hj:j<256):(fun c=>rng f lo j c || c == UInt8.ofNat j)=rng f lo (j+1):=by
 funext c
 unfold rng;by_cases e:c=UInt8.ofNat j
 ·have e2:=(byte_k hj c).1 e
  rw [decide_eq_true (show c.toNat<j+1 by omega),decide_eq_true (show lo≤c.toNat by omega),e];simp
 ·have e2:c.toNat≠j:=fun h=>e ((byte_k hj c).2 h)
  have e3:(c == UInt8.ofNat j)=false:=by simpa using e
  rw [e3,Bool.or_false];by_cases h1:c.toNat<j
  ·rw [decide_eq_true h1,decide_eq_true (show c.toNat<j+1 by omega)]
  ·rw [decide_eq_false h1,decide_eq_false (show ¬ c.toNat<j+1 by omega)]
theorem zls (f:UInt8→Bool) {lo hi j:Nat} (h:hi<j) (h2:j=lo∨j≤hi+1):rng f lo j=fun c=>f c || btw c lo hi:=by
 funext c
 unfold rng btw
 congr 1
 rw [Bool.eq_iff_iff,Bool.and_eq_true,Bool.and_eq_true,decide_eq_true_eq,decide_eq_true_eq,decide_eq_true_eq,decide_eq_true_eq];omega
theorem btw_one (lo:UInt8):(fun b:UInt8=>b == lo)=fun b=>btw b lo.toNat lo.toNat:=by
 funext b
 unfold btw;rw [Bool.eq_iff_iff,Bool.and_eq_true,decide_eq_true_eq,decide_eq_true_eq,beq_iff_eq]
 constructor
 ·intro h;subst h;omega
 ·intro h;exact UInt8.toNat_inj.1 (by omega)
theorem fin_g {x f g g':UInt8→Bool} (h:x=fun c=>f c || g' c) (hg:g=g'):x=fun c=>f c || g c:=by rw [h,hg]
set_option maxHeartbeats 3200000 in
theorem zlt (p:List UInt8) (n b:Nat) (f:UInt8→Bool) (w:World) (hs:SetAt w b f) (hm:MaxL w) (hb:b≠0) (hp:p.length≤1073741824) (hn:n<p.length) :
  Calls Tryz.prog 135 #[.pointer (some ⟨b,0,none⟩),.string (B p),.int .i64 n] w (MemP p n b f w):=by
 have HC:=j7mb fun w hs hm=>cls_any p n b f w hs hm hb hp (by omega);have HS:=j7mb hs;have HM:=j7mb hm;have i0:(0:Int)≤(n:Int):=by omega
 have i1:(n:Int)<(p.length:Int):=by omega
 clear hs hm
 cases hc:clsAt p n with
 | some nm =>
  unfold ClsPost at HC;rw [(zeq f hc).1,(zeq f hc).2] at HC;have HA:=j7mb (zo8 hc);have d0:(n:Int)<(n:Int)+(nm.length:Int)+4:=by omega
  clear hc;go_enter Tryz.func135,Tryz.ntmps135
  go_wp2_with (go_at_call 165;refine (HC.out _ HS.out HM.out).mono ?_;rintro e w2 ⟨rfl,hs2,hk2⟩;have HS2:=j7mb hs2;have HK2:=j7mb hk2;clear hs2 hk2)
  go_ret;exact MemP.some_ HA.out (by omega) HS2.out rfl HK2.out
 | none =>
  unfold ClsPost at HC;rw [(zer f hc).1,(zer f hc).2] at HC;have HN:=j7mb hc;have HO:=j7mb fun w=>one_any p n w (by omega) (by omega);have hle:=esc_le p n;clear hc;by_cases h1:esc p n<p.length
  ·have hlo:=List.getElem?_eq_getElem h1
   have HM1:=j7mb fun h2=>zo9 HN.out hlo h2;have HM2:=j7mb fun h2 h3=>zm9 HN.out hlo h2 h3;have HM3:=j7mb fun hi h2 h3=>zpa (hi:=hi) HN.out hlo h2 h3;rw [zc2 (m:=esc p n) rfl hlo] at HO;clear hlo;dsimp only at HO;generalize esc p n=m at *
   obtain ⟨lo,hlo⟩:∃ c,p[m]=c:=⟨_,rfl⟩
   rw [hlo] at HO HM1 HM3;clear hlo;have d0:=beq_eq_false_iff_ne.2 (show ¬ (m:Int)+1=0 by omega);rcases znc (p:=p) (m:=m+1) with ⟨hd,c1⟩|⟨hd,h2,c1,c2⟩|⟨hd,h2,c1,c2,c3⟩|⟨hd,h2,c1,c2,c3⟩
   rotate_right
   ·have d1:(m:Int)+1+1<(p.length:Int):=by omega
    have d2:=is_b (n:=45) rfl c2;have d3:=not_nb (n:=93) rfl c3;have HD:=j7mb hd
    have ho2:∀ w,Calls Tryz.prog 166 #[.string (B p),.int .i64 ((m:Int)+1+1)] w fun e w'=>e = .returned (.tuple #[.int .u8 (oneV p (m+2)).1.toNat,.int .i64 (oneV p (m+2)).2])∧w=w':=fun w=>by
     have:=one_any p (m+2) w (by omega) (by omega)
     rwa [show ((m+2:Nat):Int)=(m:Int)+1+1 by omega] at this
    have HO2:=j7mb ho2;have hle2:=esc_le p (m+2);clear hd c2 c3 ho2;by_cases hq:esc p (m+2)<p.length
    ·have hhi:=List.getElem?_eq_getElem hq
     have HQ:=j7mb (HM3.out _ HD.out hhi);rw [zc2 (m:=esc p (m+2)) rfl hhi] at HO2;clear hhi;dsimp only at HO2;generalize esc p (m+2)=q at *
     obtain ⟨hi,hhi⟩:∃ c,p[q]=c:=⟨_,rfl⟩
     rw [hhi] at HO2 HQ;clear hhi;have d4:=beq_eq_false_iff_ne.2 (show ¬ (q:Int)+1=0 by omega);have hlo8:=lo.toNat_lt;have hhi8:=hi.toNat_lt;go_enter Tryz.func135,Tryz.ntmps135
     go_wp2_with (first|(go_at_call 165;refine (HC.out _ HS.out HM.out).mono ?_;rintro e w2 ⟨rfl,hs2,hk2⟩;have HS2:=j7mb hs2;have HK2:=j7mb hk2;clear hs2 hk2)|(go_at_call 166;(with_reducible refine (HO.out _).mono ?_);rintro e w' ⟨rfl,rfl⟩)|(go_at_call 166;(with_reducible refine (HO2.out _).mono ?_);rintro e w' ⟨rfl,rfl⟩))
     go_loopw [10] (fun i w'=>∃ j:Nat,lo.toNat≤j∧j≤256∧(j=lo.toNat∨j≤hi.toNat+1)∧i = .int .i64 j∧Hid (SetAt w' b (rng f lo.toNat j))∧Hid (Keeps (fun k=>k=b) w w')) (fun i _=>256 - (intOf i).toNat)
     case atStart=>exact ⟨lo.toNat,by omega,by omega,.inl rfl,rfl,by show SetAt _ _ _;rw [zjs];exact HS2.out,HK2.out⟩
     case round =>
      obtain ⟨j,hj0,hj1,hj2,rfl,HSJ,HKJ⟩:=hrel;by_cases hlt:j≤hi.toNat
      ·have hw:=wrapb j (by omega)
       have HAD:=j7mb fun w hs=>add_any (rng f lo.toNat j) (UInt8.ofNat j) b w hs;have HE:=j7mb (zjt f hj0 (show j<256 by omega))
       go_wp2_with (go_at_call 167;refine (HAD.out _ HSJ.out).mono ?_;rintro e w3 ⟨rfl,hs3,hk3⟩;have HS3:=j7mb hs3;have HK3:=j7mb (HKJ.out.trans hk3);clear hs3 hk3)
       go_roundw
       case rel=>exact ⟨j+1,by omega,by omega,by omega,by go_num,by show SetAt _ _ _;rw [← HE.out];exact HS3.out,HK3.out⟩
       case measure=>simp [intOf];omega
      ·have HE:=j7mb (zls f (show hi.toNat<j by omega) hj2)
       have d1:=no hlt;go_wp2;go_ret;exact MemP.some_ HQ.out (by omega) HSJ.out (fin_g HE.out rfl) HKJ.out
    ·have HA:=j7mb (HM2.out HD.out (by omega))
     rw [zc1 (m:=esc p (m+2)) rfl (List.getElem?_eq_none (by omega))] at HO2;dsimp only at HO2;go_enter Tryz.func135,Tryz.ntmps135
     go_wp2_with (first|(go_at_call 165;refine (HC.out _ HS.out HM.out).mono ?_;rintro e w2 ⟨rfl,hs2,hk2⟩;have HS2:=j7mb hs2;have HK2:=j7mb hk2;clear hs2 hk2)|(go_at_call 166;(with_reducible refine (HO.out _).mono ?_);rintro e w' ⟨rfl,rfl⟩)|(go_at_call 166;(with_reducible refine (HO2.out _).mono ?_);rintro e w' ⟨rfl,rfl⟩))
     go_ret;exact MemP.none_ HA.out HS2.out HK2.out
   all_goals
    try have d1:=no (show ¬ (m:Int)+1+1<(p.length:Int) by omega)
    try have d2:(m:Int)+1+1<(p.length:Int):=by omega
    try have d3:=not_b (n:=45) rfl c2
    try have d3:=is_b (n:=45) rfl c2
    try have d4:=is_nb (n:=93) rfl c3
    have HD:=j7mb hd;have HQ:=j7mb (HM1.out HD.out);have HG:=j7mb (btw_one lo);have hlo8:=lo.toNat_lt;clear hd
    try clear c2
    try clear c3
    go_enter Tryz.func135,Tryz.ntmps135
    go_wp2_with (first|(go_at_call 165;refine (HC.out _ HS.out HM.out).mono ?_;rintro e w2 ⟨rfl,hs2,hk2⟩;have HS2:=j7mb hs2;have HK2:=j7mb hk2;clear hs2 hk2)|(go_at_call 166;(with_reducible refine (HO.out _).mono ?_);rintro e w' ⟨rfl,rfl⟩))
    go_loopw [10] (fun i w'=>∃ j:Nat,lo.toNat≤j∧j≤256∧(j=lo.toNat∨j≤lo.toNat+1)∧i = .int .i64 j∧Hid (SetAt w' b (rng f lo.toNat j))∧Hid (Keeps (fun k=>k=b) w w')) (fun i _=>256 - (intOf i).toNat)
    case atStart=>exact ⟨lo.toNat,by omega,by omega,.inl rfl,rfl,by show SetAt _ _ _;rw [zjs];exact HS2.out,HK2.out⟩
    case round =>
     obtain ⟨j,hj0,hj1,hj2,rfl,HSJ,HKJ⟩:=hrel;by_cases hlt:j≤lo.toNat
     ·have hw:=wrapb j (by omega)
      have HAD:=j7mb fun w hs=>add_any (rng f lo.toNat j) (UInt8.ofNat j) b w hs;have HE:=j7mb (zjt f hj0 (show j<256 by omega))
      go_wp2_with (go_at_call 167;refine (HAD.out _ HSJ.out).mono ?_;rintro e w3 ⟨rfl,hs3,hk3⟩;have HS3:=j7mb hs3;have HK3:=j7mb (HKJ.out.trans hk3);clear hs3 hk3)
      go_roundw
      case rel=>exact ⟨j+1,by omega,by omega,by omega,by go_num,by show SetAt _ _ _;rw [← HE.out];exact HS3.out,HK3.out⟩
      case measure=>simp [intOf];omega
     ·have HE:=j7mb (zls f (show lo.toNat<j by omega) hj2)
      have d1:=no hlt;go_wp2;go_ret;exact MemP.some_ HQ.out (by omega) HSJ.out (fin_g HE.out HG.out) HKJ.out
  ·have HA:=j7mb (zm8 HN.out (by omega:p.length≤esc p n))
   rw [zc1 (m:=esc p n) rfl (List.getElem?_eq_none (by omega))] at HO;dsimp only at HO;go_enter Tryz.func135,Tryz.ntmps135
   go_wp2_with (first|(go_at_call 165;refine (HC.out _ HS.out HM.out).mono ?_;rintro e w2 ⟨rfl,hs2,hk2⟩;have HS2:=j7mb hs2;have HK2:=j7mb hk2;clear hs2 hk2)|(go_at_call 166;(with_reducible refine (HO.out _).mono ?_);rintro e w' ⟨rfl,rfl⟩))
   go_ret;exact MemP.none_ HA.out HS2.out HK2.out
def setB (p:List UInt8) (n:Nat) (b:UInt8):Int:=match brAt p n with
 | none=>0
 | some x=>bitI (x.1 b)
def setE (p:List UInt8) (n:Nat):Int:=match brAt p n with
 | none => -1
 | some x=>x.2
def SetP (p:List UInt8) (n:Nat) (b:UInt8) (w:World) (e:Ending) (w':World):Prop:=e = .returned (.tuple #[.int .i64 (setB p n b),.int .i64 (setE p n)])∧Below w.heap.size w w'
theorem SetP.some_ {p:List UInt8} {n e:Nat} {b:UInt8} {w w':World} {g:UInt8→Bool} {x y:Int} (h:brAt p n=some (g,e)) (hx:x=bitI (g b)) (hy:y=e) (hb:Below w.heap.size w w'):SetP p n b w (.returned (.tuple #[.int .i64 x,.int .i64 y])) w':=by
 have h1:setB p n b=bitI (g b):=by unfold setB;rw [h]
 have h2:setE p n=e:=by unfold setE;rw [h]
 exact ⟨by rw [h1,h2,hx,hy],hb⟩
theorem SetP.none_ {p:List UInt8} {n:Nat} {b:UInt8} {w w':World} (h:brAt p n=none) (hb:Below w.heap.size w w'):SetP p n b w (.returned (.tuple #[.int .i64 0,.int .i64 (-1)])) w':=by
 have h1:setB p n b=0:=by unfold setB;rw [h]
 have h2:setE p n = -1:=by unfold setE;rw [h]
 exact ⟨by rw [h1,h2],hb⟩
theorem brAt_not {p:List UInt8} {n:Nat} {g:UInt8→Bool} {e:Nat} (h:p[n+1]?=some 33) (h2:setR p (n+2) (n+2) (fun _=>false)=some (g,e)):brAt p n=some (fun b => !g b,e):=by
 unfold brAt;rw [if_pos h,h2];rfl
theorem zpb {p:List UInt8} {n:Nat} (h:p[n+1]?=some 33) (h2:setR p (n+2) (n+2) (fun _=>false)=none):brAt p n=none:=by
 unfold brAt;rw [if_pos h,h2];rfl
theorem zgn {p:List UInt8} {n:Nat} (h:¬ p[n+1]?=some 33):brAt p n=setR p (n+1) (n+1) (fun _=>false):=by
 unfold brAt;rw [if_neg h]
def brF (p:List UInt8) (n:Nat):UInt8→Bool:=match brAt p n with
 | none=>fun _=>false
 | some x=>x.1
def brE (p:List UInt8) (n:Nat):Nat:=match brAt p n with
 | none=>0
 | some x=>x.2
def BrP (p:List UInt8) (n:Nat) (w:World) (e:Ending) (w':World):Prop:=e = .returned (.tuple #[setV (brF p n),.int .i64 (brE p n)])∧Below w.heap.size w w'
theorem setV0:setV (fun _=>false) = .agg #[.int .u64 0,.int .u64 0,.int .u64 0,.int .u64 0]:=by simp [setV,zah]
theorem BrP.none_ {p:List UInt8} {n:Nat} {w w':World} (h:brAt p n=none) (hb:Below w.heap.size w w'):BrP p n w (.returned (.tuple #[.agg #[.int .u64 0,.int .u64 0,.int .u64 0,.int .u64 0],.int .i64 0])) w':=by
 have h1:brF p n=fun _=>false:=by unfold brF;rw [h]
 have h2:brE p n=0:=by unfold brE;rw [h]
 exact ⟨by rw [h1,h2,setV0];rfl,hb⟩
theorem BrP.some_ {p:List UInt8} {n e:Nat} {g:UInt8→Bool} {w w':World} {y:Int} (h:brAt p n=some (g,e)) (hy:y=e) (hb:Below w.heap.size w w'):BrP p n w (.returned (.tuple #[setV g,.int .i64 y])) w':=by
 have h1:brF p n=g:=by unfold brF;rw [h]
 have h2:brE p n=e:=by unfold brE;rw [h]
 exact ⟨by rw [h1,h2,hy],hb⟩
theorem SetAt.new (W:World) (t:TypeId):SetAt (W.alloc (.cells #[.int .u64 0,.int .u64 0,.int .u64 0,.int .u64 0] t)) W.heap.size (fun _=>false):=by
 refine ⟨by simp,fun i hi=>?_,fun j=>by simp [go_sem]⟩;rw [zah]
 match i,hi with
 | 0,_=>go_simp
 | 1,_=>go_simp
 | 2,_=>go_simp
 | 3,_=>go_simp
theorem SetAt.loads {w:World} {b:Nat} {f:UInt8→Bool} (h:SetAt w b f):w.cell? ⟨b,0,none⟩=some (.int .u64 (wordOf f 0:Nat))∧w.cell? ⟨b,1,none⟩=some (.int .u64 (wordOf f 1:Nat))∧w.cell? ⟨b,2,none⟩=some (.int .u64 (wordOf f 2:Nat))∧w.cell? ⟨b,3,none⟩=some (.int .u64 (wordOf f 3:Nat)) :=
 ⟨h.c 0 (by omega),h.c 1 (by omega),h.c 2 (by omega),h.c 3 (by omega)⟩
structure MixAt (w:World) (b:Nat) (f g:UInt8→Bool) (k:Nat):Prop where
 lt:b<w.heap.size
 c:∀ i,i<4→w.cell? ⟨b,i,none⟩=some (.int .u64 (wordOf (if i<k then g else f) i:Nat))
 fr:∀ j,w.frozen? ⟨b,j,none⟩=false
theorem SetAt.mix {w:World} {b:Nat} {f g:UInt8→Bool} (h:SetAt w b f):MixAt w b f g 0:=⟨h.lt,fun i hi=>by rw [if_neg (by omega)];exact h.c i hi,h.fr⟩
theorem MixAt.done {w:World} {b:Nat} {f g:UInt8→Bool} (h:MixAt w b f g 4):SetAt w b g:=⟨h.lt,fun i hi=>by have:=h.c i hi;rwa [if_pos hi] at this,h.fr⟩
theorem MixAt.step {w:World} {b k:Nat} {f g:UInt8→Bool} (h:MixAt w b f g k) (hk:k<4):MixAt (w.setCell ⟨b,k,none⟩ (.int .u64 (wordOf g k:Nat))) b f g (k+1):=by
 refine ⟨by simpa [World.setCell] using h.lt,fun i hi=>?_,fun j=>by simp only [World.frozen?_setCell];exact h.fr j⟩;by_cases e:i=k
 ·subst e
  rw [World.cell?_setCell_same' _ _ _ (by rw [h.c _ hi];rfl),if_pos (by omega)]
 ·rw [World.cell?_setCell_other _ _ _ _ (by first|(simp;done)|(simp;exact fun h=>e h.symm)),h.c i hi]
  by_cases h1:i<k
  ·rw [if_pos h1,if_pos (by omega)]
  ·rw [if_neg h1,if_neg (by omega)]
theorem xorbit (f:UInt8→Bool) (k:Nat):Go.bits .xor .u64 (if IntKind.u64.signed=true then -1 else IntKind.u64.max) ((wordOf f k:Nat):Int)=((wordOf (fun c => !f c) k:Nat):Int):=by
 have:=bits_xor_u64_nat 18446744073709551615 (wordOf f k) (by omega) (zet _ _);rw [word_not] at this;exact this
end Go.Proofs.YtjcdmjdofdnaoaaGreatDoor.Pat
