/-
  The walks of layer 16 (pattern): the member at a place, added to a set. Conditions: texts of at most 2^30 bytes; the library's variable MaxLen holds some number.
-/
import Derived.Test.YtfmecpnokefokaaGreatDoorPat6
set_option linter.unusedSimpArgs false
set_option linter.unusedVariables false
namespace Go.Proofs.YtfmecpnokefokaaGreatDoor.Pat
open Go.ChangeShapes Go.WideShapes Go.Deep Go.RowKit
set_option maxRecDepth 100000
theorem zkc {p:List UInt8} {n:Nat} {nm:List UInt8} (h:clsAt p n=some nm):memAt p n=some (inCls nm,n+nm.length+4):=by unfold memAt;rw [h]
theorem ziq {p:List UInt8} {n:Nat} (h:clsAt p n=none) (h1:p.length≤esc p n):memAt p n=none:=by
 unfold memAt;rw [h];dsimp only;rw [List.getElem?_eq_none h1]
theorem zkd {p:List UInt8} {n:Nat} {lo:UInt8} (h:clsAt p n=none) (h1:p[esc p n]?=some lo) (h2:dash p (esc p n+1)=false):memAt p n=some (fun b=>b == lo,esc p n+1):=by
 unfold memAt;rw [h];dsimp only;rw [h1];dsimp only;rw [h2];rfl
theorem zir {p:List UInt8} {n:Nat} {lo:UInt8} (h:clsAt p n=none) (h1:p[esc p n]?=some lo) (h2:dash p (esc p n+1)=true) (h3:p.length≤esc p (esc p n+2)):memAt p n=none:=by
 unfold memAt;rw [h];dsimp only;rw [h1];dsimp only;rw [if_pos h2,List.getElem?_eq_none h3]
theorem zke {p:List UInt8} {n:Nat} {lo hi:UInt8} (h:clsAt p n=none) (h1:p[esc p n]?=some lo) (h2:dash p (esc p n+1)=true) (h3:p[esc p (esc p n+2)]?=some hi):memAt p n=some (fun b=>btw b lo.toNat hi.toNat,esc p (esc p n+2)+1):=by
 unfold memAt;rw [h];dsimp only;rw [h1];dsimp only;rw [if_pos h2,h3]
def bitI (x:Bool):Int:=if x=true then 1 else 0
theorem bit_any (x:Bool) (w:World):Calls Tryz.prog 160 #[.bool x] w fun e w'=>e = .returned (.int .i64 (bitI x))∧w=w':=by
 cases x
 all_goals
  go_enter Tryz.func160,Tryz.ntmps160
  go_wp2
  go_ret
  exact ⟨rfl,rfl⟩
def memB (p:List UInt8) (n:Nat) (b:UInt8):Int:=match memAt p n with
 | none=>0
 | some x=>bitI (x.1 b)
def memE (p:List UInt8) (n:Nat):Int:=match memAt p n with
 | none => -1
 | some x=>x.2
theorem zdd {p:List UInt8} {n e:Nat} {g:UInt8→Bool} (b:UInt8) (h:memAt p n=some (g,e)):memB p n b=bitI (g b)∧memE p n=e:=by unfold memB memE;rw [h];exact ⟨rfl,rfl⟩
theorem zde {p:List UInt8} {n:Nat} (b:UInt8) (h:memAt p n=none):memB p n b=0∧memE p n = -1:=by unfold memB memE;rw [h];exact ⟨rfl,rfl⟩
def MemPost (p:List UInt8) (n:Nat) (b:UInt8) (w:World) (e:Ending) (w':World):Prop:=e = .returned (.tuple #[.int .i64 (memB p n b),.int .i64 (memE p n)])∧Below w.heap.size w w'
theorem MemPost.some_ {p:List UInt8} {n e:Nat} {b:UInt8} {w w':World} {g:UInt8→Bool} {x y:Int} (h:memAt p n=some (g,e)) (hx:x=bitI (g b)) (hy:y=e) (hb:Below w.heap.size w w'):MemPost p n b w (.returned (.tuple #[.int .i64 x,.int .i64 y])) w':=by
 obtain ⟨h1,h2⟩:=zdd b h
 exact ⟨by rw [h1,h2,hx,hy],hb⟩
theorem MemPost.none_ {p:List UInt8} {n:Nat} {b:UInt8} {w w':World} (h:memAt p n=none) (hb:Below w.heap.size w w'):MemPost p n b w (.returned (.tuple #[.int .i64 0,.int .i64 (-1)])) w':=by
 obtain ⟨h1,h2⟩:=zde b h
 exact ⟨by rw [h1,h2],hb⟩
theorem bit_eq (x b:UInt8):bitI ((x.toNat:Int) == (b.toNat:Int))=bitI ((fun c=>c == x) b):=by
 refine congrArg bitI ?_
 by_cases h:b=x
 ·subst h;simp
 ·rw [u8_ne (fun e=>h e.symm)];exact (beq_eq_false_iff_ne.2 h).symm
set_option maxHeartbeats 3200000 in
theorem zis (p:List UInt8) (n:Nat) (b:UInt8) (w:World) (hp:p.length≤1073741824) (hn:n<p.length) :
  Calls Tryz.prog 135 #[.string (B p),.int .i64 n,.int .u8 b.toNat] w (MemPost p n b w):=by
 have HC:=Lib.hid fun w=>zry p n w hp (by omega)
 have HB:=Lib.hid bit_any
 have i0:(0:Int)≤(n:Int):=by omega
 have i1:(n:Int)<(p.length:Int):=by omega
 cases hc:clsAt p n with
 | some nm =>
  have hl:=zkh hc
  rw [(zfa hc).1,(zfa hc).2] at HC
  have HA:=Lib.hid (zkc hc)
  have HO:=Lib.hid fun w=>of_any nm b w
  have d0:(0:Int)<(nm.length:Int)+4:=by omega
  clear hc
  go_enter Tryz.func135,Tryz.ntmps135
  go_wp2_with (first|(go_at_call 159;refine (HC.out _).mono ?_;rintro e w' ⟨rfl,hb⟩;obtain ⟨g,rfl⟩:=zk hb;clear hb)|(go_at_call 161;refine (HO.out _).mono ?_;rintro e w' ⟨rfl,rfl⟩)|(go_at_call 160;refine (HB.out _ _).mono ?_;rintro e w' ⟨rfl,rfl⟩))
  go_ret2
  exact MemPost.some_ HA.out rfl (by omega) (zzr)
 | none =>
  rw [(zfb hc).1,(zfb hc).2] at HC
  have HN:=Lib.hid hc
  clear hc
  go_enter Tryz.func135,Tryz.ntmps135
  go_upto_if 29 with ((go_at_call 159;refine (HC.out _).mono ?_;rintro e w' ⟨rfl,hb⟩;obtain ⟨g,rfl⟩:=zk hb;clear hb))
  go_cut [1] (fun s1 w'=>s1 = .int .i64 (esc p n)∧Below w.heap.size w w')
  case first =>
   by_cases h92:p[n]=92
   ·have e1:=is_b (n:=92) rfl h92
    have HE:=Lib.hid (zn8 hn h92)
    clear h92
    go_wp2
    go_meet
    exact ⟨by rw [HE.out];go_num,zzr⟩
   ·have e1:=not_b (n:=92) rfl h92
    have HE:=Lib.hid (esc_no hn h92)
    clear h92
    go_wp2
    go_meet
    exact ⟨by rw [HE.out],zzr⟩
  case rest =>
  obtain ⟨rfl,hb1⟩:=hcut
  have HL:=Lib.hid (esc_le p n)
  by_cases h1:esc p n<p.length
  ·have hlo:=List.getElem?_eq_getElem h1
   have HLO:=Lib.hid hlo
   have HM1:=Lib.hid fun h2=>zkd HN.out hlo h2
   have HM2:=Lib.hid fun h2 h3=>zir HN.out hlo h2 h3
   have HM3:=Lib.hid fun hi h2 h3=>zke (hi:=hi) HN.out hlo h2 h3
   clear hlo
   generalize esc p n=m at *
   rcases ziu (p:=p) (m:=m+1) with ⟨hd,c1⟩|⟨hd,h2,c1,c2⟩|⟨hd,h2,c1,c2,c3⟩|⟨hd,h2,c1,c2,c3⟩
   ·have d1:=no (show ¬ (m:Int)+1+1<(p.length:Int) by omega)
    have HD:=Lib.hid hd
    clear hd
    go_wp2_with (go_at_call 160;refine (HB.out _ _).mono ?_;rintro e w' ⟨rfl,rfl⟩)
    go_ret2
    exact MemPost.some_ (HM1.out HD.out) (bit_eq _ _) (by omega) hb1
   ·have d1:(m:Int)+1+1<(p.length:Int):=by omega
    have d2:=not_b (n:=45) rfl c2
    have HD:=Lib.hid hd
    clear hd c2
    go_wp2_with (go_at_call 160;refine (HB.out _ _).mono ?_;rintro e w' ⟨rfl,rfl⟩)
    go_ret2
    exact MemPost.some_ (HM1.out HD.out) (bit_eq _ _) (by omega) hb1
   ·have d1:(m:Int)+1+1<(p.length:Int):=by omega
    have d2:=is_b (n:=45) rfl c2
    have d3:=is_nb (n:=93) rfl c3
    have HD:=Lib.hid hd
    clear hd c2 c3
    go_wp2_with (go_at_call 160;refine (HB.out _ _).mono ?_;rintro e w' ⟨rfl,rfl⟩)
    go_ret2
    exact MemPost.some_ (HM1.out HD.out) (bit_eq _ _) (by omega) hb1
   ·have d1:(m:Int)+1+1<(p.length:Int):=by omega
    have d2:=is_b (n:=45) rfl c2
    have d3:=not_nb (n:=93) rfl c3
    have HD:=Lib.hid hd
    clear hd c2 c3
    go_upto_if 64 with fail
    go_cut [1] (fun s1 w'=>s1 = .int .i64 (esc p (m+2))∧Below w.heap.size w w')
    case first =>
     have hm2:m+1+1<p.length:=by omega
     by_cases h92:p[m+1+1]=92
     ·have e1:=is_b (n:=92) rfl h92
      have HE:=Lib.hid (zn8 hm2 h92)
      clear h92
      go_wp2
      go_meet
      exact ⟨by rw [HE.out];go_num,hb1⟩
     ·have e1:=not_b (n:=92) rfl h92
      have HE:=Lib.hid (esc_no hm2 h92)
      clear h92
      go_wp2
      go_meet
      exact ⟨by rw [HE.out];go_num,hb1⟩
    case rest =>
    obtain ⟨rfl,hb2⟩:=hcut
    have hle:=esc_le p (m+2)
    generalize esc p (m+2)=q at *
    by_cases hq:q<p.length
    ·have HQ:=Lib.hid (HM3.out p[q] HD.out (List.getElem?_eq_getElem hq))
     have e1:=no (show ¬ p.length≤q by omega)
     have q0:(0:Int)≤(q:Int):=by omega
     have q1:(q:Int)<(p.length:Int):=by omega
     by_cases hlo:p[m].toNat≤b.toNat
     ·have HLB:=Lib.hid hlo
      go_wp2_with (go_at_call 160;refine (HB.out _ _).mono ?_;rintro e w' ⟨rfl,rfl⟩)
      go_ret2
      refine MemPost.some_ HQ.out (congrArg bitI ?_) (by omega) hb2
      show _=btw _ _ _
      rw [btw_mk (yes (by have:=HLB.out;omega)) rfl,Bool.true_and]
      rw [decide_eq_decide];omega
     ·have e2:=no hlo
      have HLB:=Lib.hid hlo
      clear hlo
      go_wp2_with (go_at_call 160;refine (HB.out _ _).mono ?_;rintro e w' ⟨rfl,rfl⟩)
      go_ret2
      refine MemPost.some_ HQ.out (congrArg bitI ?_) (by omega) hb2
      show _=btw _ _ _
      rw [btw_mk (no (by have:=HLB.out;omega)) rfl,Bool.false_and]
    ·have HA:=Lib.hid (HM2.out HD.out (by omega))
     have e1:p.length≤q:=by omega
     go_wp2
     go_ret2
     exact MemPost.none_ HA.out hb2
  ·have HA:=Lib.hid (ziq HN.out (by omega:p.length≤esc p n))
   generalize esc p n=m at *
   have d1:p.length≤m:=by omega
   go_wp2
   go_ret2
   exact MemPost.none_ HA.out hb1
end Go.Proofs.YtfmecpnokefokaaGreatDoor.Pat
namespace Go.Proofs.YtfmecpnokefokaaGreatDoor.Pat
open Go.ChangeShapes Go.WideShapes Go.Deep Go.RowKit
set_option maxRecDepth 100000
def memEnd (p:List UInt8) (n:Nat):Nat:=match memAt p n with
 | none=>0
 | some x=>x.2
def memSet (p:List UInt8) (n:Nat) (f:UInt8→Bool):UInt8→Bool:=match memAt p n with
 | none=>f
 | some x=>fun c=>f c || x.1 c
def MemP (p:List UInt8) (n b:Nat) (f:UInt8→Bool) (w:World) (e:Ending) (w':World):Prop:=e = .returned (.int .i64 (memEnd p n))∧SetAt w' b (memSet p n f)∧Keeps (fun k=>k=b) w w'
theorem MemP.some_ {p:List UInt8} {n b e:Nat} {f g h:UInt8→Bool} {w w':World} {y:Int} (hm:memAt p n=some (g,e)) (hy:y=e) (hs:SetAt w' b h) (hg:h=fun c=>f c || g c) (hk:Keeps (fun k=>k=b) w w'):MemP p n b f w (.returned (.int .i64 y)) w':=by
 have h1:memEnd p n=e:=by unfold memEnd;rw [hm]
 have h2:memSet p n f=fun c=>f c || g c:=by unfold memSet;rw [hm]
 exact ⟨by rw [h1,hy],by rw [h2,← hg];exact hs,hk⟩
theorem MemP.none_ {p:List UInt8} {n b:Nat} {f:UInt8→Bool} {w w':World} (hm:memAt p n=none) (hs:SetAt w' b f) (hk:Keeps (fun k=>k=b) w w'):MemP p n b f w (.returned (.int .i64 0)) w':=by
 have h1:memEnd p n=0:=by unfold memEnd;rw [hm]
 have h2:memSet p n f=f:=by unfold memSet;rw [hm]
 exact ⟨by rw [h1];rfl,by rw [h2];exact hs,hk⟩
def rng (f:UInt8→Bool) (lo j:Nat):UInt8→Bool:=fun c=>f c || (decide (lo≤c.toNat) && decide (c.toNat<j))
theorem zmc (f:UInt8→Bool) (lo:Nat):rng f lo lo=f:=by
 funext c
 unfold rng
 by_cases h:lo≤c.toNat
 ·rw [decide_eq_false (show ¬ c.toNat<lo by omega),Bool.and_false,Bool.or_false]
 ·rw [decide_eq_false h,Bool.false_and,Bool.or_false]
theorem zmd (f:UInt8→Bool) {lo j:Nat} (h:lo≤j) (hj:j<256):(fun c=>rng f lo j c || c == UInt8.ofNat j)=rng f lo (j+1):=by
 funext c
 unfold rng
 by_cases e:c=UInt8.ofNat j
 ·have e2:=(byte_k hj c).1 e
  rw [decide_eq_true (show c.toNat<j+1 by omega),decide_eq_true (show lo≤c.toNat by omega),e];simp
 ·have e2:c.toNat≠j:=fun h=>e ((byte_k hj c).2 h)
  have e3:(c == UInt8.ofNat j)=false:=by simpa using e
  rw [e3,Bool.or_false]
  by_cases h1:c.toNat<j
  ·rw [decide_eq_true h1,decide_eq_true (show c.toNat<j+1 by omega)]
  ·rw [decide_eq_false h1,decide_eq_false (show ¬ c.toNat<j+1 by omega)]
theorem zn2 (f:UInt8→Bool) {lo hi j:Nat} (h:hi<j) (h2:j=lo∨j≤hi+1):rng f lo j=fun c=>f c || btw c lo hi:=by
 funext c
 unfold rng btw
 congr 1
 rw [Bool.eq_iff_iff,Bool.and_eq_true,Bool.and_eq_true,decide_eq_true_eq,decide_eq_true_eq,decide_eq_true_eq,decide_eq_true_eq]
 omega
theorem btw_one (lo:UInt8):(fun b:UInt8=>b == lo)=fun b=>btw b lo.toNat lo.toNat:=by
 funext b
 unfold btw
 rw [Bool.eq_iff_iff,Bool.and_eq_true,decide_eq_true_eq,decide_eq_true_eq,beq_iff_eq]
 constructor
 ·intro h;subst h;omega
 ·intro h;exact UInt8.toNat_inj.1 (by omega)
theorem fin_g {x f g g':UInt8→Bool} (h:x=fun c=>f c || g' c) (hg:g=g'):x=fun c=>f c || g c:=by rw [h,hg]
set_option maxHeartbeats 3200000 in
theorem zn3 (p:List UInt8) (n b:Nat) (f:UInt8→Bool) (w:World) (hs:SetAt w b f) (hm:MaxL w) (hb:b≠0) (hp:p.length≤1073741824) (hn:n<p.length) :
  Calls Tryz.prog 197 #[.pointer (some ⟨b,0,none⟩),.string (B p),.int .i64 n] w (MemP p n b f w):=by
 have HC:=Lib.hid fun w hs hm=>cls_any p n b f w hs hm hb hp (by omega)
 have HS:=Lib.hid hs
 have HM:=Lib.hid hm
 have i0:(0:Int)≤(n:Int):=by omega
 have i1:(n:Int)<(p.length:Int):=by omega
 clear hs hm
 cases hc:clsAt p n with
 | some nm =>
  unfold ClsPost at HC
  rw [(zf6 f hc).1,(zf6 f hc).2] at HC
  have HA:=Lib.hid (zkc hc)
  have d0:(n:Int)<(n:Int)+(nm.length:Int)+4:=by omega
  clear hc
  go_enter Tryz.func197,Tryz.ntmps197
  go_wp2_with (go_at_call 198;refine (HC.out _ HS.out HM.out).mono ?_;rintro e w2 ⟨rfl,hs2,hk2⟩;have HS2:=Lib.hid hs2;have HK2:=Lib.hid hk2;clear hs2 hk2)
  go_ret
  exact MemP.some_ HA.out (by omega) HS2.out rfl HK2.out
 | none =>
  unfold ClsPost at HC
  rw [(zf7 f hc).1,(zf7 f hc).2] at HC
  have HN:=Lib.hid hc
  have HO:=Lib.hid fun w=>one_any p n w (by omega) (by omega)
  have hle:=esc_le p n
  clear hc
  by_cases h1:esc p n<p.length
  ·have hlo:=List.getElem?_eq_getElem h1
   have HM1:=Lib.hid fun h2=>zkd HN.out hlo h2
   have HM2:=Lib.hid fun h2 h3=>zir HN.out hlo h2 h3
   have HM3:=Lib.hid fun hi h2 h3=>zke (hi:=hi) HN.out hlo h2 h3
   rw [zd0 (m:=esc p n) rfl hlo] at HO
   clear hlo
   dsimp only at HO
   generalize esc p n=m at *
   obtain ⟨lo,hlo⟩:∃ c,p[m]=c:=⟨_,rfl⟩
   rw [hlo] at HO HM1 HM3
   clear hlo
   have d0:=beq_eq_false_iff_ne.2 (show ¬ (m:Int)+1=0 by omega)
   rcases ziu (p:=p) (m:=m+1) with ⟨hd,c1⟩|⟨hd,h2,c1,c2⟩|⟨hd,h2,c1,c2,c3⟩|⟨hd,h2,c1,c2,c3⟩
   rotate_right
   ·have d1:(m:Int)+1+1<(p.length:Int):=by omega
    have d2:=is_b (n:=45) rfl c2
    have d3:=not_nb (n:=93) rfl c3
    have HD:=Lib.hid hd
    have ho2:∀ w,Calls Tryz.prog 199 #[.string (B p),.int .i64 ((m:Int)+1+1)] w fun e w'=>e = .returned (.tuple #[.int .u8 (oneV p (m+2)).1.toNat,.int .i64 (oneV p (m+2)).2])∧w=w':=fun w=>by
     have:=one_any p (m+2) w (by omega) (by omega)
     rwa [show ((m+2:Nat):Int)=(m:Int)+1+1 by omega] at this
    have HO2:=Lib.hid ho2
    have hle2:=esc_le p (m+2)
    clear hd c2 c3 ho2
    by_cases hq:esc p (m+2)<p.length
    ·have hhi:=List.getElem?_eq_getElem hq
     have HQ:=Lib.hid (HM3.out _ HD.out hhi)
     rw [zd0 (m:=esc p (m+2)) rfl hhi] at HO2
     clear hhi
     dsimp only at HO2
     generalize esc p (m+2)=q at *
     obtain ⟨hi,hhi⟩:∃ c,p[q]=c:=⟨_,rfl⟩
     rw [hhi] at HO2 HQ
     clear hhi
     have d4:=beq_eq_false_iff_ne.2 (show ¬ (q:Int)+1=0 by omega)
     have hlo8:=lo.toNat_lt
     have hhi8:=hi.toNat_lt
     go_enter Tryz.func197,Tryz.ntmps197
     go_wp2_with (first|(go_at_call 198;refine (HC.out _ HS.out HM.out).mono ?_;rintro e w2 ⟨rfl,hs2,hk2⟩;have HS2:=Lib.hid hs2;have HK2:=Lib.hid hk2;clear hs2 hk2)|(go_at_call 199;(with_reducible refine (HO.out _).mono ?_);rintro e w' ⟨rfl,rfl⟩)|(go_at_call 199;(with_reducible refine (HO2.out _).mono ?_);rintro e w' ⟨rfl,rfl⟩))
     go_loopw [10] (fun i w'=>∃ j:Nat,lo.toNat≤j∧j≤256∧(j=lo.toNat∨j≤hi.toNat+1)∧i = .int .i64 j∧Hid (SetAt w' b (rng f lo.toNat j))∧Hid (Keeps (fun k=>k=b) w w')) (fun i _=>256 - (intOf i).toNat)
     case atStart=>exact ⟨lo.toNat,by omega,by omega,.inl rfl,rfl,by show SetAt _ _ _;rw [zmc];exact HS2.out,HK2.out⟩
     case round =>
      obtain ⟨j,hj0,hj1,hj2,rfl,HSJ,HKJ⟩:=hrel
      by_cases hlt:j≤hi.toNat
      ·have hw:=wrapb j (by omega)
       have HAD:=Lib.hid fun w hs=>zjj (rng f lo.toNat j) (UInt8.ofNat j) b w hs
       have HE:=Lib.hid (zmd f hj0 (show j<256 by omega))
       go_wp2_with (go_at_call 200;refine (HAD.out _ HSJ.out).mono ?_;rintro e w3 ⟨rfl,hs3,hk3⟩;have HS3:=Lib.hid hs3;have HK3:=Lib.hid (HKJ.out.trans hk3);clear hs3 hk3)
       go_roundw
       case rel=>exact ⟨j+1,by omega,by omega,by omega,by go_num,by show SetAt _ _ _;rw [← HE.out];exact HS3.out,HK3.out⟩
       case measure=>simp [intOf];omega
      ·have HE:=Lib.hid (zn2 f (show hi.toNat<j by omega) hj2)
       have d1:=no hlt
       go_wp2
       go_ret
       exact MemP.some_ HQ.out (by omega) HSJ.out (fin_g HE.out rfl) HKJ.out
    ·have HA:=Lib.hid (HM2.out HD.out (by omega))
     rw [zdz (m:=esc p (m+2)) rfl (List.getElem?_eq_none (by omega))] at HO2
     dsimp only at HO2
     go_enter Tryz.func197,Tryz.ntmps197
     go_wp2_with (first|(go_at_call 198;refine (HC.out _ HS.out HM.out).mono ?_;rintro e w2 ⟨rfl,hs2,hk2⟩;have HS2:=Lib.hid hs2;have HK2:=Lib.hid hk2;clear hs2 hk2)|(go_at_call 199;(with_reducible refine (HO.out _).mono ?_);rintro e w' ⟨rfl,rfl⟩)|(go_at_call 199;(with_reducible refine (HO2.out _).mono ?_);rintro e w' ⟨rfl,rfl⟩))
     go_ret
     exact MemP.none_ HA.out HS2.out HK2.out
   all_goals
    try have d1:=no (show ¬ (m:Int)+1+1<(p.length:Int) by omega)
    try have d2:(m:Int)+1+1<(p.length:Int):=by omega
    try have d3:=not_b (n:=45) rfl c2
    try have d3:=is_b (n:=45) rfl c2
    try have d4:=is_nb (n:=93) rfl c3
    have HD:=Lib.hid hd
    have HQ:=Lib.hid (HM1.out HD.out)
    have HG:=Lib.hid (btw_one lo)
    have hlo8:=lo.toNat_lt
    clear hd
    try clear c2
    try clear c3
    go_enter Tryz.func197,Tryz.ntmps197
    go_wp2_with (first|(go_at_call 198;refine (HC.out _ HS.out HM.out).mono ?_;rintro e w2 ⟨rfl,hs2,hk2⟩;have HS2:=Lib.hid hs2;have HK2:=Lib.hid hk2;clear hs2 hk2)|(go_at_call 199;(with_reducible refine (HO.out _).mono ?_);rintro e w' ⟨rfl,rfl⟩))
    go_loopw [10] (fun i w'=>∃ j:Nat,lo.toNat≤j∧j≤256∧(j=lo.toNat∨j≤lo.toNat+1)∧i = .int .i64 j∧Hid (SetAt w' b (rng f lo.toNat j))∧Hid (Keeps (fun k=>k=b) w w')) (fun i _=>256 - (intOf i).toNat)
    case atStart=>exact ⟨lo.toNat,by omega,by omega,.inl rfl,rfl,by show SetAt _ _ _;rw [zmc];exact HS2.out,HK2.out⟩
    case round =>
     obtain ⟨j,hj0,hj1,hj2,rfl,HSJ,HKJ⟩:=hrel
     by_cases hlt:j≤lo.toNat
     ·have hw:=wrapb j (by omega)
      have HAD:=Lib.hid fun w hs=>zjj (rng f lo.toNat j) (UInt8.ofNat j) b w hs
      have HE:=Lib.hid (zmd f hj0 (show j<256 by omega))
      go_wp2_with (go_at_call 200;refine (HAD.out _ HSJ.out).mono ?_;rintro e w3 ⟨rfl,hs3,hk3⟩;have HS3:=Lib.hid hs3;have HK3:=Lib.hid (HKJ.out.trans hk3);clear hs3 hk3)
      go_roundw
      case rel=>exact ⟨j+1,by omega,by omega,by omega,by go_num,by show SetAt _ _ _;rw [← HE.out];exact HS3.out,HK3.out⟩
      case measure=>simp [intOf];omega
     ·have HE:=Lib.hid (zn2 f (show lo.toNat<j by omega) hj2)
      have d1:=no hlt
      go_wp2
      go_ret
      exact MemP.some_ HQ.out (by omega) HSJ.out (fin_g HE.out HG.out) HKJ.out
  ·have HA:=Lib.hid (ziq HN.out (by omega:p.length≤esc p n))
   rw [zdz (m:=esc p n) rfl (List.getElem?_eq_none (by omega))] at HO
   dsimp only at HO
   go_enter Tryz.func197,Tryz.ntmps197
   go_wp2_with (first|(go_at_call 198;refine (HC.out _ HS.out HM.out).mono ?_;rintro e w2 ⟨rfl,hs2,hk2⟩;have HS2:=Lib.hid hs2;have HK2:=Lib.hid hk2;clear hs2 hk2)|(go_at_call 199;(with_reducible refine (HO.out _).mono ?_);rintro e w' ⟨rfl,rfl⟩))
   go_ret
   exact MemP.none_ HA.out HS2.out HK2.out
end Go.Proofs.YtfmecpnokefokaaGreatDoor.Pat
