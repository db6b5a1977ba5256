/-
  The walk of layer 16 (pattern): whether atoms match a text. Conditions: at most 2^30 atoms and bytes.
-/
import Derived.Test.YtfmecpnokefokaaGreatDoorPat11
import Derived.WalkMore
set_option linter.unusedSimpArgs false
set_option linter.unusedVariables false
namespace Go.Proofs.YtfmecpnokefokaaGreatDoor.Pat
open Go.ChangeShapes Go.WideShapes Go.Deep Go.RowKit
set_option maxRecDepth 100000
theorem _root_.Go.Proofs.YtfmecpnokefokaaGreatDoor.j7kb {p:Prop} (h:p):Go.RowKit.Hid p:=Go.Lib.hid h
def At.kind:At→Int
 | .byte _=>1
 | .one=>2
 | .many=>3
 | .set _=>4
def At.byt:At→UInt8
 | .byte b=>b
 | _=>0
def At.fs:At→UInt8→Bool
 | .set f=>f
 | _=>fun _=>false
def atC (a:At):List Value:=[.int .i64 a.kind,.int .u8 a.byt.toNat,.int .u64 (wordOf a.fs 0:Nat),.int .u64 (wordOf a.fs 1:Nat),.int .u64 (wordOf a.fs 2:Nat),.int .u64 (wordOf a.fs 3:Nat)]
def atV (a:At):Value:=.agg #[.int .i64 a.kind,.int .u8 a.byt.toNat,.int .u64 (wordOf a.fs 0:Nat),.int .u64 (wordOf a.fs 1:Nat),.int .u64 (wordOf a.fs 2:Nat),.int .u64 (wordOf a.fs 3:Nat)]
theorem zb6 (d:UInt8):atV (.byte d) = .agg #[.int .i64 1,.int .u8 d.toNat,.int .u64 0,.int .u64 0,.int .u64 0,.int .u64 0]:=by simp [atV,At.kind,At.byt,At.fs,z7]
theorem zir:atV .one = .agg #[.int .i64 2,.int .u8 0,.int .u64 0,.int .u64 0,.int .u64 0,.int .u64 0]:=by simp [atV,At.kind,At.byt,At.fs,z7]
theorem zg6:atV .many = .agg #[.int .i64 3,.int .u8 0,.int .u64 0,.int .u64 0,.int .u64 0,.int .u64 0]:=by simp [atV,At.kind,At.byt,At.fs,z7]
theorem zis (f:UInt8→Bool):atV (.set f) = .agg #[.int .i64 4,.int .u8 0,.int .u64 (wordOf f 0:Nat),.int .u64 (wordOf f 1:Nat),.int .u64 (wordOf f 2:Nat),.int .u64 (wordOf f 3:Nat)]:=by simp [atV,At.kind,At.byt,At.fs]
def AtomP (p:List UInt8) (n:Nat) (c:UInt8) (w:World) (e:Ending) (w':World):Prop:=e = .returned (.tuple #[atV (atomAt p n c).1,.int .i64 (atomAt p n c).2])∧Below w.heap.size w w'
theorem AtomP.mk {p:List UInt8} {n m:Nat} {c:UInt8} {a:At} {w w':World} {v:Value} {y:Int} (h:atomAt p n c=(a,m)) (hv:atV a=v) (hy:y=m) (hb:Below w.heap.size w w'):AtomP p n c w (.returned (.tuple #[v,.int .i64 y])) w':=by
 refine ⟨?_,hb⟩;rw [h,← hv,hy]
set_option maxHeartbeats 6400000 in
theorem atom_any (p:List UInt8) (n:Nat) (w:World) (hm:MaxL w) (hp:p.length≤1073741824) (hn:n<p.length) :
  Calls Tryz.prog 192 #[.string (B p),.int .i64 n] w (AtomP p n p[n] w):=by
 have HBK:=j7kb fun w hm=>zmp p n w hm hp hn;unfold BrP at HBK;have HM:=j7kb hm;have i0:(0:Int)≤(n:Int):=by omega
 have i1:(n:Int)<(p.length:Int):=by omega
 clear hm;by_cases h92:p[n]=92
 ·have e0:=is_b (n:=92) rfl h92
  have e1:=not_b (c:=p[n]) (k:=63) (n:=63) rfl (by rw [h92];decide);have e2:=not_b (c:=p[n]) (k:=42) (n:=42) rfl (by rw [h92];decide);have e3:=not_b (c:=p[n]) (k:=91) (n:=91) rfl (by rw [h92];decide);by_cases h1:n+1<p.length
  ·have HA:=j7kb (show atomAt p n p[n]=(.byte p[n+1],n+2) by unfold atomAt;rw [if_pos h92,List.getElem?_eq_getElem h1])
   have d1:(n:Int)+1<(p.length:Int):=by omega
   clear h92;go_enter Tryz.func192,Tryz.ntmps192;go_wp2;exact bodyPost_ret (v:=.tuple #[.agg #[.int .i64 1,.int .u8 p[n+1].toNat,.int .u64 0,.int .u64 0,.int .u64 0,.int .u64 0],.int .i64 ((n:Int)+2)]) (by simp [results,Tryz.results192,go_sem]) rfl (AtomP.mk HA.out (zb6 _) (by omega) (zzr))
  ·have HA:=j7kb (show atomAt p n p[n]=(.byte p[n],n+1) by unfold atomAt;rw [if_pos h92,List.getElem?_eq_none (by omega)])
   have d1:=no (show ¬ (n:Int)+1<(p.length:Int) by omega);clear h92;go_enter Tryz.func192,Tryz.ntmps192;go_wp2;exact bodyPost_ret (v:=.tuple #[.agg #[.int .i64 1,.int .u8 p[n].toNat,.int .u64 0,.int .u64 0,.int .u64 0,.int .u64 0],.int .i64 ((n:Int)+1)]) (by simp [results,Tryz.results192,go_sem]) rfl (AtomP.mk HA.out (zb6 _) (by omega) (zzr))
 have e0:=not_b (n:=92) rfl h92;by_cases h63:p[n]=63
 ·have e1:=is_b (n:=63) rfl h63
  have e2:=not_b (c:=p[n]) (k:=42) (n:=42) rfl (by rw [h63];decide);have e3:=not_b (c:=p[n]) (k:=91) (n:=91) rfl (by rw [h63];decide);have HA:=j7kb (show atomAt p n p[n]=(.one,n+1) by unfold atomAt;rw [if_neg h92,if_pos h63]);clear h92 h63;go_enter Tryz.func192,Tryz.ntmps192;go_wp2;exact bodyPost_ret (v:=.tuple #[.agg #[.int .i64 2,.int .u8 0,.int .u64 0,.int .u64 0,.int .u64 0,.int .u64 0],.int .i64 ((n:Int)+1)]) (by simp [results,Tryz.results192,go_sem]) rfl (AtomP.mk HA.out zir (by omega) (zzr))
 have e1:=not_b (n:=63) rfl h63;by_cases h42:p[n]=42
 ·have e2:=is_b (n:=42) rfl h42
  have e3:=not_b (c:=p[n]) (k:=91) (n:=91) rfl (by rw [h42];decide);have HA:=j7kb (show atomAt p n p[n]=(.many,n+1) by unfold atomAt;rw [if_neg h92,if_neg h63,if_pos h42]);clear h92 h63 h42;go_enter Tryz.func192,Tryz.ntmps192;go_wp2;exact bodyPost_ret (v:=.tuple #[.agg #[.int .i64 3,.int .u8 0,.int .u64 0,.int .u64 0,.int .u64 0,.int .u64 0],.int .i64 ((n:Int)+1)]) (by simp [results,Tryz.results192,go_sem]) rfl (AtomP.mk HA.out zg6 (by omega) (zzr))
 have e2:=not_b (n:=42) rfl h42;by_cases h91:p[n]=91
 ·have e3:=is_b (n:=91) rfl h91
  cases hb:brAt p n with
  | some x =>
   obtain ⟨f,e⟩:=x;have HA:=j7kb (show atomAt p n p[n]=(.set f,e) by unfold atomAt;rw [if_neg h92,if_neg h63,if_neg h42,if_pos h91,hb]);have hbf:brF p n=f:=by unfold brF;rw [hb]
   have hbe:brE p n=e:=by unfold brE;rw [hb]
   have hee:=zha hb;rw [hbf,hbe] at HBK;unfold setV at HBK;have d0:(0:Int)<(e:Int):=by omega
   have d1:0<e:=by omega
   clear h92 h63 h42 h91 hb hbf hbe;go_enter Tryz.func192,Tryz.ntmps192
   go_wp2_with (go_at_call 196;refine (HBK.out _ (HM.out.below (zzr))).mono ?_;rintro e w' ⟨rfl,hb⟩;obtain ⟨g,rfl⟩:=zl hb;clear hb)
   exact bodyPost_ret (v:=.tuple #[.agg #[.int .i64 4,.int .u8 0,.int .u64 (wordOf f 0:Nat),.int .u64 (wordOf f 1:Nat),.int .u64 (wordOf f 2:Nat),.int .u64 (wordOf f 3:Nat)],.int .i64 e]) (by simp [results,Tryz.results192,go_sem]) rfl (AtomP.mk HA.out (zis _) (by omega) (zzr))
  | none =>
   have HA:=j7kb (show atomAt p n p[n]=(.byte p[n],n+1) by unfold atomAt;rw [if_neg h92,if_neg h63,if_neg h42,if_pos h91,hb]);have hbf:brF p n=fun _=>false:=by unfold brF;rw [hb]
   have hbe:brE p n=0:=by unfold brE;rw [hb]
   rw [hbf,hbe,setV0] at HBK;clear h92 h63 h42 h91 hb hbf hbe;go_enter Tryz.func192,Tryz.ntmps192
   go_wp2_with (go_at_call 196;refine (HBK.out _ (HM.out.below (zzr))).mono ?_;rintro e w' ⟨rfl,hb⟩;obtain ⟨g,rfl⟩:=zl hb;clear hb)
   exact bodyPost_ret (v:=.tuple #[.agg #[.int .i64 1,.int .u8 p[n].toNat,.int .u64 0,.int .u64 0,.int .u64 0,.int .u64 0],.int .i64 ((n:Int)+1)]) (by simp [results,Tryz.results192,go_sem]) rfl (AtomP.mk HA.out (zb6 _) (by omega) (zzr))
 have e3:=not_b (n:=91) rfl h91;have HA:=j7kb (show atomAt p n p[n]=(.byte p[n],n+1) by unfold atomAt;rw [if_neg h92,if_neg h63,if_neg h42,if_neg h91]);clear h92 h63 h42 h91;go_enter Tryz.func192,Tryz.ntmps192;go_wp2;exact bodyPost_ret (v:=.tuple #[.agg #[.int .i64 1,.int .u8 p[n].toNat,.int .u64 0,.int .u64 0,.int .u64 0,.int .u64 0],.int .i64 ((n:Int)+1)]) (by simp [results,Tryz.results192,go_sem]) rfl (AtomP.mk HA.out (zb6 _) (by omega) (zzr))
theorem zg7 (x b:UInt8):((x.toNat:Int) == (b.toNat:Int))=(x == b):=by
 by_cases h:x=b
 ·subst h;simp
 ·rw [u8_ne h];exact (beq_eq_false_iff_ne.2 h).symm
theorem zq0 (a:At) (b:UInt8) (w:World):Calls Tryz.prog 184 #[atV a,.int .u8 b.toNat] w fun e w'=>e = .returned (.bool (takes a b))∧Below w.heap.size w w':=by
 cases a with
 | byte x =>
  rw [zb6];go_enter Tryz.func184,Tryz.ntmps184;go_wp2;go_ret;exact ⟨ret_b (zg7 _ _),zzr⟩
 | one =>
  rw [zir];go_enter Tryz.func184,Tryz.ntmps184;go_wp2;go_ret;exact ⟨rfl,zzr⟩
 | many =>
  rw [zg6];go_enter Tryz.func184,Tryz.ntmps184;go_wp2;go_ret;exact ⟨rfl,zzr⟩
 | set f =>
  rw [zis];have HH:=j7kb fun w=>has_any f b w;unfold setV at HH;go_enter Tryz.func184,Tryz.ntmps184
  go_wp2_with (go_at_call 193;refine (HH.out _).mono ?_;rintro e w' ⟨rfl,hb⟩;obtain ⟨g,rfl⟩:=zl hb;clear hb)
  go_ret;exact ⟨rfl,zzr⟩
theorem zo5 (f:UInt8→Bool) (c:UInt8):[Value.int .i64 4,.int .u8 0,.int .u64 (wordOf f 0:Nat),.int .u64 (wordOf f 1:Nat),.int .u64 (wordOf f 2:Nat),.int .u64 (wordOf f 3:Nat)][2+c.toNat / 64]?=some (.int .u64 (wordOf f (c.toNat / 64):Nat)):=by
 have h:=zjt f c;rw [show 2+c.toNat / 64=c.toNat / 64+1+1 by omega,List.getElem?_cons_succ,List.getElem?_cons_succ];exact h
theorem zq1 (a:At) (b:UInt8) (w:World):Calls Tryz.prog 134 #[atV a,.int .u8 b.toNat] w fun e w'=>e = .returned (.bool (takes a b))∧Below w.heap.size w w':=by
 cases a with
 | byte x =>
  rw [zb6]
  cases h:(x == b) with
  | true =>
   have h1:=zg7 x b;rw [h] at h1;have HT:=j7kb (show takes (.byte x) b=true from h);clear h;go_enter Tryz.func134,Tryz.ntmps134;go_wp2;go_ret;exact ⟨ret_b HT.out.symm,zzr⟩
  | false =>
   have h1:=zg7 x b;rw [h] at h1;have HT:=j7kb (show takes (.byte x) b=false from h);clear h;go_enter Tryz.func134,Tryz.ntmps134;go_wp2;go_ret;exact ⟨ret_b HT.out.symm,zzr⟩
 | one =>
  rw [zir];go_enter Tryz.func134,Tryz.ntmps134;go_wp2;go_ret;exact ⟨rfl,zzr⟩
 | many =>
  rw [zg6];go_enter Tryz.func134,Tryz.ntmps134;go_wp2;go_ret;exact ⟨rfl,zzr⟩
 | set f =>
  rw [zis];have hg:=zo5 f b;have hb:=hasbit f b;have i0:(0:Int)≤(b.toNat:Int) / 64:=by omega
  have i1:(b.toNat:Int) / 64<4:=by have:=b.toNat_lt;omega
  have i2:b.toNat<256:=b.toNat_lt;have j1:b.toNat % 64≤64:=by omega
  cases hf:f b
  all_goals
   rw [hf] at hb;have HF:=j7kb (show takes (.set f) b=f b from rfl);rw [hf] at HF;clear hf;go_enter Tryz.func134,Tryz.ntmps134;go_wp2;go_ret;exact ⟨ret_b HF.out.symm,zzr⟩
theorem znd {l:List At}:∀ x∈l,(atC x).length=6:=fun _ _=>rfl
theorem kind3 (a:At):((a.kind == 3)=a.isMany):=by cases a <;> rfl
theorem meas1 {S L i n b:Nat} (h:b≤n) (hi:i<L):(S - n)*(L+1)+(L - (i+1))<(S - b)*(L+1)+(L - i):=by
 have:=Nat.mul_le_mul_right (L+1) (show S - n≤S - b by omega);omega
theorem meas3 {S L i j b:Nat} (h:b<S) (hi:i≤L):(S - (b+1))*(L+1)+(L - (j+1))<(S - b)*(L+1)+(L - i):=by
 rw [show S - b=S - (b+1)+1 by omega,Nat.add_mul];omega
theorem miss_end {l:List At} {s:List UInt8} {i n:Nat} (hn:n<s.length) (hi:¬ i<l.length):Miss l s i n:=⟨_,List.getElem?_eq_getElem hn,fun a ha=>by rw [List.getElem?_eq_none (by omega)] at ha;cases ha⟩
theorem miss_at {l:List At} {s:List UInt8} {i n:Nat} {a:At} {c:UInt8} (hn:s[n]?=some c) (hi:l[i]?=some a) (h1:a.isMany=false) (h2:takes a c=false):Miss l s i n:=⟨_,hn,fun b hb=>by rw [hi] at hb;cases hb;exact ⟨h1,h2⟩⟩
set_option maxHeartbeats 6400000 in
theorem zji (l:List At) (s:List UInt8) (v:Value) (w:World) (hv:Sl w atC 6 v l) (hl:l.length≤1073741824) (hs:s.length≤1073741824) :
  Calls Tryz.prog 173 #[v,.string (B s)] w fun e w'=>e = .returned (.bool (gm l s))∧Below w.heap.size w w':=by
 obtain ⟨A,c,rfl,hc1,hc2,hn,hA⟩:=hv;have HA:=j7kb hA;clear hA hn;go_enter Tryz.func173,Tryz.ntmps173;go_wp2
 go_step3
 go_wp2
 go_step3
 go_wp2
 go_loopw [5,6,7,8] (fun s5 s6 s7 s8 w'=>∃ (i n:Nat) (m:Int) (b:Nat),s5 = .int .i64 i∧s6 = .int .i64 n∧s7 = .int .i64 m∧s8 = .int .i64 b∧i≤l.length∧n≤s.length∧b≤n ∧ -1≤m∧m<i∧Hid (Inv l s i n m b)∧Below w.heap.size w w') (fun s5 _ _ s8 _=>(s.length - (intOf s8).toNat)*(l.length+1)+(l.length - (intOf s5).toNat))
 case atStart=>exact ⟨0,0,-1,0,rfl,rfl,rfl,rfl,by omega,by omega,by omega,by omega,by omega,zra l s,zzr⟩
 case round =>
  obtain ⟨i,n,m,b,rfl,rfl,rfl,rfl,hi,hn,hbn,hm0,hmi,HI,hb⟩:=hrel;by_cases hlt:n<s.length
  ·have n0:(0:Int)≤(n:Int):=by omega
   have n1:(n:Int)<(s.length:Int):=by omega
   by_cases hil:i<l.length
   ·obtain ⟨g,off,rfl,hg,hcell⟩:=HA.out (by omega)
    have e0:=fun j u hu=>(hb.cell (p:=⟨g,off+i*6+j,none⟩) hg).trans (hcell i _ (List.getElem?_eq_getElem hil) j u hu);have f0:=e0 0 _ rfl;have f1:=e0 1 _ rfl;have f2:=e0 2 _ rfl;have f3:=e0 3 _ rfl;have f4:=e0 4 _ rfl;have f5:=e0 5 _ rfl;simp only [Nat.add_zero] at f0
    haveI:Old wr g:=⟨Nat.lt_of_lt_of_le hg hb.size⟩
    have i0:(0:Int)≤(i:Int):=by omega
    have i1:(i:Int)<(l.length:Int):=by omega
    have HG:=j7kb (List.getElem?_eq_getElem hil);have HC:=j7kb (List.getElem?_eq_getElem hlt);have HT:=j7kb fun w=>zq0 l[i] s[n] w;have hk3:=kind3 l[i];unfold atV at HT;clear e0 hcell;generalize l[i]=a at *
    cases hmany:a.isMany with
    | true =>
     rw [hmany] at hk3
     obtain rfl:a = .many:=by cases a <;> simp [At.isMany] at hmany;rfl
     have HI2:=j7kb (inv_many HI.out HG.out);clear hmany;go_wp2;go_roundw
     case rel=>exact ⟨i+1,n,i,n,by go_num,rfl,rfl,rfl,by omega,by omega,by omega,by omega,by omega,HI2.out,hb⟩
     case measure=>simp only [intOf,Int.toNat_natCast,Int.toNat_natCast_add_one];exact meas1 hbn hil
    | false =>
     rw [hmany] at hk3
     cases ht:takes a s[n] with
     | true =>
      rw [ht] at HT;have HI2:=j7kb (zrb HI.out HG.out HC.out ht);clear ht hmany;go_wp2
      (refine z8 (by kernel_rfl) (by kernel_rfl) ?_;(repeat (go_big_quiet_step ((go_at_call 184;exact zbp (HT.out _)))));refine wpQuiet_nil ?_;intro _ hw';obtain ⟨gq,hw''⟩:=hw';subst hw'')
      go_wp2;go_roundw
      case rel=>exact ⟨i+1,n+1,m,b,by go_num,by go_num,rfl,rfl,by omega,by omega,by omega,by omega,by omega,HI2.out,zt hb gq⟩
      case measure=>simp only [intOf,Int.toNat_natCast,Int.toNat_natCast_add_one];exact meas1 (Nat.le_refl _) hil
     | false =>
      rw [ht] at HT;have HMS:=j7kb (miss_at HC.out HG.out hmany ht);clear ht hmany;have hmz:=zlo HI.out HMS.out;by_cases hm:m<0
      ·have HX:=j7kb (inv_no HI.out HMS.out hm)
       clear hmz;go_wp2
       (refine z8 (by kernel_rfl) (by kernel_rfl) ?_;(repeat (go_big_quiet_step ((go_at_call 184;exact zbp (HT.out _)))));refine wpQuiet_nil ?_;intro _ hw';obtain ⟨gq,hw''⟩:=hw';subst hw'')
       go_wp2;rw [Exit.noGoto_ret];go_ret;exact ⟨ret_b HX.out.symm,(zt hb gq)⟩
      ·obtain ⟨j,rfl,hji,hbn2,hbs,hi2⟩:=hmz hm
       have HI2:=j7kb hi2;clear hi2;go_wp2
       (refine z8 (by kernel_rfl) (by kernel_rfl) ?_;(repeat (go_big_quiet_step ((go_at_call 184;exact zbp (HT.out _)))));refine wpQuiet_nil ?_;intro _ hw';obtain ⟨gq,hw''⟩:=hw';subst hw'')
       go_wp2;go_roundw
       case rel=>exact ⟨j+1,b+1,j,b+1,by go_num,by go_num,rfl,by go_num,by omega,by omega,by omega,by omega,by omega,HI2.out,(zt hb gq)⟩
       case measure=>simp only [intOf,Int.toNat_natCast,Int.toNat_natCast_add_one];exact meas3 hbs hi
   ·have HMS:=j7kb (miss_end hlt hil)
    have d0:=no hil;have hmz:=zlo HI.out HMS.out;by_cases hm:m<0
    ·have HX:=j7kb (inv_no HI.out HMS.out hm)
     clear hmz;go_wp2
     (refine z8 (by kernel_rfl) (by kernel_rfl) ?_;(repeat (go_big_quiet_step (fail)));refine wpQuiet_nil ?_;intro _ hw';obtain ⟨gq,hw''⟩:=hw';subst hw'')
     go_wp2;rw [Exit.noGoto_ret];go_ret;exact ⟨ret_b HX.out.symm,(zt hb gq)⟩
    ·obtain ⟨j,rfl,hji,hbn2,hbs,hi2⟩:=hmz hm
     have HI2:=j7kb hi2;clear hi2;go_wp2
     (refine z8 (by kernel_rfl) (by kernel_rfl) ?_;(repeat (go_big_quiet_step (fail)));refine wpQuiet_nil ?_;intro _ hw';obtain ⟨gq,hw''⟩:=hw';subst hw'')
     go_wp2;go_roundw
     case rel=>exact ⟨j+1,b+1,j,b+1,by go_num,by go_num,rfl,by go_num,by omega,by omega,by omega,by omega,by omega,HI2.out,(zt hb gq)⟩
     case measure=>simp only [intOf,Int.toNat_natCast,Int.toNat_natCast_add_one];exact meas3 hbs hi
  ·have hns:n=s.length:=by omega
   have hie:=HI.out;rw [hns] at hie;have HE:=j7kb (inv_end hie);have d0:=no hlt;clear hie hns hlt;go_wp2
   obtain ⟨wo,rfl⟩:∃ wo:World,wo=wr:=⟨_,rfl⟩
   go_loopw [5] (fun s5 w'=>∃ q:Nat,s5 = .int .i64 q∧q≤l.length∧Hid (gm l s=gm (l.drop q) [])∧Below w.heap.size w w') (fun s5 _=>l.length - (intOf s5).toNat)
   case atStart=>exact ⟨i,rfl,hi,HE.out,hb⟩
   case round =>
    obtain ⟨q,rfl,hq,HQ,hb2⟩:=hrel;by_cases hql:q<l.length
    ·obtain ⟨g,off,rfl,hg,hcell⟩:=HA.out (by omega)
     have f0:=(hb2.cell (p:=⟨g,off+q*6+0,none⟩) hg).trans (hcell q _ (List.getElem?_eq_getElem hql) 0 _ rfl);simp only [Nat.add_zero] at f0
     haveI:Old wr g:=⟨Nat.lt_of_lt_of_le hg hb2.size⟩
     have i0:(0:Int)≤(q:Int):=by omega
     have i1:(q:Int)<(l.length:Int):=by omega
     have HG:=j7kb (List.getElem?_eq_getElem hql);have hk3:=kind3 l[q];clear hcell;generalize l[q]=a at *
     cases hmany:a.isMany with
     | true =>
      rw [hmany] at hk3
      obtain rfl:a = .many:=by cases a <;> simp [At.isMany] at hmany;rfl
      have HQ2:=j7kb (HQ.out.trans (zrc HG.out));clear hmany;go_wp2;go_roundw
      case rel=>exact ⟨q+1,by go_num,by omega,HQ2.out,hb2⟩
      case measure=>simp [intOf];omega
     | false =>
      rw [hmany] at hk3;have HQ2:=j7kb (HQ.out.trans (zo9 HG.out hmany));have d1:=beq_eq_false_iff_ne.2 (show ¬ q=l.length by omega);have d2:=beq_eq_false_iff_ne.2 (show ¬ (q:Int)=(l.length:Int) by omega);clear hmany;go_wp2;rw [Exit.noGoto_ret];go_ret;exact ⟨ret_b HQ2.out.symm,hb2⟩
    ·have hq2:q=l.length:=by omega
     have h2:=HQ.out;rw [hq2,tail_end] at h2;have HQ2:=j7kb h2;have d1:=beq_iff_eq.2 hq2;have d2:=beq_iff_eq.2 (show (q:Int)=(l.length:Int) by omega);clear h2 hq2;go_wp2;rw [Exit.noGoto_ret];go_ret;exact ⟨ret_b HQ2.out.symm,hb2⟩
end Go.Proofs.YtfmecpnokefokaaGreatDoor.Pat
