/-
  Closed forms are words (layer 17), plainly. No program in sight.
-/
import Derived.Lib.Replace
import Derived.Lib.IndexBytes
import Derived.Lib.IndexLaws
import Derived.Test.YtjcdmjdofdnaoaaGreatDoorQuo1
import Derived.Test.YtjcdmjdofdnaoaaGreatDoorLexA
import Derived.Test.YtjcdmjdofdnaoaaGreatDoorShaped
import Derived.Lib.SplitLaws
set_option linter.unusedSimpArgs false
set_option linter.unusedVariables false
namespace Go.Proofs.YtjcdmjdofdnaoaaGreatDoor.Quo
open Go.Lib
theorem _root_.Go.Proofs.YtjcdmjdofdnaoaaGreatDoor.j7bc {p:Prop} (h:p):Go.RowKit.Hid p:=Go.Lib.hid h
theorem ze0 (c:UInt8) (new:List UInt8):∀ s:List UInt8,replaceK [c] new (s.count c) s=s.flatMap fun b=>if b=c then new else [b]
 | []=>rfl
 | b :: l=>by
  have ih:=ze0 c new l;rw [List.flatMap_cons];by_cases h:b=c
  ·subst h
   rw [List.count_cons_self,replaceK_hit [b] new _ _ 0 (by rw [index_one];simp [indexByte])];simp [ih]
  ·rw [List.count_cons_of_ne h,if_neg h]
   cases hk:l.count c with
   | zero =>
    rw [hk] at ih;rw [← ih];rfl
   | succ k =>
    obtain ⟨i,hi⟩:=index_of_count (s:=l) (old:=[c]) (by rw [count_one,hk];omega)
    have hi2:index (b :: l) [c]=((i+1:Nat):Int):=by
     rw [index_one] at hi ⊢;unfold indexByte;rw [if_neg (by simpa using h),if_neg (by rw [hi];simp),hi];omega
    rw [hk,replaceK_hit [c] new k l i hi] at ih;rw [replaceK_hit [c] new k (b :: l) (i+1) hi2];simp only [List.take_succ_cons,List.length_cons,List.length_nil] at ih ⊢;rw [show i+1+(0+1)=(i+(0+1))+1 by omega,List.drop_succ_cons,List.cons_append,List.cons_append,ih];rfl
theorem zg8 (c:UInt8) (new s:List UInt8) (h:[c]≠new):replaceAll s [c] new=s.flatMap fun b=>if b=c then new else [b]:=by
 unfold replaceAll replace replaceNum;rw [if_neg (by simpa using h),if_pos (.inl (by omega)),count_one];exact ze0 c new s
def sglL (s:List UInt8):List UInt8:=39 :: s.flatMap fun b=>if b=39 then [39,92,39,39] else [b]
def dblB (b:UInt8):Bool:=b == 36 || b == 96 || b == 34 || b == 92
def dblL (s:List UInt8):List UInt8:=34 :: s.flatMap fun b=>if dblB b=true then [92,b] else [b]
open Cls
def escB (b:UInt8):List UInt8:=if b=10 then [39,10,39] else if safeB b=true then [b] else [92,b]
def riskB (s:List UInt8):Bool:=resB s || (s != [] && s.all digitB)
def headL (s:List UInt8):List UInt8:=if (riskB s && safeB (s.getD 0 0))=true then [92] else []
def plnL (s:List UInt8):List UInt8:=if s=[] then [39,39] else headL s++s.flatMap escB
def endL (closed:Bool) (e:UInt8):List UInt8:=if closed=true then [e] else []
def encL (s:List UInt8) (state:Int) (closed:Bool):List UInt8 :=
 if state=4 then sglL s++endL closed 39 else if state=5 then dblL s++endL closed 34 else plnL s
def shorter (a b:List UInt8):List UInt8:=if b.length<a.length then b else a
def shortL (s:List UInt8):List UInt8:=shorter (shorter (encL s 0 true) (encL s 4 true)) (encL s 5 true)
def plnK (s:List UInt8) (k:Nat):List UInt8:=if k=0 then [] else headL s++(s.take k).flatMap escB
theorem zkf {s:List UInt8} (h:s≠[]):plnK s s.length=plnL s:=by
 unfold plnK plnL;rw [if_neg (by simpa using h),if_neg h,List.take_length]
theorem zc4 {s:List UInt8} {k:Nat} (h:k<s.length):plnK s (k+1)=plnK s k++((if k=0 then headL s else [])++escB s[k]):=by
 unfold plnK;rw [if_neg (by omega),List.take_succ_eq_append_getElem h,List.flatMap_append];by_cases hk:k=0
 ·subst hk;simp
 ·rw [if_neg hk,if_neg hk];simp
theorem is10 {c:UInt8}:((c.toNat:Int) == 10)=(c == 10):=by
 rw [Bool.eq_iff_iff,beq_iff_eq,beq_iff_eq]
 constructor
 ·intro h;exact UInt8.toNat_inj.1 (by simpa using (show c.toNat=10 by omega))
 ·rintro rfl;rfl
theorem zl9 {s:List UInt8} {k:Nat} (h:k<s.length) (hs:safeB s[k]=false):(if k=0 then headL s else [])=[]:=by
 by_cases hk:k=0
 ·subst hk
  rw [if_pos rfl];unfold headL;rw [if_neg];rw [show s.getD 0 0=s[0] by simp [List.getD,List.getElem?_eq_getElem h],hs];simp
 ·rw [if_neg hk]
theorem plnK_A {s:List UInt8} {k:Nat} (h:k<s.length) (h10:((s[k].toNat:Int) == 10)=true):plnK s (k+1)=plnK s k++[39,10,39]:=by
 rw [is10,beq_iff_eq] at h10;rw [zc4 h,zl9 h (by rw [h10];decide +kernel)];unfold escB;rw [if_pos h10];rfl
theorem plnK_B {s:List UInt8} {k:Nat} (h:k<s.length) (h10:((s[k].toNat:Int) == 10)=false) (hs:safeB s[k]=false):plnK s (k+1)=(plnK s k++[92])++[s[k]]:=by
 rw [is10,beq_eq_false_iff_ne] at h10;rw [zc4 h,zl9 h hs];unfold escB;rw [if_neg h10,if_neg (by rw [hs];simp)];simp
theorem plnK_C {s:List UInt8} {k:Nat} (h:k<s.length) (h10:((s[k].toNat:Int) == 10)=false) (hs:safeB s[k]=true) (hk:k=0) (hr:riskB s=true):plnK s (k+1)=(plnK s k++[92])++[s[k]]:=by
 rw [is10,beq_eq_false_iff_ne] at h10;rw [zc4 h];unfold escB headL;subst hk;rw [if_neg h10,if_pos hs,if_pos rfl,if_pos (by rw [show s.getD 0 0=s[0] by simp [List.getD,List.getElem?_eq_getElem h],hs,hr];rfl)];simp
theorem plnK_D {s:List UInt8} {k:Nat} (h:k<s.length) (h10:((s[k].toNat:Int) == 10)=false) (hs:safeB s[k]=true) (hr:k=0→riskB s=false):plnK s (k+1)=plnK s k++[s[k]]:=by
 rw [is10,beq_eq_false_iff_ne] at h10;rw [zc4 h];unfold escB headL;rw [if_neg h10,if_pos hs];by_cases hk:k=0
 ·rw [if_pos hk,if_neg (by rw [hr hk];simp)]
  rfl
 ·rw [if_neg hk]
  rfl
theorem escB_ne (b:UInt8):escB b≠[]:=by
 unfold escB
 repeat' split
 all_goals simp
theorem plnL_ne (s:List UInt8):plnL s≠[]:=by
 unfold plnL
 split
 ·simp
 ·cases s with
  | nil=>contradiction
  | cons b l =>
   rw [List.flatMap_cons];have:=escB_ne b;intro h;have h2:=congrArg List.length h;simp at h2;exact this (by simpa using h2.2.1)
theorem zg9 (s:List UInt8) (state:Int) (closed:Bool):encL s state closed≠[]:=by
 unfold encL
 split
 ·unfold sglL;simp
 ·split
  ·unfold dblL;simp
  ·exact plnL_ne s
theorem znm {a b:List UInt8} (ha:a≠[]) (hb:b≠[]):shorter a b≠[]:=by
 unfold shorter
 split <;> assumption
def shortK (s:List UInt8):Nat→List UInt8
 | 0=>[]
 | 1=>encL s 0 true
 | 2=>shorter (encL s 0 true) (encL s 4 true)
 | _=>shortL s
theorem escB_len (b:UInt8):(escB b).length≤3:=by
 unfold escB
 repeat' split
 all_goals simp
theorem zp8 (s:List UInt8):(headL s).length≤1:=by
 unfold headL
 split <;> simp
theorem flat_len {f:UInt8→List UInt8} {m:Nat} (h:∀ b,(f b).length≤m):∀ s:List UInt8,(s.flatMap f).length≤m*s.length
 | []=>by simp
 | b :: l=>by
  have:=flat_len h l;have:=h b;rw [List.flatMap_cons,List.length_append,List.length_cons,Nat.mul_add];omega
theorem zkg (s:List UInt8) (k:Nat) (hk:k≤s.length):(plnK s k).length≤3*s.length+1:=by
 unfold plnK
 split
 ·simp
 ·have h1:=flat_len escB_len (s.take k)
  have h2:=zp8 s;rw [List.length_append];rw [List.length_take] at h1;have:3*(min k s.length)≤3*s.length:=Nat.mul_le_mul_left 3 (by omega);omega
def dblE (b:UInt8):List UInt8:=if dblB b=true then [92,b] else [b]
def dblI (n:Int):Bool:=n == 36 || n == 96 || n == 34 || n == 92
theorem zha (c:UInt8):dblB c=dblI c.toNat:=by
 have h:∀ n:Fin 256,dblB (UInt8.ofNat n.val)=dblI (UInt8.ofNat n.val).toNat:=by decide +kernel
 have:=h ⟨c.toNat,c.toNat_lt⟩
 simpa using this
theorem dblE_yes {c:UInt8} (h:dblI c.toNat=true):dblE c=[92]++[c]:=by unfold dblE;rw [zha,if_pos h];rfl
theorem dblE_no {c:UInt8} (h:dblI c.toNat=false):dblE c=[c]:=by unfold dblE;rw [zha,if_neg (by rw [h];simp)]
theorem dblE_len (b:UInt8):(dblE b).length≤2:=by unfold dblE;split <;> simp
def dblK (s:List UInt8) (k:Nat):List UInt8:=34 :: (s.take k).flatMap dblE
theorem zkh (s:List UInt8):dblK s s.length=dblL s:=by unfold dblK dblL;rw [List.take_length];rfl
theorem zp9 {s:List UInt8} {k:Nat} (h:k<s.length):dblK s (k+1)=dblK s k++dblE s[k]:=by
 unfold dblK;rw [List.take_succ_eq_append_getElem h,List.flatMap_append];simp
theorem zki (s:List UInt8) (k:Nat) (hk:k≤s.length):(dblK s k).length≤2*s.length+1:=by
 unfold dblK;have h1:=flat_len dblE_len (s.take k);rw [List.length_take] at h1;have:2*(min k s.length)≤2*s.length:=Nat.mul_le_mul_left 2 (by omega);rw [List.length_cons];omega
def sglE (b:UInt8):List UInt8:=if b=39 then [39,92,39,39] else [b]
theorem sglE_len (b:UInt8):(sglE b).length≤4:=by unfold sglE;split <;> simp
theorem sglL_len (s:List UInt8):(sglL s).length≤4*s.length+1:=by
 have h1:=flat_len sglE_len s;have h2:sglL s=39 :: s.flatMap sglE:=rfl;rw [h2,List.length_cons];omega
theorem dblL_len (s:List UInt8):(dblL s).length≤2*s.length+1:=by
 have:=zki s s.length (Nat.le_refl _)
 rwa [zkh] at this
theorem plnL_len (s:List UInt8):(plnL s).length≤3*s.length+2:=by
 by_cases h:s=[]
 ·subst h;decide
 ·have:=zkg s s.length (Nat.le_refl _)
  rw [zkf h] at this;omega
open Go.ChangeShapes Go.WideShapes Go.Deep Go.RowKit Cls Bd Pat
set_option maxRecDepth 100000
theorem zqa (s:List UInt8) (w:World) (hs:s.length≤1073741824):Calls Tryz.prog 46 #[.string (B s)] w fun e w'=>e = .returned (.bool (riskB s))∧w=w':=by
 have HR:=j7bc fun w=>zj3 s w;have HD:=j7bc fun w=>zgr s 0 w hs (by omega);have hsp:=zf0 digitB s;rw [List.drop_zero] at HD;unfold riskB;generalize spanN digitB s=n at *;generalize resB s=r at *
 cases r with
 | true =>
  go_enter Tryz.func46,Tryz.ntmps46
  go_wp2_with (go_at_call 75;refine (HR.out _).mono ?_;rintro e w' ⟨rfl,rfl⟩)
  go_ret;exact ⟨rfl,rfl⟩
 | false =>
  by_cases h0:s=[]
  ·subst h0
   go_enter Tryz.func46,Tryz.ntmps46
   go_wp2_with (go_at_call 75;refine (HR.out _).mono ?_;rintro e w' ⟨rfl,rfl⟩)
   go_ret;exact ⟨rfl,rfl⟩
  have h1:(s != [])=true:=by simpa using h0
  rw [h1]
  have hsI:((n:Int) == (s.length:Int))=s.all digitB:=by
   rw [← hsp,Bool.eq_iff_iff,beq_iff_eq,beq_iff_eq];omega
  clear hsp;generalize s.all digitB=a at *;go_enter Tryz.func46,Tryz.ntmps46
  go_wp2_with (first|(go_at_call 75;refine (HR.out _).mono ?_;rintro e w' ⟨rfl,rfl⟩)|(go_at_call 76;refine (HD.out _).mono ?_;rintro e w' ⟨rfl,rfl⟩))
  go_ret;exact ⟨Cls.ret_b (by simp [h0]),rfl⟩
set_option maxHeartbeats 2000000 in
theorem znn (s:List UInt8) (w:World) (hs:s.length≤1073741824):Calls Tryz.prog 26 #[.string (B s)] w fun e w'=>e = .returned (.string (B (dblL s)))∧Below w.heap.size w w':=by
 go_enter Tryz.func26,Tryz.ntmps26
 go_wp2_with (go_at_call 47;refine (zcv 34 (Bld.new w w.heap.size) (by simp) (by simp)).mono ?_;rintro e w1 ⟨rfl,v1,h1,hk1⟩;have HB1:=j7bc h1;have hw1:=ze (za (Below.refl w.heap.size w) _) hk1 (fun k hk=>by omega);have HW1:=j7bc hw1;clear h1 hk1 hw1)
 go_loopw [4,8] (fun _ i wr=>∃ (k:Nat) (v:Value),k≤s.length∧i = .int .i64 k∧Hid (Bld wr w.heap.size w.heap.size v (dblK s k))∧Hid (Below w.heap.size w wr)) (fun _ i _=>s.length - (intOf i).toNat)
 case atStart=>exact ⟨0,v1,by omega,rfl,HB1.out,HW1.out⟩
 case round =>
  clear HB1 HW1;obtain ⟨k,v,hk,rfl,HB,HW⟩:=hrel;have hsz:=HW.out.size;have hlen:=zki s k hk;by_cases hlt:k<s.length
  ·have hi0:(0:Int)≤(k:Int):=by omega
   have hi1:(k:Int)<(s.length:Int):=by omega
   have HS:=j7bc (zp9 hlt);have HX:=j7bc fun (W:World) (v:Value) (l:List UInt8) (h:Bld W w.heap.size w.heap.size v l) (hl:l.length+1≤70368744177664) (hR:w.heap.size≤W.heap.size)=>zcv s[k] h hl hR;have HY:=j7bc fun (W:World) (v:Value) (l:List UInt8) (h:Bld W w.heap.size w.heap.size v l) (hl:l.length+1≤70368744177664) (hR:w.heap.size≤W.heap.size)=>zhm 92 (n:=92) rfl h hl hR
   go_wp2_with (first
    | (go_at_call 47;(with_reducible refine (HY.out _ _ _ HB.out (by omega) hsz).mono ?_);rintro e w2 ⟨rfl,v2,h2,hk2⟩;have HB2:=j7bc h2;have hw2:=HW.out.trans (hk2.below hsz (fun k hk=>by omega));have HW2:=j7bc hw2;have hsz2:=hw2.size;clear h2 hk2 hw2 HY)
    | (go_at_call 47;(with_reducible refine (HX.out _ _ _ HB2.out (by rw [List.length_append];simp;omega) hsz2).mono ?_);rintro e w3 ⟨rfl,v3,h3,hk3⟩;have HB3:=j7bc h3;have hw3:=HW2.out.trans (hk3.below hsz2 (fun k hk=>by omega));have HW3:=j7bc hw3;clear h3 hk3 hw3)
    | (go_at_call 47;(with_reducible refine (HX.out _ _ _ HB.out (by omega) hsz).mono ?_);rintro e w3 ⟨rfl,v3,h3,hk3⟩;have HB3:=j7bc h3;have hw3:=HW.out.trans (hk3.below hsz (fun k hk=>by omega));have HW3:=j7bc hw3;clear h3 hk3 hw3))
   all_goals
    go_roundw
    case rel=>exact ⟨k+1,_,by omega,by go_num,by first|(rw [HS.out,dblE_yes (by simp [dblI, *]),← List.append_assoc];exact HB3.out)|(rw [HS.out,dblE_no (by simp [dblI, *])];exact HB3.out),HW3.out⟩
    case measure=>simp [intOf];omega
  ·have hk':k=s.length:=by omega
   subst hk';rw [zkh] at HB;have HST:=j7bc (zi4 HB.out (Nat.le_refl _) (Nat.le_refl _));clear hlt
   go_wp2_with (go_at_call 48;refine HST.out.mono ?_;rintro e w2 ⟨rfl,hb⟩;have HW2:=j7bc (HW.out.trans hb);clear hb)
   go_ret;exact ⟨rfl,HW2.out⟩
theorem zno (s:List UInt8) (w:World) (hm:MaxL w) (hs:s.length≤1073741824):Calls Tryz.prog 25 #[.string (B s)] w fun e w'=>e = .returned (.string (B (sglL s)))∧Below w.heap.size w w':=by
 obtain ⟨m,hm⟩:=hm;have hc:=Lib.countB_le (B [39]) (by rw [B_size];simp) (B s).size (B s) (Nat.le_refl _);have hR:=Tryz.strings_ReplaceAll (B s) (B [39]) (B [39,92,39,39]) m w (by rw [B_size];omega) hm (by rw [B_size];simp) (by rw [B_size] at hc ⊢;rw [B_size];simp;omega);rw [B_data,B_data,B_data,zg8 39 _ s (by decide)] at hR;have HR:=j7bc hR;clear hR hc;have HE:Hid (sglL s=39 :: s.flatMap fun b=>if b=39 then [39,92,39,39] else [b]):=rfl;rw [HE.out];have hl:=flat_len (f:=fun b=>if b=39 then [39,92,39,39] else [b]) (m:=4) (by intro b;split <;> simp) s;have hl2:(s.flatMap fun b=>if b=39 then [39,92,39,39] else [b]).length≤4294967296:=by omega
 clear hl;generalize (s.flatMap fun b=>if b=39 then [39,92,39,39] else [b])=t at *;go_enter Tryz.func25,Tryz.ntmps25
 go_wp2_with (go_at_call 49;refine HR.out.mono ?_;rintro e w1 ⟨rfl,hb⟩;have HB:=j7bc hb;clear hb)
 go_ret;exact ⟨rfl,HB.out⟩
def PlnI (s:List UInt8) (w:World) (i:Value) (wr:World):Prop:=∃ (k:Nat) (v:Value),k≤s.length∧i = .int .i64 k∧Hid (Bld wr w.heap.size w.heap.size v (plnK s k))∧Hid (Below w.heap.size w wr)
theorem PlnI.mk {s:List UInt8} {w wr:World} {i:Value} {v:Value} {l:List UInt8} (k:Nat) (h1:k≤s.length) (h2:i = .int .i64 k) (he:plnK s k=l) (h3:Bld wr w.heap.size w.heap.size v l) (h4:Below w.heap.size w wr):PlnI s w i wr:=⟨k,v,h1,h2,by rw [he];exact h3,h4⟩
set_option maxHeartbeats 4000000 in
theorem zqb (s:List UInt8) (w:World) (hs:s.length≤1073741824):Calls Tryz.prog 24 #[.string (B s)] w fun e w'=>e = .returned (.string (B (plnL s)))∧Below w.heap.size w w':=by
 by_cases h0:s=[]
 ·subst h0
  go_enter Tryz.func24,Tryz.ntmps24;go_wp2;go_ret;exact ⟨rfl,Below.refl _ _⟩
 have e0:(s == [])=false:=by simpa using h0
 have HK:=j7bc (zkf h0);have HRI:=j7bc fun w=>zqa s w hs;clear h0;go_enter Tryz.func24,Tryz.ntmps24;go_wp2;clear e0;rw [show ({ data:=#[] }:ByteArray)=B [] from rfl]
 go_loopw [4,9] (fun _ i wr=>PlnI s w i wr) (fun _ i _=>s.length - (intOf i).toNat)
 case atStart=>exact PlnI.mk 0 (by omega) rfl rfl (Bld.new w _) (za (Below.refl _ _) _)
 case round =>
  obtain ⟨k,v,hk,rfl,HB,HW⟩:=hrel;have hsz:=HW.out.size;have hlen:=zkg s k hk;by_cases hlt:k<s.length
  ·have hi0:(0:Int)≤(k:Int):=by omega
   have hi1:(k:Int)<(s.length:Int):=by omega
   have HSA:=j7bc (plnK_A hlt);have HSB:=j7bc (plnK_B hlt);have HSC:=j7bc (plnK_C hlt);have HSD:=j7bc (plnK_D hlt);have HX:=j7bc fun (W:World) (v:Value) (l:List UInt8) (h:Bld W w.heap.size w.heap.size v l) (hl:l.length+1≤70368744177664) (hR:w.heap.size≤W.heap.size)=>zcv s[k] h hl hR;have HY:=j7bc fun (W:World) (v:Value) (l:List UInt8) (h:Bld W w.heap.size w.heap.size v l) (hl:l.length+1≤70368744177664) (hR:w.heap.size≤W.heap.size)=>zhm 92 (n:=92) rfl h hl hR;have HZ:=j7bc fun (W:World) (v:Value) (l:List UInt8) (h:Bld W w.heap.size w.heap.size v l) (hl:l.length+3≤70368744177664) (hR:w.heap.size≤W.heap.size)=>wstr_any (s:=[39,10,39]) h hl hR;have HS:=j7bc fun W=>zj0 s[k] W
   cases hsf:safeB s[k] with
   | false =>
    rw [hsf] at HS HSB;have HSB2:=j7bc fun h=>HSB.out h rfl;clear hsf HSC HSD HRI HSB
    go_wp2_with (first
     | (go_at_call 45;refine (HS.out _).mono ?_;rintro e w' ⟨rfl,rfl⟩)
     | (go_at_call 44;(with_reducible refine (HZ.out _ _ _ HB.out (by omega) hsz).mono ?_);rintro e w3 ⟨rfl,v3,h3,hk3⟩;have HB3:=j7bc h3;have hw3:=HW.out.trans (hk3.below hsz (fun k hk=>by omega));have HW3:=j7bc hw3;clear h3 hk3 hw3)
     | (go_at_call 47;(with_reducible refine (HY.out _ _ _ HB.out (by omega) hsz).mono ?_);rintro e w2 ⟨rfl,v2,h2,hk2⟩;have HB2:=j7bc h2;have hw2:=HW.out.trans (hk2.below hsz (fun k hk=>by omega));have HW2:=j7bc hw2;have hsz2:=hw2.size;clear h2 hk2 hw2 HY)
     | (go_at_call 47;(with_reducible refine (HX.out _ _ _ HB2.out (by rw [List.length_append];simp;omega) hsz2).mono ?_);rintro e w3 ⟨rfl,v3,h3,hk3⟩;have HB3:=j7bc h3;have hw3:=HW2.out.trans (hk3.below hsz2 (fun k hk=>by omega));have HW3:=j7bc hw3;clear h3 hk3 hw3))
    all_goals
     go_roundw
     case rel=>exact PlnI.mk (s:=s) (w:=w) (k+1) (by omega) (by go_num) (by first|exact HSA.out (by simp [*])|exact HSB2.out (by simp [*])) HB3.out HW3.out
     case measure=>simp [intOf];omega
   | true =>
    rw [hsf] at HS HSC HSD;clear hsf HSB;by_cases hk0:k=0
    ·have k0:((k:Int) == 0)=true:=by simp [hk0]
     cases hri:riskB s with
     | true =>
      rw [hri] at HRI HSC;have HSC2:=j7bc fun h=>HSC.out h rfl hk0 rfl;clear hri HSD HSC hk0
      go_wp2_with (first
       | (go_at_call 45;refine (HS.out _).mono ?_;rintro e w' ⟨rfl,rfl⟩)
       | (go_at_call 46;refine (HRI.out _).mono ?_;rintro e w' ⟨rfl,rfl⟩)
       | (go_at_call 44;(with_reducible refine (HZ.out _ _ _ HB.out (by omega) hsz).mono ?_);rintro e w3 ⟨rfl,v3,h3,hk3⟩;have HB3:=j7bc h3;have hw3:=HW.out.trans (hk3.below hsz (fun k hk=>by omega));have HW3:=j7bc hw3;clear h3 hk3 hw3)
       | (go_at_call 47;(with_reducible refine (HY.out _ _ _ HB.out (by omega) hsz).mono ?_);rintro e w2 ⟨rfl,v2,h2,hk2⟩;have HB2:=j7bc h2;have hw2:=HW.out.trans (hk2.below hsz (fun k hk=>by omega));have HW2:=j7bc hw2;have hsz2:=hw2.size;clear h2 hk2 hw2 HY)
       | (go_at_call 47;(with_reducible refine (HX.out _ _ _ HB2.out (by rw [List.length_append];simp;omega) hsz2).mono ?_);rintro e w3 ⟨rfl,v3,h3,hk3⟩;have HB3:=j7bc h3;have hw3:=HW2.out.trans (hk3.below hsz2 (fun k hk=>by omega));have HW3:=j7bc hw3;clear h3 hk3 hw3))
      all_goals
       go_roundw
       case rel=>exact PlnI.mk (s:=s) (w:=w) (k+1) (by omega) (by go_num) (by first|exact HSA.out (by simp [*])|exact HSC2.out (by simp [*])) HB3.out HW3.out
       case measure=>simp [intOf];omega
     | false =>
      rw [hri] at HRI HSD;have HSD2:=j7bc fun h=>HSD.out h rfl (fun _=>rfl);clear hri HSD HSC hk0
      go_wp2_with (first
       | (go_at_call 45;refine (HS.out _).mono ?_;rintro e w' ⟨rfl,rfl⟩)
       | (go_at_call 46;refine (HRI.out _).mono ?_;rintro e w' ⟨rfl,rfl⟩)
       | (go_at_call 44;(with_reducible refine (HZ.out _ _ _ HB.out (by omega) hsz).mono ?_);rintro e w3 ⟨rfl,v3,h3,hk3⟩;have HB3:=j7bc h3;have hw3:=HW.out.trans (hk3.below hsz (fun k hk=>by omega));have HW3:=j7bc hw3;clear h3 hk3 hw3)
       | (go_at_call 47;(with_reducible refine (HX.out _ _ _ HB.out (by omega) hsz).mono ?_);rintro e w3 ⟨rfl,v3,h3,hk3⟩;have HB3:=j7bc h3;have hw3:=HW.out.trans (hk3.below hsz (fun k hk=>by omega));have HW3:=j7bc hw3;clear h3 hk3 hw3))
      all_goals
       go_roundw
       case rel=>exact PlnI.mk (s:=s) (w:=w) (k+1) (by omega) (by go_num) (by first|exact HSA.out (by simp [*])|exact HSD2.out (by simp [*])) HB3.out HW3.out
       case measure=>simp [intOf];omega
    ·have k0:((k:Int) == 0)=false:=by simp [hk0]
     have HSD2:=j7bc fun h=>HSD.out h rfl (fun h2=>absurd h2 hk0);clear HSD HSC hk0
     go_wp2_with (first
      | (go_at_call 45;refine (HS.out _).mono ?_;rintro e w' ⟨rfl,rfl⟩)
      | (go_at_call 44;(with_reducible refine (HZ.out _ _ _ HB.out (by omega) hsz).mono ?_);rintro e w3 ⟨rfl,v3,h3,hk3⟩;have HB3:=j7bc h3;have hw3:=HW.out.trans (hk3.below hsz (fun k hk=>by omega));have HW3:=j7bc hw3;clear h3 hk3 hw3)
      | (go_at_call 47;(with_reducible refine (HX.out _ _ _ HB.out (by omega) hsz).mono ?_);rintro e w3 ⟨rfl,v3,h3,hk3⟩;have HB3:=j7bc h3;have hw3:=HW.out.trans (hk3.below hsz (fun k hk=>by omega));have HW3:=j7bc hw3;clear h3 hk3 hw3))
     all_goals
      go_roundw
      case rel=>exact PlnI.mk (s:=s) (w:=w) (k+1) (by omega) (by go_num) (by first|exact HSA.out (by simp [*])|exact HSD2.out (by simp [*])) HB3.out HW3.out
      case measure=>simp [intOf];omega
  ·have hk':k=s.length:=by omega
   subst hk';rw [HK.out] at HB;have HST:=j7bc (zi4 HB.out (Nat.le_refl _) (Nat.le_refl _));clear hlt
   go_wp2_with (go_at_call 48;refine HST.out.mono ?_;rintro e w2 ⟨rfl,hb⟩;have HW2:=j7bc (HW.out.trans hb);clear hb)
   go_ret;exact ⟨rfl,HW2.out⟩
theorem znp (s:List UInt8) (state:Int) (closed:Bool) (w:World) (hm:MaxL w) (hs:s.length≤1073741824):Calls Tryz.prog 14 #[.string (B s),.int .i64 state,.bool closed] w fun e w'=>e = .returned (.string (B (encL s state closed)))∧Below w.heap.size w w':=by
 have HP:=j7bc (zqb s w hs);have HS:=j7bc fun W (hb:Below w.heap.size w W)=>zno s W (hm.below hb) hs;have HD:=j7bc fun W=>znn s W hs;have HE:=j7bc (show encL s state closed=if state=4 then sglL s++endL closed 39 else if state=5 then dblL s++endL closed 34 else plnL s from rfl);unfold endL at HE;have la:=sglL_len s;have lb:=dblL_len s;have lc:=plnL_len s;generalize encL s state closed=r at *;generalize sglL s=a at *;generalize dblL s=b at *;generalize plnL s=c at *;go_enter Tryz.func14,Tryz.ntmps14
 go_wp2_with (first
  | (go_at_call 24;refine HP.out.mono ?_;rintro e w1 ⟨rfl,hb⟩;have HB:=j7bc hb;clear hb)
  | (go_at_call 25;refine (HS.out _ HB.out).mono ?_;rintro e w2 ⟨rfl,hb⟩;have HB2:=j7bc (zb HB.out hb);clear hb)
  | (go_at_call 26;refine (HD.out _).mono ?_;rintro e w2 ⟨rfl,hb⟩;have HB2:=j7bc (zb HB.out hb);clear hb))
 all_goals
  go_ret
  first
   | exact ⟨by rw [HE.out];simp_all,HB2.out⟩
   | exact ⟨by rw [HE.out];simp_all,HB.out⟩
set_option maxHeartbeats 2000000 in
theorem zkj (s:List UInt8) (w:World) (hm:MaxL w) (hs:s.length≤1073741824):Calls Tryz.prog 7 #[.string (B s)] w fun e w'=>e = .returned (.string (B (shortL s)))∧Below w.heap.size w w':=by
 have HE:=j7bc fun st W (hb:Below w.heap.size w W)=>znp s st true W (hm.below hb) hs;go_enter Tryz.func7,Tryz.ntmps7;go_wp2
 go_step3
 go_wp2
 go_step3
 go_wp2;rw [show ({ data:=#[] }:ByteArray)=B [] from rfl]
 go_loopw [3,5,6,9] (fun best _ _ i wr=>∃ k:Nat,k≤3∧i = .int .i64 k∧best = .string (B (shortK s k))∧Hid (Below (w.heap.size+1) (w.alloc (.cells #[.int .i64 0,.int .i64 4,.int .i64 5] 3)) wr)) (fun _ _ _ i _=>3 - (intOf i).toNat)
 case atStart=>exact ⟨0,by omega,rfl,rfl,Below.refl _ _⟩
 case round =>
  obtain ⟨k,hk,rfl,rfl,HW⟩:=hrel
  have hcell:∀ (j:Nat) v,[Value.int .i64 0,.int .i64 4,.int .i64 5][j]?=some v→wr.cell? ⟨w.heap.size,j,none⟩=some v:=fun j v hj=>by
   rw [HW.out.cell (p:=⟨w.heap.size,j,none⟩) (by simp)];have hh:=heap_alloc_new w (.cells #[.int .i64 0,.int .i64 4,.int .i64 5] 3);unfold World.cell?;simp only [hh]
   simpa using hj
  have hbw:Below w.heap.size w wr:=(za (Below.refl _ _) _).trans (HW.out.mono (by omega));have HB:=j7bc hbw
  match k,hk with
  | 0,_ =>
   have c0:=hcell 0 _ rfl;have HEE:=j7bc (HE.out 0 _ hbw);have h0:shortK s 0=[]:=rfl;rw [h0];clear hcell hbw h0
   go_wp2_with (go_at_call 14;refine HEE.out.mono ?_;rintro e w2 ⟨rfl,hb⟩;have HB2:=j7bc (HW.out.trans (hb.mono (by have:=HW.out.size;simp at this;omega)));clear hb)
   go_roundw
   case rel=>exact ⟨1,by omega,by go_num,rfl,HB2.out⟩
   case measure=>simp [intOf]
  | 1,_ =>
   have c0:=hcell 1 _ rfl;have HEE:=j7bc (HE.out 4 _ hbw);have h1:shortK s 1=encL s 0 true:=rfl;have h2:∀ x,x=shorter (encL s 0 true) (encL s 4 true)→Value.string (B x) = .string (B (shortK s 2)):=fun x h=>by rw [h];rfl
   have HN:=zg9 s 0 true;have HN2:(!(encL s 0 true).isEmpty)=true:=by simpa using HN
   have H2:=j7bc h2;rw [h1];clear hcell hbw h1 h2;generalize encL s 0 true=a at *;generalize encL s 4 true=b at *
   go_wp2_with (go_at_call 14;refine HEE.out.mono ?_;rintro e w2 ⟨rfl,hb⟩;have HB2:=j7bc (HW.out.trans (hb.mono (by have:=HW.out.size;simp at this;omega)));clear hb)
   all_goals
    go_roundw
    case rel=>exact ⟨2,by omega,by go_num,H2.out _ (by unfold shorter;first|rw [if_neg (by omega)]|rw [if_pos (by omega)]),HB2.out⟩
    case measure=>simp [intOf]
  | 2,_ =>
   have c0:=hcell 2 _ rfl;have HEE:=j7bc (HE.out 5 _ hbw);have h1:shortK s 2=shorter (encL s 0 true) (encL s 4 true):=rfl;have h2:∀ x,x=shorter (shorter (encL s 0 true) (encL s 4 true)) (encL s 5 true)→Value.string (B x) = .string (B (shortK s 3)):=fun x h=>by rw [h];rfl
   have HN:=znm (zg9 s 0 true) (zg9 s 4 true);have HN2:(!(shorter (encL s 0 true) (encL s 4 true)).isEmpty)=true:=by simpa using HN
   have H2:=j7bc h2;rw [h1];clear hcell hbw h1 h2;generalize shorter (encL s 0 true) (encL s 4 true)=a at *;generalize encL s 5 true=b at *
   go_wp2_with (go_at_call 14;refine HEE.out.mono ?_;rintro e w2 ⟨rfl,hb⟩;have HB2:=j7bc (HW.out.trans (hb.mono (by have:=HW.out.size;simp at this;omega)));clear hb)
   all_goals
    go_roundw
    case rel=>exact ⟨3,by omega,by go_num,H2.out _ (by unfold shorter;first|rw [if_neg (by omega)]|rw [if_pos (by omega)]),HB2.out⟩
    case measure=>simp [intOf]
  | 3,_ =>
   have h1:shortK s 3=shortL s:=rfl;rw [h1];clear hcell;go_wp2;rw [Exit.noGoto_ret];go_ret;exact ⟨rfl,HB.out⟩
end Go.Proofs.YtjcdmjdofdnaoaaGreatDoor.Quo
namespace Go.Proofs.YtjcdmjdofdnaoaaGreatDoor.Lx
open Cls Md Quo
def Is (x:St) (l:List UInt8):Prop:=x.l.map (·.1)=l
def One (x:St) (p:Nat) (b:UInt8) (l:List UInt8):Prop:=stopB x b=false∧Is (Md.step x b.toNat p) l
def topB (n:Int):Bool := !(n == 92 || n == 39 || n == 34 || n == 96 || n == 36 || n == 35 || n == 40 || n == 41) && !(cls n == 1 || cls n == 2 || cls n == 3)
theorem safe_top (b:UInt8) (h:safeB b=true):topB b.toNat=true:=by
 have h2:∀ n:Fin 256,safeB (UInt8.ofNat n.val)=true→topB (UInt8.ofNat n.val).toNat=true:=by decide +kernel
 have:=h2 ⟨b.toNat,b.toNat_lt⟩;simp only [UInt8.ofNat_toNat] at this;exact this h
end Go.Proofs.YtjcdmjdofdnaoaaGreatDoor.Lx
