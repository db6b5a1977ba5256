/-
  The walk of layer 8 (literal), on: the pieces of a Double, told one by one. Conditions: texts of at most 30000 bytes.
-/
import Derived.Test.YtjcdmjdofdnaoaaGreatDoorLit2
import Derived.Test.YtjcdmjdofdnaoaaGreatDoorIterB
import Derived.Test.YtjcdmjdofdnaoaaGreatDoorMachC
set_option linter.unusedSimpArgs false
set_option linter.unusedVariables false
namespace Go.Proofs.YtjcdmjdofdnaoaaGreatDoor.Li
open Go.ChangeShapes Go.WideShapes Go.Deep Go.RowKit Go.Shelf Cls Md Mc _root_.Go.Proofs.YtjcdmjdofdnaoaaGreatDoor.Pa NM
attribute [local go_sem] Oper.semAt_some
set_option maxRecDepth 100000
theorem _root_.Go.Proofs.YtjcdmjdofdnaoaaGreatDoor.j7ab {p:Prop} (h:p):Go.RowKit.Hid p:=Go.Lib.hid h
theorem wpListIn_append_str {P:Program} {F:Fence} {m:Nat} {w:World} {ops:Array Oper} {rest:List Oper} {o:Oper} {a:Act} {Q:Exit→Act→World→Prop} (hgd:o.guard=none) (sl x:Operand) (t u:TypeId)
  (ho:o.op = .call { callee:=.builtin .append,args:=#[sl,x],argTypes:=#[t,u] })
  (b0 e:Nat) (i:TypeInfo) (ht:P.underlying t=some (.slice e)) (hu:P.underlying u=some .string) (hi:P.info? e=some i) (hz:i.zero=some (.int .u8 0)) (hsize:i.size=1) (hby:i.bytes=1)
  (v:Value) (n:Nat) (xs:List UInt8) (hs:a.eval sl=v) (hown:Own w b0 1 v n (xs.flatMap byC)) (s:List UInt8) (hx:a.eval x = .string (B s))
  (h63:n+s.length≤70368744177664) (hb:b0≤w.heap.size)
  (h:∀ v' w',Own w' b0 1 v' (n+s.length) ((xs++s).flatMap byC)→Keeps (fun k=>v.ownBlock=some k∧b0≤k) w w'→(v'.ownBlock=v.ownBlock∨∀ k,v'.ownBlock=some k→w.heap.size≤k)→(∀ k,v'.ownBlock=some k→w.heap.size≤k→tyOf w' k=some e) →
   wpListIn F m P ops Q rest (a.put o.dst v') w'):wpListIn F m P ops Q (o :: rest) a w:=by
 refine wpListIn_plain hgd fun K hK'=>?_;obtain ⟨v',w',hrun,r1,r2,r3,r4⟩:=zdd (P:=P) w b0 t u o.type e i ht hu hi hz hsize hby v n xs hown s h63 hb;unfold Oper.wpIn;refine ⟨?_,?_⟩
 ·simp [Oper.about,ho,resolve,Target.leads,Sem.run_pure]
 ·rw [Oper.semAt_plain F _ _ (by rw [ho];intro c hc';cases hc')]
  simp [execOp,ho,resolve,invoke,builtin,hs,hx,hrun,Result.andThen];exact hK' _ _ (h v' w' r1 r2 r3 r4)
theorem zek (w:World) (cs:List Value) (t:TypeId) (m k:Nat) (hk:k=w.heap.size):Src (w.alloc (.cells cs.toArray t)) (.slice (some ⟨k,0,none⟩) m m) m cs:=by
 subst hk;exact Src.one w cs t m
theorem zax {P:Program} {m m' l:Nat} {args:Array Value} {W:World} {R:Ending→World→Prop} (h:YieldAt Fence.wide m P l args W R):YieldAt Fence.wide m' P l args W R:=by
 obtain ⟨fn,tmps,assign,body,h1,h2,h3⟩:=h;exact ⟨fn,tmps,assign,body,h1,h2,fun c cs _=>h3 c cs (room_wide _)⟩
@[local go_sem] theorem zi7:atV none = .agg #[.int .i64 0,.int .i64 0,.int .i64 0,.int .i64 0,.bool false]:=rfl
@[local go_sem] theorem zi8 (p:Part):atV (some p) = .agg #[.int .i64 (mo p.c),.int .i64 p.fr,.int .i64 p.fin,.int .i64 p.up,.bool p.op]:=rfl
def encPc (x:Pc):Array Value:=#[pcV x]
def pieK (rb mb:Nat) (lv:Value) (n:Nat):World→World→Prop:=KeepT (rdG rb mb lv n) (fun t=>t=97∨t=200∨t=218)
theorem Rd.pieK {W W':World} {rb mb c:Nat} {lv:Value} {s:List UInt8} {L:List Part} {g:Nat→Nat} (h:Rd W rb mb lv s L g c) (hk:Li.pieK rb mb lv L.length W W'):Rd W' rb mb lv s L g c:=h.keepG hk.g
theorem Rd.lts {W:World} {rb mb c:Nat} {lv:Value} {s:List UInt8} {L:List Part} {g:Nat→Nat} (h:Rd W rb mb lv s L g c):∀ k,rdG rb mb lv L.length k→k<W.heap.size:=by
 rintro k (rfl|rfl|⟨h0,e⟩)
 ·exact h.bx.lt
 ·exact h.mp.lt
 ·obtain ⟨A,c',h1,h2,h3,hn,h4⟩:=h.sl
  obtain ⟨b,off,e2,hlt,_⟩:=h4 h0;rw [h1,e2] at e;cases e;exact hlt
theorem zdt {W W':World} {rb mb c:Nat} {lv:Value} {s:List UInt8} {L:List Part} {g:Nat→Nat} (h:Rd W rb mb lv s L g c) (hb:Below W.heap.size W W'):pieK rb mb lv L.length W W' :=
 KeepT.of_keeps (F:=fun _=>False) (Keeps.of_below hb) h.lts (fun _ _ h=>h) (fun _ _ h=>h.elim)
theorem za5 {A B C:World} {rb mb n:Nat} {lv:Value} (h:pieK rb mb lv n A B) (k:pieK rb mb lv n B C):pieK rb mb lv n A C:=KeepT.trans h k
structure DbA (W0:World) (rb mb c:Nat) (lv:Value) (s:List UInt8) (L:List Part) (J:List Pc→World→Prop) (all:List Pc) (tt:Nat) (A:World) (pre:List Pc) (f:Nat) (W:World) (v:Value) (at_:Nat) (here:List UInt8) (x:Bool):Prop where
 j:J pre A
 r:Rd A rb mb lv s L (idxP L) c
 k:pieK rb mb lv L.length W0 A
 be:Below A.heap.size A W
 ow:Own W A.heap.size 1 v here.length (here.flatMap byC)
 e:all=pre++dblP s L tt f at_ here x
 f:tt - at_<f
 hl:here.length≤at_
section
variable {W0 : World} {rb mb c : Nat} {lv : Value} {s : List UInt8} {L : List Part} {J : List Pc → World → Prop} {all : List Pc} {tt : Nat} {A : World} {pre : List Pc} {f : Nat} {W : World} {v : Value} {at_ : Nat} {here : List UInt8} {x : Bool}
theorem DbA.below {W':World} (h:DbA W0 rb mb c lv s L J all tt A pre f W v at_ here x) (hb:Below W.heap.size W W'):DbA W0 rb mb c lv s L J all tt A pre f W' v at_ here x :=
 ⟨h.j,h.r,h.k,zb h.be hb,h.ow.below hb,h.e,h.f,h.hl⟩
theorem DbA.rd (h:DbA W0 rb mb c lv s L J all tt A pre f W v at_ here x):Rd W rb mb lv s L (idxP L) c:=h.r.below h.be
theorem DbA.pk (h:DbA W0 rb mb c lv s L J all tt A pre f W v at_ here x):pieK rb mb lv L.length W0 W:=za5 h.k (zdt h.r h.be)
theorem DbA.fuel (h:DbA W0 rb mb c lv s L J all tt A pre f W v at_ here x):∃ g,f=g+1:=⟨f - 1,by have:=h.f;omega⟩
theorem DbA.step {W':World} {v':Value} {at':Nat} {here':List UInt8} {x':Bool} (h:DbA W0 rb mb c lv s L J all tt A pre (f+1) W v at_ here x) (hlt:at_<tt) (hat:at_<at') (hb:Below A.heap.size A W') (ho:Own W' A.heap.size 1 v' here'.length (here'.flatMap byC))
  (he:dblP s L tt (f+1) at_ here x=dblP s L tt f at' here' x') (hl:here'.length≤at'):DbA W0 rb mb c lv s L J all tt A pre f W' v' at' here' x' :=
 ⟨h.j,h.r,h.k,hb,ho,by rw [h.e,he],by have:=h.f;omega,hl⟩
theorem DbA.app {W1 W2:World} (h:DbA W0 rb mb c lv s L J all tt A pre f W v at_ here x) (hb:Below W.heap.size W W1) (hk:Keeps (fun k=>v.ownBlock=some k∧A.heap.size≤k) W1 W2):Below A.heap.size A W2 :=
 (zb h.be hb).trans (hk.below (Nat.le_trans h.be.size hb.size) (fun k q=>q.2))
end
theorem zdu {s:List UInt8} {L:List Part} {tt f at_:Nat} {here:List UInt8} {x:Bool} (h1:¬ at_<tt):dblP s L tt (f+1) at_ here x=if here=[]∧x=true then [] else [⟨false,true,here⟩]:=by
 conv=>lhs;unfold dblP
 rw [if_neg h1]
theorem zby {s:List UInt8} {L:List Part} {tt f at_:Nat} {here:List UInt8} {x:Bool} (h1:at_<tt) (h2:atP L at_=none):dblP s L tt (f+1) at_ here x=dblP s L tt f (at_+1) (here++[s.getD at_ 0]) x:=by
 conv=>lhs;unfold dblP
 rw [if_pos h1,h2]
theorem zbd {s:List UInt8} {L:List Part} {tt f at_:Nat} {here:List UInt8} {x:Bool} {k:Part} (h1:at_<tt) (h2:atP L at_=some k):dblP s L tt (f+1) at_ here x=if loneP k then dblP s L tt f (at_+1) (here++[s.getD at_ 0]) x
    else if k.c=88 then dblP s L tt f k.fin (here++escT s k) x
    else (if here=[] then [] else [⟨false,true,here⟩])++⟨true,true,subT s k.fr k.fin⟩ :: dblP s L tt f k.fin [] true:=by
 conv=>lhs;unfold dblP
 rw [if_pos h1,h2]
theorem zai {α : Type} {all pre r xs:List α} {x : α} (h:all=pre++x :: r) (hx:all <+: xs):pre++[x] <+: xs:=by
 refine List.IsPrefix.trans ⟨r,?_⟩ hx;rw [h,List.append_assoc];rfl
theorem zft (s:List UInt8) (p:Part) (h:p.fr<p.fin):(escT s p).length≤p.fin - p.fr:=by
 unfold escT;by_cases h1:p.fin<p.fr+2
 ·rw [if_pos h1];simp
 ·rw [if_neg h1]
  by_cases h2:escB (s.getD (p.fr+1) 0).toNat=true
  ·rw [if_pos h2];simp;omega
  ·rw [if_neg h2]
   by_cases h3:(((s.getD (p.fr+1) 0).toNat:Int) == 10)=true
   ·rw [if_pos h3];simp
   ·rw [if_neg h3]
    unfold subT;rw [List.length_drop,List.length_take];omega
theorem zi9 (k:Int):headI k≤3:=by
 unfold headI;by_cases h:(k == 1 || k == 7 || k == 8)=true
 ·rw [if_pos h];omega
 ·rw [if_neg h]
  by_cases h2:(k == 9)=true
  ·rw [if_pos h2];omega
  ·rw [if_neg h2];omega
theorem zdc {L:List Part} {at_:Nat} {k:Part} (h:atP L at_=some k):k∈L∧k.fr=at_:=by
 by_cases hz:idxP L at_=0
 ·rw [zfs hz] at h;cases h
 ·obtain ⟨p,h1,h2,h3⟩:=zi5 hz
  rw [h1] at h;cases h;exact ⟨List.mem_of_getElem? h2,h3⟩
structure Kb (X:World) (kb:Nat) (k:Part):Prop where
 t:tyOf X kb=some 218
 c:∀ j u,(partC k)[j]?=some u→X.cell? ⟨kb,j,none⟩=some u
theorem Kb.lt {X:World} {kb:Nat} {k:Part} (h:Kb X kb k):kb<X.heap.size:=zv h.t
theorem Kb.block {X X':World} {kb:Nat} {k:Part} (h:Kb X kb k) (hb:X'.heap[kb]?=X.heap[kb]?):Kb X' kb k:=⟨(zf hb).trans h.t,fun j u hj=>(World.cell?_of_block hb).trans (h.c j u hj)⟩
theorem Kb.below {X X':World} {kb:Nat} {k:Part} (h:Kb X kb k) (hb:Below X.heap.size X X'):Kb X' kb k:=h.block (hb.block kb h.lt)
theorem Kb.pie {X X':World} {kb rb mb n:Nat} {lv:Value} {k:Part} (h:Kb X kb k) (hk:pieK rb mb lv n X X'):Kb X' kb k:=h.block (hk.t kb _ h.t (.inr (.inr rfl)))
theorem Kb.new (X:World) (k:Part):Kb (X.alloc (.cells #[.int .i64 (mo k.c),.int .i64 k.fr,.int .i64 k.fin,.int .i64 k.up,.bool k.op] 218)) X.heap.size k :=
 ⟨zac _ _ _,(BoxN.new X (partC k) 218).c⟩
structure ExI (W0:World) (rb mb c:Nat) (lv:Value) (s:List UInt8) (L:List Part) (J:List Pc→World→Prop) (all:List Pc) (tt f kb:Nat) (k:Part) (X:World) (pre:List Pc):Prop where
 j:J pre X
 r:Rd X rb mb lv s L (idxP L) c
 pk:pieK rb mb lv L.length W0 X
 b:Kb X kb k
 e:all=pre++⟨true,true,subT s k.fr k.fin⟩ :: dblP s L tt f k.fin [] true
section
variable {W0 : World} {rb mb c : Nat} {lv : Value} {s : List UInt8} {L : List Part} {J : List Pc → World → Prop} {all : List Pc} {tt f kb : Nat} {k : Part} {X : World} {pre : List Pc}
theorem ExI.below {X':World} (h:ExI W0 rb mb c lv s L J all tt f kb k X pre) (hJb:∀ pre A C,Below A.heap.size A C→J pre A→J pre C) (hb:Below X.heap.size X X'):ExI W0 rb mb c lv s L J all tt f kb k X' pre :=
 ⟨hJb _ _ _ hb h.j,h.r.below hb,za5 h.pk (zdt h.r hb),h.b.below hb,h.e⟩
theorem ExI.told {X':World} (h:ExI W0 rb mb c lv s L J all tt f kb k X pre) (hj:J (pre++[⟨true,true,subT s k.fr k.fin⟩]) X') (hk:pieK rb mb lv L.length X X') (hf:tt - k.fin<f) :
  DbA W0 rb mb c lv s L J all tt X' (pre++[⟨true,true,subT s k.fr k.fin⟩]) f X' (.slice none 0 0) k.fin [] true :=
 ⟨hj,h.r.pieK hk,za5 h.pk hk,Below.refl _ _,Own.nil _ _ _,by rw [h.e,List.append_assoc];rfl,hf,Nat.zero_le _⟩
end
set_option maxHeartbeats 4000000 in
theorem zop (n:Nat) (hn:1≤n) (l m rb mb c:Nat) (lv:Value) (s:List UInt8) (L:List Part) (hs:s.length≤30000) (hL:L.length≤1073741824) (hSd:Sound s L) (p:Part) (hp:p.fr<p.fin∧p.fin≤s.length)
  (xs:List Pc) (J Jx:List Pc→World→Prop) (hJb:∀ pre A C,Below A.heap.size A C→J pre A→J pre C)
  (hY:∀ pre x W1,J pre W1→pre++[x] <+: xs→YieldAt Fence.wide m Tryz.prog l (encPc x) W1 fun e W'=>(e = .returned (.bool true)∧J (pre++[x]) W'∧pieK rb mb lv L.length W1 W')∨(e = .returned (.bool false)∧Jx (pre++[x]) W'))
  (pre0:List Pc) (W:World) (h:Rd W rb mb lv s L (idxP L) c) (h0:J pre0 W) (hx:pre0++dblP s L (insT p) (s.length+1) (insF p) [] false <+: xs) :
  CallsIn Fence.wide n Tryz.prog 156 #[.pointer (some ⟨rb,0,none⟩),partV p,.func (.yield l) #[] #[]] W fun e W' =>
   (e = .returned (.bool true)∧J (pre0++dblP s L (insT p) (s.length+1) (insF p) [] false) W'∧pieK rb mb lv L.length W W')∨(e = .returned (.bool false)∧∃ q,q <+: xs∧Jx q W'):=by
 obtain ⟨i1,hi1,hz10,hz11,hz12⟩:=info_parts zdf;have HIN:=j7ab fun W=>zgm (mo p.c) p.fr p.fin p.up p.op W (by omega) (by omega);rw [show max (p.fin - tailI (mo p.c) p.op) (p.fr+headI (mo p.c))=insT p from rfl,show p.fr+headI (mo p.c)=insF p from rfl] at HIN
 have htt:insT p≤s.length+3:=by
  have h3:=zi9 (mo p.c);unfold insT insF;omega
 have hft:insF p≤insT p:=Nat.le_max_right _ _;have htt2:∀ a,insF p≤a→a<insT p→a<s.length:=fun a h1 h2=>by unfold insT at h2;omega
 generalize insT p=tt at *;generalize insF p=ff at *
 obtain ⟨all,hall⟩:∃ all,pre0++dblP s L tt (s.length+1) ff [] false=all:=⟨_,rfl⟩
 rw [hall] at hx ⊢;have HALL:=j7ab hall;have HY:=j7ab hY;have HJB:=j7ab hJb;have HX:=j7ab hx;have HSD:=j7ab hSd;have HTT:=j7ab htt2;have HR0:=j7ab h;have H0:=j7ab h0
 haveI:Old W rb:=⟨h.bx.lt⟩
 clear hY hJb hx hSd htt2 h h0 hall;refine callsIn_of_wp Tryz.func156 rfl trivial ?_ rfl;simp only [Tryz.ntmps156,List.size_toArray,List.length_cons,List.length_nil,Nat.reduceAdd,Nat.reduceSub,Array.replicate_succ,Array.replicate_zero,List.push_toArray,List.append_toArray,List.nil_append,List.cons_append];unfold partV
 gi_wp2
 refine (callsIn_wide.2 (HIN.out _)).mono ?_;rintro e w1 ⟨rfl,hb1⟩;have HB1:=j7ab (zb (za (Below.refl W.heap.size W) (.cells #[.int .i64 (mo p.c),.int .i64 p.fr,.int .i64 p.fin,.int .i64 p.up,.bool p.op] 218)) hb1)
 have HI:Hid (DbA W rb mb c lv s L J all tt w1 pre0 (s.length+1) w1 (.slice none 0 0) ff [] false):=by
  have hb:=HB1.out;refine j7ab ⟨HJB.out _ _ _ hb H0.out,HR0.out.below hb,zdt HR0.out hb,Below.refl _ _,Own.nil _ _ _,HALL.out.symm,?_,by simp⟩;rcases Nat.lt_or_ge ff tt with h|h
  ·have:=HTT.out (tt - 1) (by omega) (by omega);omega
  ·omega
 clear hb1 HR0 H0 HALL
 gi_wp2
 gi_loopw [9,10,11,12,13] (fun s9 s10 s11 _ _ wr=>∃ (at_:Nat) (v:Value) (here:List UInt8) (x:Bool) (A:World) (pre:List Pc) (f:Nat),v=s9∧s10 = .bool x∧s11 = .int .i64 at_∧ff≤at_∧at_≤60000∧Hid (DbA W rb mb c lv s L J all tt A pre f wr v at_ here x)) (fun _ _ s11 _ _ _=>tt - (intOf s11).toNat)
 case atStart=>exact ⟨_,_,_,_,_,_,_,rfl,rfl,rfl,Nat.le_refl _,by omega,HI⟩
 case round =>
  clear HI HIN HB1;obtain ⟨at_,v,here,x,A,pre,f,rfl,rfl,rfl,hf,h6,HI⟩:=hrel;have HB1:True:=trivial;by_cases hlt:at_<tt
  ·obtain ⟨f,rfl⟩:=HI.out.fuel
   have hls:=HTT.out at_ hf hlt;have HAT:=j7ab (at_any HI.out.rd at_ (by omega) hL);have HLT:=j7ab hlt;have hhl:=HI.out.hl;have j0:(0:Int)≤(at_:Int):=by omega
   have j1:(at_:Int)<(s.length:Int):=by omega
   have j2:(at_:Int)<(tt:Int):=by omega
   have c0:=HI.out.rd.bx.c 0 _ rfl
   haveI:Old wr rb:=⟨HI.out.rd.bx.lt⟩
   cases hA:atP L at_ with
   | none =>
    rw [hA] at HAT;have HE:=j7ab (zby (s:=s) (f:=f) (here:=here) (x:=x) hlt hA);clear hA
    gi_wp2
    refine (callsIn_wide.2 HAT.out).mono ?_;rintro e w2 ⟨rfl,hb2⟩;have HI2:=j7ab (HI.out.below hb2);have d0:=HI2.out.rd.bx.c 0 _ rfl
    haveI:Old w2 rb:=⟨HI2.out.rd.bx.lt⟩
    have hAz:=HI2.out.be.size;clear hb2 HI c0
    gi_wp2_with ((gi_at_builtin;refine zw rfl (.tmp 62) (.tmp 69) _ rfl A.heap.size 5 i1 _ 1 1 Tryz.underlying97 hi1 hz10 hz11 hz12 rfl (by decide) _ here.length (here.flatMap byC) rfl (HI2.out.ow.below (zzb)) _ 1 [.int .u8 s[at_].toNat] rfl rfl (zek _ _ _ _ _ (by first|rfl|(simp;done)|omega)) (by simp [Value.oneCell']) (by unfold maxLen;omega) (by omega) (by first|(simp;done)|omega|(simp;omega)) ?_;intro v9 w9 hown9 hg9 hat9 hty9;have HTY9:=j7ab hty9;clear hty9);have HB9:=j7ab (HI2.out.app (zzb) hg9);have HO9:=j7ab hown9;clear hown9 hg9 hat9)
    go_roundw
    case rel=>exact ⟨at_+1,_,here++[s.getD at_ 0],x,A,pre,f,rfl,rfl,by go_num,by omega,by omega,j7ab (HI2.out.step HLT.out (Nat.lt_succ_self _) HB9.out (by rw [List.getD_eq_getElem?_getD,List.getElem?_eq_getElem hls,Option.getD_some,List.length_append,List.flatMap_append];exact HO9.out) HE.out (by simp;omega))⟩
    case measure=>simp [intOf];omega
   | some k =>
    rw [hA] at HAT;obtain ⟨hkm,hkf⟩:=zdc hA;have hks:=HSD.out k hkm;have HKF:=j7ab hkf;have hkat:at_<k.fin:=by omega
    clear hkf;have hds:=zbd (s:=s) (f:=f) (here:=here) (x:=x) hlt hA;have HLN:Hid (∀ W,Calls Tryz.prog 154 #[partV k] W fun e w'=>e = .returned (.bool (loneP k))∧Below W.heap.size W w'):=j7ab fun W=>zi6 k W (by omega);unfold partV at HLN;clear hA
    cases hln:loneP k with
    | true =>
     rw [hln] at HLN;rw [hln,if_pos rfl] at hds;have HE:=j7ab hds;clear hds hln hkm
     gi_wp2
     refine (callsIn_wide.2 HAT.out).mono ?_;rintro e w2 ⟨rfl,hb2⟩;have HI2:=j7ab (HI.out.below hb2);have hAz:=HI2.out.be.size;clear hb2 HI c0
     gi_wp2
     refine (callsIn_wide.2 (HLN.out _)).mono ?_;rintro e w3 ⟨rfl,hb3⟩;have HI3:=j7ab (HI2.out.below (zb (za (Below.refl _ _) (.cells #[.int .i64 (mo k.c),.int .i64 k.fr,.int .i64 k.fin,.int .i64 k.up,.bool k.op] 218)) hb3));have d0:=HI3.out.rd.bx.c 0 _ rfl
     haveI:Old w3 rb:=⟨HI3.out.rd.bx.lt⟩
     have hAz3:=HI3.out.be.size;clear hb3 HI2
     gi_wp2_with ((gi_at_builtin;refine zw rfl (.tmp 62) (.tmp 69) _ rfl A.heap.size 5 i1 _ 1 1 Tryz.underlying97 hi1 hz10 hz11 hz12 rfl (by decide) _ here.length (here.flatMap byC) rfl (HI3.out.ow.below (zzb)) _ 1 [.int .u8 s[at_].toNat] rfl rfl (zek _ _ _ _ _ (by first|rfl|(simp;done)|omega)) (by simp [Value.oneCell']) (by unfold maxLen;omega) (by omega) (by first|(simp;done)|omega|(simp;omega)) ?_;intro v9 w9 hown9 hg9 hat9 hty9;have HTY9:=j7ab hty9;clear hty9);have HB9:=j7ab (HI3.out.app (zzb) hg9);have HO9:=j7ab hown9;clear hown9 hg9 hat9)
     go_roundw
     case rel=>exact ⟨at_+1,_,here++[s.getD at_ 0],x,A,pre,f,rfl,rfl,by go_num,by omega,by omega,j7ab (HI3.out.step HLT.out (Nat.lt_succ_self _) HB9.out (by rw [List.getD_eq_getElem?_getD,List.getElem?_eq_getElem hls,Option.getD_some,List.length_append,List.flatMap_append];exact HO9.out) HE.out (by simp;omega))⟩
     case measure=>simp [intOf];omega
    | false =>
     rw [hln] at HLN;rw [hln,if_neg (by simp)] at hds;clear hln hkm;by_cases hc:k.c=88
     ·rw [if_pos hc] at hds
      have HE:=j7ab hds;have h13:(mo k.c == 13)=true:=by rw [mo_ne 88 k.c (by decide) 13 (by decide +kernel)];simpa using hc
      have HES:Hid (∀ W (h:Rd W rb mb lv s L (idxP L) c),Calls Tryz.prog 176 #[.pointer (some ⟨rb,0,none⟩),partV k] W fun e w'=>e = .returned (.string (B (escT s k)))∧Below W.heap.size W w'):=j7ab fun W h=>zkx h k hks hs;unfold partV at HES;have hel:=zft s k hks.1;generalize escT s k=et at *;clear hds hc
      gi_wp2
      refine (callsIn_wide.2 HAT.out).mono ?_;rintro e w2 ⟨rfl,hb2⟩;have HI2:=j7ab (HI.out.below hb2);have hAz:=HI2.out.be.size;clear hb2 HI c0;have HOL:=j7ab HI2.out.ow.lt
      gi_wp2
      refine (callsIn_wide.2 (HLN.out _)).mono ?_;rintro e w3 ⟨rfl,hb3⟩;obtain ⟨g3,rfl⟩:=zar hb3;clear hb3
      gi_wp2
      refine (callsIn_wide.2 (HES.out _ (HI2.out.rd.below (zzb)))).mono ?_;rintro e w4 ⟨rfl,hb4⟩;obtain ⟨g4,rfl⟩:=zar hb4;clear hb4
      gi_wp2_with (gi_at_builtin;refine wpListIn_append_str rfl (.tmp 77) (.tmp 80) 97 9 rfl A.heap.size 5 i1 Tryz.underlying97 Tryz.underlying9 hi1 hz10 hz11 hz12 v here.length here rfl (HI2.out.ow.below (zzb)) et rfl (by omega) (HI2.out.below (zzb)).be.size ?_;intro v9 w9 hown9 hg9 hat9 hty9;have HB9:=j7ab (HI2.out.app (zzb) hg9);have HO9:=j7ab hown9;have hbk:=hg9.block w2.heap.size Old.lt (fun q=>by have:=HOL.out _ q.1;omega);have hk2:w9.cell? ⟨w2.heap.size,2,none⟩=some (.int .i64 k.fin):=(World.cell?_of_block hbk).trans (by simp [go_sem]);haveI:Old w9 w2.heap.size:=⟨World.block_lt_of_cell? _ _ hk2⟩;clear hown9 hg9 hat9 hty9 hbk)
      exact ⟨⟨k.fin,_,here++et,x,A,pre,f,rfl,rfl,rfl,by omega,by omega,j7ab (HI2.out.step HLT.out hkat HB9.out (by rw [List.length_append];exact HO9.out) HE.out (by rw [List.length_append];have:=HKF.out;omega))⟩,by simp [intOf];omega⟩
     ·rw [if_neg hc] at hds
      have h13:=mo_ne 88 k.c (by decide) 13 (by decide +kernel);rw [show (k.c == 88)=false by simpa using hc] at h13;obtain ⟨Ah,ch,rfl,-⟩:=HI.out.ow.form0;have hff:=HI.out.f;have hfk:tt - k.fin<f:=by omega
      have y0:(0:Int)≤(k.fr:Int):=by omega
      have y1:(k.fr:Int)≤(k.fin:Int):=by omega
      have y2:(k.fin:Int)≤(s.length:Int):=by omega
      clear hc hff;by_cases hh:here=[]
      ·subst hh
       rw [if_pos rfl,List.nil_append] at hds;have HE:=j7ab hds;clear hds
       gi_wp2
       refine (callsIn_wide.2 HAT.out).mono ?_;rintro e w2 ⟨rfl,hb2⟩;have HI2:=j7ab (HI.out.below hb2);clear hb2 HI c0
       gi_wp2
       refine (callsIn_wide.2 (HLN.out _)).mono ?_;rintro e w3 ⟨rfl,hb3⟩;have hb23:=zb (za (Below.refl w2.heap.size w2) (.cells #[.int .i64 (mo k.c),.int .i64 k.fr,.int .i64 k.fin,.int .i64 k.up,.bool k.op] 218)) hb3;have HI3:=j7ab (HI2.out.below hb23);have EX:Hid (ExI W rb mb c lv s L J all tt f w2.heap.size k w3 pre):=j7ab ⟨HJB.out _ _ _ HI3.out.be HI3.out.j,HI3.out.rd,HI3.out.pk,(Kb.new w2 k).below hb3,by rw [HI3.out.e,HE.out]⟩;clear hb3 hb23 HI2 HI3 HLN HAT;have z0:=EX.out.r.bx.c 0 _ rfl;have zz:=EX.out.b.c 0 _ rfl;have z1:=EX.out.b.c 1 _ rfl;have z2:=EX.out.b.c 2 _ rfl
       haveI:Old w3 rb:=⟨EX.out.r.bx.lt⟩
       haveI:Old w3 w2.heap.size:=⟨EX.out.b.lt⟩
       gi_wp2
       (refine zaa 11 (za0) (by kernel_rfl) (by kernel_rfl) (by kernel_rfl) ?_;simp only [List.take_succ_cons,List.take_zero,List.drop_succ_cons,List.drop_zero];(repeat (go_big_quiet_step (fail)));refine wpQuiet_nil ?_;intro _ hw';obtain ⟨gq,hw''⟩:=hw';subst hw'')
       have EX2:=j7ab (EX.out.below HJB.out (zh _ gq));obtain ⟨fn,tmps,assign,body,hy,hR⟩:=zax (m':=n - 1) (HY.out _ _ _ EX2.out.j (zai EX2.out.e HX.out));simp only [encPc,pcV,subT] at hy
       gi_wp2
       refine hR.mono ?_;clear hy hR;rintro e W3 (⟨rfl,hJ3,hk3⟩|⟨rfl,hJx3⟩)
       ·have HD:=j7ab (EX2.out.told hJ3 hk3 hfk)
        have HK3:=j7ab (EX2.out.b.pie hk3);clear hJ3 hk3 zz z0 z1 z2 EX EX2;have z2:=HK3.out.c 2 _ rfl
        haveI:Old W3 w2.heap.size:=⟨HK3.out.lt⟩
        gi_wp2
        (refine zb7 (za0) (by kernel_rfl) (by kernel_rfl) (by kernel_rfl) ?_;(repeat (go_big_quiet_step (fail)));refine wpQuiet_nil ?_;intro _ hw';obtain ⟨gq,hw''⟩:=hw';subst hw'')
        gi_wp2
        exact ⟨⟨k.fin,_,[],true,_,_,f,rfl,rfl,rfl,by omega,by omega,j7ab (HD.out.below (zh _ _))⟩,by simp [intOf];omega⟩
       ·have HD:=j7ab hJx3
        have HP:=j7ab (zai EX2.out.e HX.out);clear hJx3 zz z0 z1 z2 EX EX2
        gi_wp2
        go_ret;exact .inr ⟨rfl,_,HP.out,HD.out⟩
      ·have hlen:0<here.length:=List.length_pos_iff.2 hh
       rw [if_neg hh] at hds;have HE:=j7ab hds;have y3:(0:Int)<(here.length:Int):=by omega
       clear hds hh
       gi_wp2
       refine (callsIn_wide.2 HAT.out).mono ?_;rintro e w2 ⟨rfl,hb2⟩;have HI2:=j7ab (HI.out.below hb2);clear hb2 HI c0
       gi_wp2
       refine (callsIn_wide.2 (HLN.out _)).mono ?_;rintro e w3 ⟨rfl,hb3⟩;have hb23:=zb (za (Below.refl w2.heap.size w2) (.cells #[.int .i64 (mo k.c),.int .i64 k.fr,.int .i64 k.fin,.int .i64 k.up,.bool k.op] 218)) hb3;have HI3:=j7ab (HI2.out.below hb23);have HKB:=j7ab ((Kb.new w2 k).below hb3);have hcv:=zde HI3.out.ow rfl;have zz3:=HKB.out.c 0 _ rfl
       haveI:Old w3 w2.heap.size:=⟨HKB.out.lt⟩
       have he3:all=pre++⟨false,true,here⟩ :: (⟨true,true,subT s k.fr k.fin⟩ :: dblP s L tt f k.fin [] true):=by rw [HI3.out.e,HE.out];rfl
       have HE3:=j7ab he3;obtain ⟨fn,tmps,assign,body,hy,hR⟩:=zax (m':=n - 1) (HY.out _ _ _ (HJB.out _ _ _ HI3.out.be HI3.out.j) (zai he3 HX.out));simp only [encPc,pcV] at hy;clear hb3 hb23 HI2 HLN HAT he3
       gi_wp2
       refine hR.mono ?_;clear hy hR hcv zz3;rintro e W5 (⟨rfl,hJ5,hk5⟩|⟨rfl,hJx5⟩)
       ·have EX:Hid (ExI W rb mb c lv s L J all tt f w2.heap.size k W5 (pre++[⟨false,true,here⟩])):=j7ab ⟨hJ5,HI3.out.rd.pieK hk5,za5 HI3.out.pk hk5,HKB.out.pie hk5,by rw [HE3.out,List.append_assoc];rfl⟩
        clear hJ5 hk5 HI3 HKB HE3;have z0:=EX.out.r.bx.c 0 _ rfl;have zz:=EX.out.b.c 0 _ rfl;have z1:=EX.out.b.c 1 _ rfl;have z2:=EX.out.b.c 2 _ rfl
        haveI:Old W5 rb:=⟨EX.out.r.bx.lt⟩
        haveI:Old W5 w2.heap.size:=⟨EX.out.b.lt⟩
        gi_wp2
        (refine zaa 11 (za0) (by kernel_rfl) (by kernel_rfl) (by kernel_rfl) ?_;simp only [List.take_succ_cons,List.take_zero,List.drop_succ_cons,List.drop_zero];(repeat (go_big_quiet_step (fail)));refine wpQuiet_nil ?_;intro _ hw';obtain ⟨gq,hw''⟩:=hw';subst hw'')
        have EX2:=j7ab (EX.out.below HJB.out (zh _ gq));obtain ⟨fn,tmps,assign,body,hy,hR⟩:=zax (m':=n - 1) (HY.out _ _ _ EX2.out.j (zai EX2.out.e HX.out));simp only [encPc,pcV,subT] at hy
        gi_wp2
        refine hR.mono ?_;clear hy hR;rintro e W3 (⟨rfl,hJ3,hk3⟩|⟨rfl,hJx3⟩)
        ·have HD:=j7ab (EX2.out.told hJ3 hk3 hfk)
         have HK3:=j7ab (EX2.out.b.pie hk3);clear hJ3 hk3 zz z0 z1 z2 EX EX2;have z2:=HK3.out.c 2 _ rfl
         haveI:Old W3 w2.heap.size:=⟨HK3.out.lt⟩
         gi_wp2
         (refine zb7 (za0) (by kernel_rfl) (by kernel_rfl) (by kernel_rfl) ?_;(repeat (go_big_quiet_step (fail)));refine wpQuiet_nil ?_;intro _ hw';obtain ⟨gq,hw''⟩:=hw';subst hw'')
         gi_wp2
         exact ⟨⟨k.fin,_,[],true,_,_,f,rfl,rfl,rfl,by omega,by omega,j7ab (HD.out.below (zh _ _))⟩,by simp [intOf];omega⟩
        ·have HD:=j7ab hJx3
         have HP:=j7ab (zai EX2.out.e HX.out);clear hJx3 zz z0 z1 z2 EX EX2
         gi_wp2
         go_ret;exact .inr ⟨rfl,_,HP.out,HD.out⟩
       ·have HD:=j7ab hJx5
        have HP:=j7ab (zai HE3.out HX.out);clear hJx5 HI3 HKB HE3
        gi_wp2
        go_ret;exact .inr ⟨rfl,_,HP.out,HD.out⟩
  ·obtain ⟨f,rfl⟩:=HI.out.fuel
   have hds:=zdu (s:=s) (L:=L) (f:=f) (here:=here) (x:=x) hlt;have d0:decide ((at_:Int)<(tt:Int))=false:=decide_eq_false (by omega);have d1:decide (at_<tt)=false:=decide_eq_false hlt;obtain ⟨Ah,ch,rfl,-⟩:=HI.out.ow.form0;by_cases hh:here=[]
   ·subst hh
    cases x with
    | true =>
     rw [if_pos ⟨rfl,rfl⟩] at hds;have HE:=j7ab hds;clear hds hlt
     gi_wp2
     go_ret;refine .inl ⟨rfl,?_,HI.out.pk⟩;have:=HJB.out _ _ _ HI.out.be HI.out.j
     rwa [show all=pre by rw [HI.out.e,HE.out,List.append_nil]]
    | false =>
     rw [if_neg (by simp)] at hds;have HE:=j7ab hds;clear hds hlt;have he3:all=pre++[⟨false,true,[]⟩]:=by rw [HI.out.e,HE.out]
     have HE3:=j7ab he3;have hcv:=zde HI.out.ow rfl;simp only [List.length_nil] at hcv;obtain ⟨fn,tmps,assign,body,hy,hR⟩:=zax (m':=n - 1) (HY.out _ _ _ (HJB.out _ _ _ HI.out.be HI.out.j) (zai he3 HX.out));simp only [encPc,pcV] at hy;clear he3
     gi_wp2
     refine hR.mono ?_;clear hy hR hcv;rintro e W5 (⟨rfl,hJ5,hk5⟩|⟨rfl,hJx5⟩)
     ·have HD:Hid (J all W5):=j7ab (by rw [HE3.out];exact hJ5)
      have HK:=j7ab (za5 HI.out.pk hk5);clear hJ5 hk5
      gi_wp2
      go_ret;exact .inl ⟨rfl,HD.out,HK.out⟩
     ·have HD:=j7ab hJx5
      have HP:=j7ab (zai HE3.out HX.out);clear hJx5
      gi_wp2
      go_ret;exact .inr ⟨rfl,_,HP.out,HD.out⟩
   ·rw [if_neg (fun q=>hh q.1)] at hds
    have HE:=j7ab hds;have hlen:0<here.length:=List.length_pos_iff.2 hh;have y3:((here.length:Int) == 0)=false:=by rw [Bool.eq_false_iff];intro e;rw [beq_iff_eq] at e;omega
    have y4:(here.length == 0)=false:=by rw [Bool.eq_false_iff];intro e;rw [beq_iff_eq] at e;omega
    clear hds hlt hh hlen;have he3:all=pre++[⟨false,true,here⟩]:=by rw [HI.out.e,HE.out]
    have HE3:=j7ab he3;have hcv:=zde HI.out.ow rfl;obtain ⟨fn,tmps,assign,body,hy,hR⟩:=zax (m':=n - 1) (HY.out _ _ _ (HJB.out _ _ _ HI.out.be HI.out.j) (zai he3 HX.out));simp only [encPc,pcV] at hy;clear he3
    gi_wp2
    refine hR.mono ?_;clear hy hR hcv;rintro e W5 (⟨rfl,hJ5,hk5⟩|⟨rfl,hJx5⟩)
    ·have HD:Hid (J all W5):=j7ab (by rw [HE3.out];exact hJ5)
     have HK:=j7ab (za5 HI.out.pk hk5);clear hJ5 hk5
     gi_wp2
     go_ret;exact .inl ⟨rfl,HD.out,HK.out⟩
    ·have HD:=j7ab hJx5
     have HP:=j7ab (zai HE3.out HX.out);clear hJx5
     gi_wp2
     go_ret;exact .inr ⟨rfl,_,HP.out,HD.out⟩
end Go.Proofs.YtjcdmjdofdnaoaaGreatDoor.Li
