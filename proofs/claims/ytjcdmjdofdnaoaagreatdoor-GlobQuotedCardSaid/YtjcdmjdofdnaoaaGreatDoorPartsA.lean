/-
  Layer 7 (parts): parameters, places of frames, where a part's inside stands, all parts of a text. Conditions: as each says.
-/
import Derived.Test.YtjcdmjdofdnaoaaGreatDoorParts2
import Derived.Test.YtjcdmjdofdnaoaaGreatDoorQuo1
set_option linter.unusedSimpArgs false
set_option linter.unusedVariables false
namespace Go.Proofs.YtjcdmjdofdnaoaaGreatDoor.Cls
open Go.ChangeShapes Go.WideShapes Go.Deep Go.RowKit
set_option maxRecDepth 100000
theorem _root_.Go.Proofs.YtjcdmjdofdnaoaaGreatDoor.j7lb {p:Prop} (h:p):Go.RowKit.Hid p:=Go.Lib.hid h
def parB (c:Int):Bool:=c == 64 || c == 42 || c == 35 || c == 63 || c == 45 || c == 36 || c == 33
def paramN (s:List UInt8) (at_:Nat):Nat :=
 if nameN s at_≠0 then nameN s at_ else if h:at_<s.length then (if parB s[at_].toNat=true then 1 else min (spanN digitB (s.drop at_)) 1) else 0
theorem zb1 (s:List UInt8) (at_:Nat):at_+paramN s at_≤max at_ s.length:=by
 have h1:nameN s at_≤s.length - at_:=by
  unfold nameN
  split
  ·omega
  ·have:=zj1 nameB (s.drop at_);rw [List.length_drop] at this;exact this
 unfold paramN
 split
 ·omega
 ·split
  ·split <;> omega
  ·omega
set_option maxHeartbeats 1000000 in
theorem zep (s:List UInt8) (at_:Nat) (w:World) (hs:s.length≤1073741824) (ha:at_≤s.length):Calls Tryz.prog 158 #[.string (B s),.int .i64 at_] w fun e w'=>e = .returned (.int .i64 (paramN s at_))∧Below w.heap.size w w':=by
 have HN:=j7lb (zj2 s at_ · hs ha);have HD:=j7lb (zgr s at_ · hs ha);unfold paramN;generalize nameN s at_=n at *;generalize spanN digitB (s.drop at_)=d at *;by_cases h:n=0
 ·subst h
  rw [if_neg (by simp)];by_cases hl:at_<s.length
  ·rw [dif_pos hl]
   have p2:(0:Int)≤(at_:Int):=by omega
   have p3:(at_:Int)<(s.length:Int):=by omega
   have p1:decide ((s.length:Int)≤(at_:Int))=false:=decide_eq_false (by omega);have p4:decide (s.length≤at_)=false:=decide_eq_false (by omega);generalize hR:(if parB s[at_].toNat=true then 1 else min d 1)=R;have HR:=j7lb hR;clear hR;go_enter Tryz.func158,Tryz.ntmps158
   go_wp2_with (first
    | (go_at_call 125;(with_reducible refine (HN.out _).mono ?_);rintro e w' ⟨rfl,rfl⟩)
    | (go_at_call 76;(with_reducible refine (HD.out _).mono ?_);rintro e w' ⟨rfl,rfl⟩))
   all_goals
    go_ret;refine ⟨?_,zzb⟩;have hR:=HR.out
    first
     | (rw [if_pos (by unfold parB;simp [*])] at hR;subst hR;simp [go_sem];done)
     | (rw [if_neg (by unfold parB;simp [*])] at hR;subst hR;simp [go_sem];done)
     | (rw [if_neg (by unfold parB;simp [*])] at hR;subst hR;simp [go_sem];omega)
  ·rw [dif_neg hl]
   have p1:(s.length:Int)≤(at_:Int):=by omega
   have p4:s.length≤at_:=by omega
   go_enter Tryz.func158,Tryz.ntmps158
   go_wp2_with (go_at_call 125;(with_reducible refine (HN.out _).mono ?_);rintro e w' ⟨rfl,rfl⟩)
   go_ret;exact ⟨rfl,zzb⟩
 ·rw [if_pos h]
  have h1:decide ((0:Int)<(n:Int))=true:=decide_eq_true (by omega);have h2:0<n:=by omega
  go_enter Tryz.func158,Tryz.ntmps158
  go_wp2_with (go_at_call 125;(with_reducible refine (HN.out _).mono ?_);rintro e w' ⟨rfl,rfl⟩)
  go_ret;exact ⟨rfl,zzb⟩
end Go.Proofs.YtjcdmjdofdnaoaaGreatDoor.Cls
namespace Go.Proofs.YtjcdmjdofdnaoaaGreatDoor.Pa
open Go.ChangeShapes Go.WideShapes Go.Deep Go.RowKit Cls Md Mc
set_option maxRecDepth 100000
def Upto (x:St) (p:Nat):Prop:=∀ e∈x.l,e.2≤p
theorem Upto.push {x:St} {p:Nat} (h:Upto x p) (c:UInt8):Upto (x.push c p) p:=fun e he=>by
 rcases List.mem_cons.1 he with rfl|he
 ·exact Nat.le_refl _
 ·exact h e he
theorem Upto.pop {x:St} {p:Nat} (h:Upto x p):Upto x.pop p:=fun e he=>h e (List.mem_of_mem_tail he)
theorem Upto.mark {x:St} {p:Nat} (h:Upto x p) (f:Bool):Upto (x.mark f) p:=h
theorem Upto.turn {x:St} {p:Nat} (h:Upto x p) (c:UInt8):Upto (x.turn c) p:=fun e he=>by
 obtain ⟨l,f⟩:=x
 cases l with
 | nil=>exact h e he
 | cons a r =>
  obtain ⟨d,q⟩:=a;rcases List.mem_cons.1 he with rfl|he
  ·exact h (d,q) (List.mem_cons_self ..)
  ·exact h e (List.mem_cons_of_mem _ he)
theorem upto_ite {c:Prop} [Decidable c] {a b:St} {p:Nat} (h1:Upto a p) (h2:Upto b p):Upto (if c then a else b) p:=by
 split
 ·exact h1
 ·exact h2
theorem zjo {x:St} {p:Nat} (h:Upto x p) (c b:Int):Upto (Md.program x c b p) p:=by
 unfold Md.program
 repeat' split
 all_goals first|exact h.push _|exact (h.push _).mark _|exact h.mark _|exact h.pop.mark _
theorem zd0 {x:St} {p:Nat} (h:Upto x p) (c b:Int):Upto (Md.plain x c b p) p:=by
 unfold Md.plain
 repeat' refine upto_ite ?_ ?_
 all_goals first|exact zjo h _ _|exact h|exact h.push _|exact h.pop|exact h.pop.mark _|exact h.turn _
theorem zhu {x:St} {p:Nat} (h:Upto x p) (b:Int):Upto (Md.step x b p) p:=by
 unfold Md.step
 repeat' split
 all_goals first|exact (h.turn _).mark _|exact h.turn _|exact h.pop|exact zd0 h.pop _ _|exact zd0 (h.turn _) _ _|exact zd0 h _ _
theorem upto_run {s:List UInt8} {k:Nat} (h:k<s.length):Upto (run (s.take (k+1))) k:=by
 have H:∀ j,j<s.length→Upto (run (s.take j)) j:=by
  intro j
  induction j with
  | zero=>intro _ e he;simp [run,runK,first] at he;subst he;exact Nat.le_refl _
  | succ j ih =>
   intro hj;rw [zdw (by omega)];exact fun e he=>Nat.le_succ_of_le (zhu (ih (by omega)) _ e he)
 rw [zdw h];exact zhu (H k h) _
theorem frs_le {s:List UInt8} {k:Nat} (h:k<s.length):∀ e∈frs (run (s.take (k+1))),e.2≤k:=fun e he=>upto_run h e (List.mem_reverse.1 (List.mem_of_mem_drop he))
def FrLe (L:List Part) (p:Nat):Prop:=∀ e∈L,e.fr≤p
theorem zd1 {α : Type} {l:List α} {k:Nat} {f : α → α} {e : α} (h:e∈l.modify k f):e∈l∨∃ a∈l,e=f a:=by
 induction l generalizing k with
 | nil=>rw [List.modify_nil] at h;cases h
 | cons a r ih =>
  cases k with
  | zero =>
   rw [List.modify_zero_cons] at h;rcases List.mem_cons.1 h with rfl|h
   ·exact .inr ⟨a,List.mem_cons_self ..,rfl⟩
   ·exact .inl (List.mem_cons_of_mem _ h)
  | succ k =>
   rw [List.modify_succ_cons] at h;rcases List.mem_cons.1 h with rfl|h
   ·exact .inl (List.mem_cons_self ..)
   ·rcases ih h with h|⟨b,hb,e⟩
    ·exact .inl (List.mem_cons_of_mem _ h)
    ·exact .inr ⟨b,List.mem_cons_of_mem _ hb,e⟩
theorem FrLe.modify {L:List Part} {p:Nat} (h:FrLe L p) (k:Nat) {f:Part→Part} (hf:∀ a,(f a).fr=a.fr):FrLe (L.modify k f) p:=fun e he=>by
 rcases zd1 he with q|⟨a,ha,rfl⟩
 ·exact h e q
 ·rw [hf];exact h a ha
theorem shutP_fr {a1 p:Nat} {F:List (UInt8×Nat)} {L:List Part} {H:List Nat} (h:FrLe L p):FrLe (shutP a1 F L H).1 p:=by
 induction H generalizing L with
 | nil=>exact h
 | cons k r ih =>
  unfold shutP
  split
  ·exact h
  ·exact ih (h.modify k fun _=>rfl)
theorem openP_fr {i p:Nat} {F:List (UInt8×Nat)} {L:List Part} {H:List Nat} (h:FrLe L p) (hF:∀ e∈F,e.2≤p):FrLe (openP i F L H).1 p:=by
 induction F generalizing i L H with
 | nil=>exact h
 | cons f F ih =>
  unfold openP
  split
  ·exact ih (h.modify _ fun _=>rfl) (fun e he=>hF e (List.mem_cons_of_mem _ he))
  ·refine ih (fun e he=>?_) (fun e he=>hF e (List.mem_cons_of_mem _ he))
   rcases List.mem_append.1 he with q|q
   ·exact h e q
   ·rw [List.mem_singleton] at q
    subst q;exact hF f (List.mem_cons_self ..)
theorem par_fr {s:List UInt8}:∀ k,k≤s.length→FrLe (par (s.take k)).1 (k - 1):=by
 intro k
 induction k with
 | zero=>intro _ e he;simp [par,parK] at he
 | succ k ih =>
  intro hk;rw [zcm (by omega)];unfold seeP;exact openP_fr (shutP_fr fun e he=>by have:=ih (by omega) e he;omega) (frs_le (by omega))
theorem zg0 {s:List UInt8}:∀ k,k≤s.length→(par (s.take k)).1.length≤k*(s.length+1)∧(par (s.take k)).2.length≤s.length:=by
 intro k
 induction k with
 | zero=>intro _;exact ⟨by simp [par,parK],by simp [par,parK]⟩
 | succ k ih =>
  intro hk;obtain ⟨h1,h2⟩:=ih (by omega);rw [zcm (by omega)]
  have hF:(frs (run (s.take (k+1)))).length≤s.length:=by
   have:=zdi (s.take (k+1));unfold frs;rw [List.length_drop,List.length_reverse];rw [List.length_take] at this;omega
  generalize frs (run (s.take (k+1)))=F at *;generalize par (s.take k)=S at *;unfold seeP;have h3:=zhs (k+1) F S.1 S.2.reverse;have h4:=zgl (a1:=k+1) (F:=F) (L:=S.1) (H:=S.2.reverse);generalize shutP (k+1) F S.1 S.2.reverse=X at *;have h5:=zo5 0 F X.1 X.2.reverse (by rw [List.length_reverse];omega) (Nat.zero_le _);rw [Nat.add_mul];omega
def finP (s:List UInt8) (p:Part):Part:=if p.c=76 then ⟨p.c,p.fr,p.fr+1+paramN s (p.fr+1),p.up,false⟩ else if p.op=true then ⟨p.c,p.fr,s.length,p.up,true⟩ else p
def partsL (s:List UInt8):List Part:=(par s).1.map (finP s)
theorem zjp {s:List UInt8}:∀ e∈(par s).1,e.fr<s.length:=fun e he=>by
 have h:=par_fr (s:=s) s.length (Nat.le_refl _) e (by rw [List.take_length];exact he);rcases Nat.eq_zero_or_pos s.length with h0|h0
 ·rw [List.eq_nil_of_length_eq_zero h0] at he
  simp [par,parK] at he
 ·omega
def headI (k:Int):Nat:=if k == 1 || k == 7 || k == 8 then 2 else if k == 9 then 3 else 1
def tailI (k:Int) (op:Bool):Nat:=if op then 0 else if k == 9 then 2 else if k == 13 || k == 12 then 0 else 1
theorem ret_2 {a b c d:Int} (h:a=c) (k:b=d):Ending.returned (.tuple #[.int .i64 a,.int .i64 b]) = .returned (.tuple #[.int .i64 c,.int .i64 d]):=by rw [h,k]
set_option maxHeartbeats 4000000 in
theorem zgm (k:Int) (fr fin:Nat) (up:Int) (op:Bool) (w:World) (h1:fr≤2147483648) (h2:fin≤2147483648) :
  Calls Tryz.prog 175 #[.agg #[.int .i64 k,.int .i64 fr,.int .i64 fin,.int .i64 up,.bool op]] w fun e w'=>e = .returned (.tuple #[.int .i64 ((fr+headI k:Nat):Int),.int .i64 ((max (fin - tailI k op) (fr+headI k):Nat):Int)])∧Below w.heap.size w w':=by
 obtain ⟨hd,hhd⟩:∃ h,headI k=h:=⟨_,rfl⟩
 obtain ⟨tl,htl⟩:∃ h,tailI k op=h:=⟨_,rfl⟩
 rw [hhd,htl];have HH:=j7lb hhd;have HT:=j7lb htl;clear hhd htl;have u0:IntKind.i64.wrap ((fin:Int) - 0)=(fin:Int) - 0:=IntWalk.i64_in _ (by omega);have u1:IntKind.i64.wrap ((fin:Int) - 1)=(fin:Int) - 1:=IntWalk.i64_in _ (by omega);have u2:IntKind.i64.wrap ((fin:Int) - 2)=(fin:Int) - 2:=IntWalk.i64_in _ (by omega);go_enter Tryz.func175,Tryz.ntmps175;go_upto_region 15 with (fail)
 all_goals
  have e1:=HH.out;have e2:=HT.out;simp [headI,tailI, *] at e1 e2;subst e1 e2
  (refine zq (by kernel_rfl) (by kernel_rfl) ?_;(repeat (go_big_quiet_step (fail)));refine wpQuiet_nil ?_;intro _ hw';obtain ⟨gq,hw''⟩:=hw';subst hw'')
  go_wp2
 all_goals
  refine bodyPost_ret (v:=.tuple #[.int .i64 _,.int .i64 _]) (by simp [results,Tryz.results175,go_sem];exact ⟨rfl,rfl⟩) rfl ?_;exact ⟨ret_2 (by omega) (by simp only [Int.max_def,Nat.max_def];(repeat' split) <;> first|omega|(simp only [beq_iff_eq] at *;omega)),zzb⟩
structure OfI (w:World) (wb mb:Nat) (W:World) (v vl vh:Value) (x:St) (n:Nat) (S:List Part×List Nat):Prop where
 m:Mach W w.heap.size mb v x n
 p:Wk W w.heap.size wb vl vh S.1 S.2
 be:Below w.heap.size w W
 gm:w.heap.size≤mb
 gw:w.heap.size≤wb
 ne:mb≠wb
 d1:v.ownBlock≠some wb
 d2:vl.ownBlock≠some mb
 d3:vh.ownBlock≠some mb
 d4:∀ g,v.ownBlock=some g→vl.ownBlock≠some g∧vh.ownBlock≠some g
theorem OfI.feed {w W W':World} {wb mb n n':Nat} {v v' vl vh:Value} {x y:St} {S:List Part×List Nat} (h:OfI w wb mb W v vl vh x n S) (hs:MStep w.heap.size mb W v W' v') (hm:Mach W' w.heap.size mb v' y n'):OfI w wb mb W' v' vl vh y n' S:=by
 have hf:=hs.f;have hwb:=h.p.bx.lt;have hll:=h.p.ol.lt;have hhl:=h.p.oh.lt;refine ⟨hm,⟨h.p.bx.keeps hs.k ?_,h.p.ol.keeps hs.k ?_,h.p.oh.keeps hs.k ?_,h.p.nl,h.p.nh,h.p.ne⟩,ze h.be hs.k (fun k q=>by have:=h.gm;rcases q with q|q <;> omega),h.gm,h.gw,h.ne,?_,h.d2,h.d3,?_⟩
 ·rintro (q|⟨q,_⟩)
  ·exact h.ne q.symm
  ·exact h.d1 q
 ·rintro k e _ (q|⟨q,_⟩)
  ·exact h.d2 (by rw [e,q])
  ·exact (h.d4 k q).1 e
 ·rintro k e _ (q|⟨q,_⟩)
  ·exact h.d3 (by rw [e,q])
  ·exact (h.d4 k q).2 e
 ·rcases hf with q|q
  ·rw [q];exact h.d1
  ·intro e;have:=q wb e;omega
 ·intro g e
  rcases hf with q|q
  ·rw [q] at e;exact h.d4 g e
  ·have:=q g e
   exact ⟨fun z=>by have:=hll g z;omega,fun z=>by have:=hhl g z;omega⟩
theorem OfI.below {w W W':World} {wb mb n:Nat} {v vl vh:Value} {x:St} {S:List Part×List Nat} (h:OfI w wb mb W v vl vh x n S) (hb:Below W.heap.size W W'):OfI w wb mb W' v vl vh x n S:=⟨h.m.below hb,h.p.below hb,zb h.be hb,h.gm,h.gw,h.ne,h.d1,h.d2,h.d3,h.d4⟩
theorem OfI.note {w W W':World} {wb mb n:Nat} {v vl vh vl' vh':Value} {x:St} {S S':List Part×List Nat} (h:OfI w wb mb W v vl vh x n S) (hs:WStep w.heap.size wb W vl vh W' vl' vh') (hm:Wk W' w.heap.size wb vl' vh' S'.1 S'.2):OfI w wb mb W' v vl' vh' x n S':=by
 have hmb:=h.m.bx.lt;have hvl:=h.m.own.lt;refine ⟨⟨h.m.bx.keeps hs.k ?_,h.m.own.keeps hs.k ?_,h.m.ne,h.m.pos⟩,hm,ze h.be hs.k (fun k q=>by have:=h.gw;rcases q with q|q <;> omega),h.gm,h.gw,h.ne,h.d1,?_,?_,?_⟩
 ·rintro (q|⟨q|q,_⟩)
  ·exact h.ne q
  ·exact h.d2 q
  ·exact h.d3 q
 ·rintro k e _ (q|⟨q|q,_⟩)
  ·exact h.d1 (by rw [e,q])
  ·exact (h.d4 k e).1 q
  ·exact (h.d4 k e).2 q
 ·rcases hs.fl with q|q
  ·rw [q];exact h.d2
  ·intro e;have:=q mb e;omega
 ·rcases hs.fh with q|q
  ·rw [q];exact h.d3
  ·intro e;have:=q mb e;omega
 ·intro g e
  have hg:=hvl g e;refine ⟨?_,?_⟩
  ·rcases hs.fl with q|q
   ·rw [q];exact (h.d4 g e).1
   ·intro z;have:=q g z;omega
  ·rcases hs.fh with q|q
   ·rw [q];exact (h.d4 g e).2
   ·intro z;have:=q g z;omega
theorem see_of {w W W3:World} {wb mb n a:Nat} {v vl vh v3:Value} {x:St} {S:List Part×List Nat} (h:OfI w wb mb W v vl vh x n S) (hi:InL S.1 S.2) (hb:Below W.heap.size W W3) (h3:Own W3 W.heap.size 2 v3 x.l.length (x.l.reverse.flatMap frC))
  (hL:S.1.length≤1073741824) (hH:S.2.length≤1073741824) (hx:x.l.length≤1073741824) (ha:a≤1073741824) :
  Calls Tryz.prog 173 #[.pointer (some ⟨wb,0,none⟩),v3,.int .i64 a] W3 fun e w'=>e = .returned (.tuple #[])∧∃ vl' vh',OfI w wb mb w' v vl' vh' x n (seeP a (frs x) S):=by
 have hpos:=h.m.pos
 obtain ⟨t,F,htF⟩:∃ t F,x.l.reverse=t :: F:=by
  cases hr:x.l.reverse with
  | nil=>rw [List.reverse_eq_nil_iff] at hr;rw [hr] at hpos;simp at hpos
  | cons t F=>exact ⟨t,F,rfl⟩
 have hfr:frs x=F:=by unfold frs;rw [htF];rfl
 have hln:x.l.length=F.length+1:=by rw [← List.length_reverse,htF];rfl
 rw [htF,hln] at h3;obtain ⟨fg,fo,c,rfl,hg1,hg2,hg3,hg4⟩:=h3.form;have hsl:=h3.sl zgx (by simp);rw [hfr];have h':=h.below hb;refine (see_any h'.p hi hsl ⟨fun e=>?_,fun e=>?_,fun e=>?_⟩ hL hH (by omega) a ha h'.be.size).mono ?_
 ·have:=h.p.bx.lt;omega
 ·have:=h.p.ol.lt fg e;omega
 ·have:=h.p.oh.lt fg e;omega
 ·rintro e w' ⟨rfl,vl',vh',hs,hm⟩
  exact ⟨rfl,vl',vh',h'.note hs hm⟩
theorem zaw {α : Type} (A R:List α) (p : α) (f : α → α):(A++p :: R).modify A.length f=A++f p :: R:=by
 induction A with
 | nil=>rfl
 | cons a A ih=>rw [List.cons_append,List.length_cons,List.modify_succ_cons,ih];rfl
theorem Wk.setAt {W:World} {b0 wb g off n c:Nat} {vh:Value} {A R:List Part} {p:Part} {H:List Nat} (h:Wk W b0 wb (.slice (some ⟨g,off,none⟩) n c) vh (A++p :: R) H) (hn:n=(A++p :: R).length) {j:Nat} (hj:j<5) (q:Part) (u:Value)
  (hq:partC q=(partC p).set j u):Wk (W.setCell ⟨g,off+(A.length*5+j),none⟩ u) b0 wb (.slice (some ⟨g,off,none⟩) n c) vh (A++q :: R) H:=by
 have hk:A.length<(A++p :: R).length:=by simp
 have:=h.setL hn hk hj (fun _=>q) u (by rw [hq,List.getElem_append_right (Nat.le_refl _)];simp);rw [show (A++p :: R).modify A.length (fun _=>q)=A++q :: R from zaw A R p _] at this;exact this
theorem fin_next {s:List UInt8} {L:List Part} {i:Nat} {p:Part} (h:L[i]?=some p):(L.take i).map (finP s)++finP s p :: L.drop (i+1)=(L.take (i+1)).map (finP s)++L.drop (i+1):=by
 have hi:=(List.getElem?_eq_some_iff.1 h).1;rw [List.take_succ_eq_append_getElem hi,List.map_append,List.append_assoc];rw [List.getElem?_eq_getElem hi] at h;cases h;rfl
theorem zjq (s:List UInt8) {z:Int} (at_:Nat) (hz:z=(at_:Int)) (w:World) (hs:s.length≤1073741824) (ha:at_≤s.length):Calls Tryz.prog 158 #[.string (B s),.int .i64 z] w fun e w'=>e = .returned (.int .i64 (paramN s at_))∧Below w.heap.size w w':=by
 subst hz;exact zep s at_ w hs ha
theorem fin_l {s:List UInt8} {p:Part} (h:p.c=76):finP s p=⟨p.c,p.fr,p.fr+1+paramN s (p.fr+1),p.up,false⟩:=if_pos h
theorem fin_o {s:List UInt8} {p:Part} (h:p.c≠76) (h2:p.op=true):finP s p=⟨p.c,p.fr,s.length,p.up,p.op⟩:=by unfold finP;rw [if_neg h,if_pos h2,h2]
theorem fin_n {s:List UInt8} {p:Part} (h:p.c≠76) (h2:p.op=false):finP s p=p:=by unfold finP;rw [if_neg h,h2,if_neg (by simp)]
structure OfJ (w:World) (wb:Nat) (W:World) (vl vh:Value) (L:List Part) (H:List Nat):Prop where
 p:Wk W w.heap.size wb vl vh L H
 be:Below w.heap.size w W
 gw:w.heap.size≤wb
theorem OfJ.below {w W W':World} {wb:Nat} {vl vh:Value} {L:List Part} {H:List Nat} (h:OfJ w wb W vl vh L H) (hb:Below W.heap.size W W'):OfJ w wb W' vl vh L H:=⟨h.p.below hb,zb h.be hb,h.gw⟩
theorem OfJ.setAt {w W:World} {wb g off n c:Nat} {vh:Value} {A R:List Part} {p:Part} {H:List Nat} (h:OfJ w wb W (.slice (some ⟨g,off,none⟩) n c) vh (A++p :: R) H) (hn:n=(A++p :: R).length) {i:Nat} (hi:A.length=i) {j:Nat} (hj:j<5) (q:Part) (u:Value)
  (hq:partC q=(partC p).set j u):OfJ w wb (W.setCell ⟨g,off+i*5+j,none⟩ u) (.slice (some ⟨g,off,none⟩) n c) vh (A++q :: R) H:=by
 subst hi hn;have hg:=own_ge h.p.ol (by rw [List.length_append,List.length_cons];omega);rw [Nat.add_assoc];exact ⟨h.p.setAt rfl hj q u hq,ze h.be (Keeps.setCell (F:=fun k=>k=g) W (a:=⟨g,off+(A.length*5+j),none⟩) rfl u) (fun k e=>by rw [e];exact hg),h.gw⟩
theorem OfJ.get {w W:World} {wb g off n c:Nat} {vh:Value} {A R:List Part} {p:Part} {H:List Nat} (h:OfJ w wb W (.slice (some ⟨g,off,none⟩) n c) vh (A++p :: R) H) (hn:n=(A++p :: R).length) {i:Nat} (hi:A.length=i) {j:Nat} {u:Value} (hu:(partC p)[j]?=some u) :
  W.cell? ⟨g,off+i*5+j,none⟩=some u∧W.frozen? ⟨g,off+i*5+j,none⟩=false:=by
 subst hi hn;have:=zbr h.p.ol zbg rfl (by omega) (k:=A.length) (x:=p) (by simp) hu
 rwa [← Nat.add_assoc] at this
theorem OfJ.old {w W:World} {wb g off n c:Nat} {vh:Value} {L:List Part} {H:List Nat} (h:OfJ w wb W (.slice (some ⟨g,off,none⟩) n c) vh L H):Old W g:=⟨h.p.ol.lt g rfl⟩
set_option maxHeartbeats 8000000 in
theorem zjr (s:List UInt8) (w:World) (hs:s.length≤30000):Calls Tryz.prog 150 #[.string (B s)] w fun e w'=>∃ vl,e = .returned vl∧Own w' w.heap.size 5 vl (partsL s).length ((partsL s).flatMap partC)∧Below w.heap.size w w':=by
 have HRL:=j7lb fun k=>zdi (s.take k);have HPL:=j7lb fun k h=>zg0 (s:=s) k h
 obtain ⟨L,hL⟩:∃ L,(par s).1=L:=⟨_,rfl⟩
 obtain ⟨H,hH⟩:∃ H,(par s).2=H:=⟨_,rfl⟩
 rw [show partsL s=L.map (finP s) by unfold partsL;rw [hL]];have HLL:=j7lb hL;have HLH:=j7lb hH;clear hL hH;go_enter Tryz.func150,Tryz.ntmps150;go_upto_region 3 with (go_at_call 171;(refine (zjh _).mono ?_);rintro e w2 ⟨mb,v1,rfl,hg1,hm1,hb1⟩)
 have HI0:Hid (OfI w w.heap.size mb w2 v1 (.slice none 0 0) (.slice none 0 0) (run (s.take 0)) 0 (par (s.take 0))):=by
  have hsz:(w.alloc (.cells #[.slice none 0 0,.slice none 0 0] 242)).heap.size=w.heap.size+1:=by simp
  obtain ⟨g,off,c,hv,hgg,_⟩:=hm1.form;refine j7lb ⟨⟨hm1.bx,hm1.own.mono (by omega),hm1.ne,hm1.pos⟩,⟨(BoxN.new w [.slice none 0 0,.slice none 0 0] 242).below hb1,Own.nil _ _ _,Own.nil _ _ _,by simp [Value.ownBlock],by simp [Value.ownBlock],fun k h=>by simp [Value.ownBlock] at h⟩,zb (za (Below.refl _ _) _) hb1,by omega,Nat.le_refl _,by omega,?_,by simp [Value.ownBlock],by simp [Value.ownBlock],fun g _=>⟨by simp [Value.ownBlock],by simp [Value.ownBlock]⟩⟩;rw [hv];intro e;simp only [Value.ownBlock,Option.map_some,Option.some.injEq] at e;omega
 clear hg1 hm1 hb1
 obtain ⟨wb,hwb⟩:∃ wb,w.heap.size=wb:=⟨_,rfl⟩
 have HWB:=j7lb hwb;have HI0:Hid (OfI w wb mb w2 v1 (.slice none 0 0) (.slice none 0 0) (run (s.take 0)) 0 (par (s.take 0))):=hwb ▸ HI0;rw [hwb];clear hwb
 go_upto_block 0 with (fail)
 go_cut [13] (fun _ W=>∃ (W1:World) (v vl vh:Value),W1=W∧Hid (OfI w wb mb W1 v vl vh (run s) s.length (par s)))
 case first =>
  go_wp2
  go_loopw [5,13] (fun _ i W=>∃ (k:Nat) (W1:World) (v vl vh:Value),W1=W∧k≤s.length∧i = .int .i64 k∧Hid (OfI w wb mb W1 v vl vh (run (s.take k)) k (par (s.take k)))) (fun _ i _=>s.length - (intOf i).toNat)
  case atStart=>exact ⟨0,_,_,_,_,rfl,by omega,rfl,HI0⟩
  case round =>
   clear HI0;obtain ⟨k,W1,v,vl,vh,rfl,hk,rfl,HI⟩:=hrel;by_cases hlt:k<s.length
   ·have p0:(0:Int)≤(k:Int):=by omega
    have p1:(k:Int)<(s.length:Int):=by omega
    have HF:=j7lb (zhq HI.out.m (wf_run (s.take k)) (by have:=HRL.out k;rw [List.length_take] at this;omega) (by omega) HI.out.be.size s[k]);rw [← zdw hlt] at HF;have HR1:=j7lb (show (run (s.take (k+1))).l.length≤1073741824 by have:=HRL.out (k+1);rw [List.length_take] at this;omega)
    have HP1:=j7lb (show (par (s.take k)).1.length≤1073741824∧(par (s.take k)).2.length≤1073741824 by
     have:=HPL.out k hk;have h2:k*(s.length+1)≤30000*30001:=Nat.mul_le_mul (by omega) (by omega)
     omega)
    have HT:=j7lb (zcm hlt)
    go_wp2_with (first
     | (go_at_call 172;(refine HF.out.mono ?_);rintro e w3 ⟨rfl,v3,hs3,hm3⟩;have HI3:=j7lb (HI.out.feed hs3 hm3);clear hs3 hm3)
     | (go_at_call 174;(refine (zfg HI3.out.m HR1.out).mono ?_);rintro e w4 ⟨v4,rfl,ho4,hb4⟩;have HS:=j7lb (fun a (ha:a≤1073741824)=>see_of HI3.out (par_in (s.take k)) hb4 ho4 HP1.out.1 HP1.out.2 HR1.out ha);clear ho4 hb4)
     | (go_at_call 173;(refine (HS.out k (by omega)).mono ?_);rintro e w5 ⟨rfl,vl5,vh5,hi5⟩;have HI5:=j7lb hi5;clear hi5))
    go_roundw
    case rel=>exact ⟨k+1,_,_,_,_,rfl,by omega,by go_num,by rw [HT.out];exact HI5⟩
    case measure=>simp [intOf];omega
   ·have hk':k=s.length:=by omega
    subst hk';rw [List.take_length] at HI;go_wp2;go_meet;exact ⟨_,_,_,_,rfl,HI⟩
 case rest =>
  obtain ⟨W1,v,vl,vh,rfl,HI⟩:=hcut;clear HI0;have HPH:=zjp (s:=s);rw [HLL.out] at HPH;have HPH:=j7lb HPH;have hp:=HI.out.p;rw [HLL.out,HLH.out] at hp;have HJ:Hid (OfJ w wb W1 vl vh ((L.take 0).map (finP s)++L.drop 0) H):=j7lb ⟨hp,HI.out.be,HI.out.gw⟩
  have hlL:L.length≤1073741824:=by
   rw [← HLL.out];have:=(HPL.out s.length (Nat.le_refl _)).1;have h2:s.length*(s.length+1)≤30000*30001:=Nat.mul_le_mul (by omega) (by omega);rw [List.take_length] at this;omega
  obtain ⟨A,c,rfl,hA⟩:=hp.ol.form0;have HA:=j7lb hA;have c0:=hp.bx.c 0 _ rfl
  haveI:Old W1 wb:=⟨hp.bx.lt⟩
  clear hA HI HWB hp;go_wp2;clear c0
  go_loopw [6,7,32] (fun _ _ s32 W=>∃ (i:Nat) (W2:World),W2=W∧i≤L.length∧s32 = .int .i64 i∧Hid (OfJ w wb W2 (.slice A L.length c) vh ((L.take i).map (finP s)++L.drop i) H)) (fun _ _ s32 _=>L.length - (intOf s32).toNat)
  case atStart=>exact ⟨0,_,rfl,by omega,rfl,HJ⟩
  case round =>
   clear HJ;obtain ⟨i,W2,rfl,hi,rfl,HJ⟩:=hrel;by_cases hlt:i<L.length
   ·obtain ⟨g,off,rfl⟩:=HA.out (by omega)
    obtain ⟨P,hP⟩:∃ P,L[i]?=some P:=⟨_,List.getElem?_eq_getElem hlt⟩
    have hPe:=hP;rw [List.getElem?_eq_getElem hlt] at hPe;have hPe:=Option.some.inj hPe;have hj:=HJ.out;rw [List.drop_eq_getElem_cons hlt,hPe] at hj;have HN:=j7lb (fin_next (s:=s) hP);have HFR:=j7lb (HPH.out P (List.mem_of_getElem? hP));have hAl:((L.take i).map (finP s)).length=i:=by rw [List.length_map,List.length_take];omega
    have HAL:=j7lb hAl;generalize (L.take i).map (finP s)=A' at *;generalize hRR:L.drop (i+1)=R at *;have HRR:=j7lb hRR;have HLE:=j7lb (show ∀ q,L.length=(A'++q :: R).length from fun q=>by rw [List.length_append,List.length_cons,hAl,← hRR,List.length_drop];omega);have HJ2:=j7lb hj;have p0:(0:Int)≤(i:Int):=by omega
    have p1:(i:Int)<(L.length:Int):=by omega
    haveI:=HJ2.out.old
    haveI:Old W2 wb:=⟨HJ2.out.p.bx.lt⟩
    cases hop:P.op with
    | true =>
     have HOP:=j7lb hop;have co:=(HJ2.out.get (HLE.out _) HAL.out (j:=4) rfl).1;rw [hop] at co;obtain ⟨cf,ff⟩:=HJ2.out.get (HLE.out _) HAL.out (j:=2) rfl;have c0:=HJ2.out.p.bx.c 0 _ rfl;clear hop hj hP hPe hAl hRR HJ;go_upto_region 15 with (fail);have HJ3:=j7lb (HJ2.out.setAt (HLE.out _) HAL.out (j:=2) (by omega) ⟨P.c,P.fr,s.length,P.up,P.op⟩ (.int .i64 s.length) rfl);clear c0 co cf ff;generalize World.setCell W2 _ _=W3 at *;by_cases hc:P.c=76
     ·have HC:=j7lb hc
      clear hc;have h12:(mo P.c == 12)=true:=by rw [mo_ne 76 P.c (by decide) 12 (by decide +kernel)];simpa using HC.out
      have cm:=(HJ3.out.get (HLE.out _) HAL.out (j:=0) rfl).1;simp only [Nat.add_zero] at cm;haveI:=HJ3.out.old;have HPAR:=j7lb fun W=>zjq s (z:=(P.fr:Int)+1) (P.fr+1) (by omega) W (by omega) (by have:=HFR.out;omega);have HFIN:=j7lb (fin_l (s:=s) HC.out);have hpn:paramN s (P.fr+1)≤30001:=by have:=zb1 s (P.fr+1);have:=HFR.out;omega
      generalize paramN s (P.fr+1)=pn at *;have q0:(P.fr:Int)≤30000:=by have:=HFR.out;omega
      have q1:IntKind.i64.wrap ((P.fr:Int)+1)=(P.fr:Int)+1:=IntWalk.i64_in _ (by omega);have q2:IntKind.i64.wrap ((P.fr:Int)+1+(pn:Int))=(P.fr:Int)+1+(pn:Int):=IntWalk.i64_in _ (by omega);clear hpn q0;go_wp2_with fail;clear cm;refine zn (fun W=>W.cell? ⟨g,off+i*5+1,none⟩=some (.int .i64 P.fr)) [17,20] (by kernel_rfl) ?_;have HJ3:=j7lb (HJ3.out.below (zg (Below.refl _ _)));generalize World.drew _=D at *;refine zzk (i:=0) (some 55) rfl rfl (fun _=>(HJ3.out.get (HLE.out _) HAL.out (j:=1) rfl).1) ?_
      try simp only [Act.put,zzt,zzz,zzs]
      refine zzk (i:=1) (some 56) rfl rfl (fun _=>(HJ3.out.get (HLE.out _) HAL.out (j:=1) rfl).1) ?_
      try simp only [Act.put,zzt,zzz,zzs]
      refine zzk (i:=2) (some 57) rfl rfl (fun _=>(HJ3.out.get (HLE.out _) HAL.out (j:=1) rfl).1) ?_
      try simp only [Act.put,zzt,zzz,zzs]
      refine zzk (i:=3) (some 58) rfl rfl (fun _=>(HJ3.out.get (HLE.out _) HAL.out (j:=1) rfl).1) ?_
      try simp only [Act.put,zzt,zzz,zzs]
      refine zzk (i:=4) (some 59) rfl rfl (fun _=>(HJ3.out.get (HLE.out _) HAL.out (j:=1) rfl).1) ?_
      try simp only [Act.put,zzt,zzz,zzs]
      refine zi (i:=5) [6,14,15,16,17,18,19,20] (some 60) (v:=?v5_6z9) rfl rfl (by kernel_rfl) (by kernel_rfl) (by kernel_rfl) (by kernel_rfl) (by kernel_rfl) (fun _ _ _ h=>h) (Or.inl ⟨by rfl,?y5_6z9⟩) (fun _=>(HJ3.out.get (HLE.out _) HAL.out (j:=1) rfl).1) ?r5_6z9
      case y5_6z9 =>
       intro w hSw
       (try dsimp only at hSw)
       go_split_ands
       go_simp
       try with_reducible rfl
      try simp only [Act.put,zzt,zzz,zzs]
      refine zzk (i:=6) (some 61) rfl rfl (fun _=>(HJ3.out.get (HLE.out _) HAL.out (j:=1) rfl).1) ?_
      try simp only [Act.put,zzt,zzz,zzs]
      refine zzk (i:=7) (some 62) rfl rfl (fun _=>(HJ3.out.get (HLE.out _) HAL.out (j:=1) rfl).1) ?_
      try simp only [Act.put,zzt,zzz,zzs]
      refine zzk (i:=8) (some 63) rfl rfl (fun _=>(HJ3.out.get (HLE.out _) HAL.out (j:=1) rfl).1) ?_
      try simp only [Act.put,zzt,zzz,zzs]
      refine zzk (i:=9) (some 64) rfl rfl (fun _=>(HJ3.out.get (HLE.out _) HAL.out (j:=1) rfl).1) ?_
      try simp only [Act.put,zzt,zzz,zzs]
      refine zzk (i:=10) (some 65) rfl rfl (fun _=>(HJ3.out.get (HLE.out _) HAL.out (j:=1) rfl).1) ?_
      try simp only [Act.put,zzt,zzz,zzs]
      refine zi (i:=11) [12,13,14,15,16,17,18,19,20] (some 66) (v:=?v11_12z9) rfl rfl (by kernel_rfl) (by kernel_rfl) (by kernel_rfl) (by kernel_rfl) (by kernel_rfl) (fun _ _ _ h=>h) (Or.inl ⟨by rfl,?y11_12z9⟩) (fun _=>(HJ3.out.get (HLE.out _) HAL.out (j:=1) rfl).1) ?r11_12z9
      case y11_12z9 =>
       intro w hSw
       (try dsimp only at hSw)
       go_split_ands
       go_simp
       try with_reducible rfl
      try simp only [Act.put,zzt,zzz,zzs]
      refine zzk (i:=12) (some 67) rfl rfl (fun _=>(HJ3.out.get (HLE.out _) HAL.out (j:=1) rfl).1) ?_
      try simp only [Act.put,zzt,zzz,zzs]
      refine zc (rs:=[13]) (by kernel_rfl) (by simp) ?_;refine AllReadyK.cons (i:=13) rfl (fun K hK=>?_) ?_
      ·go_simp
       go_at_call 158
       refine (HPAR.out _).mono ?_;rintro e w8 ⟨rfl,hb8⟩;have HJ3:=j7lb (HJ3.out.below hb8);clear hb8;dsimp only;refine hK.out _ _ (fun _=>(HJ3.out.get (HLE.out _) HAL.out (j:=1) rfl).1) ?_;clear hK K
       try simp only [Act.put,zzt,zzz,zzs]
       refine zzk (i:=14) (some 69) rfl rfl (fun _=>(HJ3.out.get (HLE.out _) HAL.out (j:=1) rfl).1) ?_
       try simp only [Act.put,zzt,zzz,zzs]
       refine zzk (i:=15) (some 70) rfl rfl (fun _=>(HJ3.out.get (HLE.out _) HAL.out (j:=1) rfl).1) ?_
       try simp only [Act.put,zzt,zzz,zzs]
       refine zzk (i:=16) (some 71) rfl rfl (fun _=>(HJ3.out.get (HLE.out _) HAL.out (j:=1) rfl).1) ?_
       try simp only [Act.put,zzt,zzz,zzs]
       refine zc (rs:=[17]) (by kernel_rfl) (by simp) ?_;refine AllReadyK.cons (i:=17) rfl (fun K hK=>?_) ?_
       ·haveI:=HJ3.out.old
        obtain ⟨cf,ff⟩:=HJ3.out.get (HLE.out _) HAL.out (j:=2) rfl;go_simp;have HJ4:=j7lb (HJ3.out.setAt (HLE.out _) HAL.out (j:=2) (by omega) ⟨P.c,P.fr,P.fr+1+pn,P.up,P.op⟩ (.int .i64 ((P.fr:Int)+1+(pn:Int))) (by simp [partC]));clear cf ff;generalize World.setCell w8 _ _=D at *;refine hK.out _ _ (fun h=>Bool.noConfusion ((show unl _ _=false by kernel_rfl).symm.trans h)) ?_;clear hK K
        try simp only [Act.put,zzt,zzz,zzs]
        refine zzk (i:=18) (some 72) rfl rfl (fun h=>Bool.noConfusion ((show unl _ _=false by kernel_rfl).symm.trans h)) ?_
        try simp only [Act.put,zzt,zzz,zzs]
        refine zzk (i:=19) (some 73) rfl rfl (fun h=>Bool.noConfusion ((show unl _ _=false by kernel_rfl).symm.trans h)) ?_
        try simp only [Act.put,zzt,zzz,zzs]
        refine zc (rs:=[20]) (by kernel_rfl) (by simp) ?_;refine AllReadyK.cons (i:=20) rfl (fun K hK=>?_) ?_
        ·haveI:=HJ4.out.old
         obtain ⟨cf,ff⟩:=HJ4.out.get (HLE.out _) HAL.out (j:=4) rfl;go_simp;have HJ5:=j7lb (HJ4.out.setAt (HLE.out _) HAL.out (j:=4) (by omega) ⟨P.c,P.fr,P.fr+1+pn,P.up,false⟩ (.bool false) (by simp [partC]));clear cf ff;generalize World.setCell D _ _=D at *;refine hK.out _ _ (fun h=>Bool.noConfusion ((show unl _ _=false by kernel_rfl).symm.trans h)) ?_;clear hK K
         try simp only [Act.put,zzt,zzz,zzs]
         refine zt (by kernel_rfl) ?_ _;go_wp2;have hf:=HJ5.out;rw [← HFIN.out] at hf;exact ⟨⟨i+1,_,rfl,by omega,by go_num,by rw [HRR.out,← HN.out];exact j7lb hf⟩,by simp [intOf];omega⟩
        exact AllReadyK.nil
       exact AllReadyK.nil
      exact AllReadyK.nil
     ·have HC:=j7lb hc
      clear hc;have h12:=mo_ne 76 P.c (by decide) 12 (by decide +kernel);rw [show (P.c == 76)=false by simpa using HC.out] at h12;have cm:=(HJ3.out.get (HLE.out _) HAL.out (j:=0) rfl).1;simp only [Nat.add_zero] at cm;haveI:=HJ3.out.old;go_wp2;have hf:=HJ3.out;rw [← fin_o (s:=s) HC.out HOP.out] at hf;exact ⟨⟨i+1,_,rfl,by omega,by go_num,by rw [HRR.out,← HN.out];exact j7lb hf⟩,by simp [intOf];omega⟩
    | false =>
     have HOP:=j7lb hop;have co:=(HJ2.out.get (HLE.out _) HAL.out (j:=4) rfl).1;rw [hop] at co;have c0:=HJ2.out.p.bx.c 0 _ rfl;clear hop hj hP hPe hAl hRR HJ;go_upto_region 15 with (fail);have HJ3:=HJ2;clear c0 co;by_cases hc:P.c=76
     ·have HC:=j7lb hc
      clear hc;have h12:(mo P.c == 12)=true:=by rw [mo_ne 76 P.c (by decide) 12 (by decide +kernel)];simpa using HC.out
      have cm:=(HJ3.out.get (HLE.out _) HAL.out (j:=0) rfl).1;simp only [Nat.add_zero] at cm;haveI:=HJ3.out.old;have HPAR:=j7lb fun W=>zjq s (z:=(P.fr:Int)+1) (P.fr+1) (by omega) W (by omega) (by have:=HFR.out;omega);have HFIN:=j7lb (fin_l (s:=s) HC.out);have hpn:paramN s (P.fr+1)≤30001:=by have:=zb1 s (P.fr+1);have:=HFR.out;omega
      generalize paramN s (P.fr+1)=pn at *;have q0:(P.fr:Int)≤30000:=by have:=HFR.out;omega
      have q1:IntKind.i64.wrap ((P.fr:Int)+1)=(P.fr:Int)+1:=IntWalk.i64_in _ (by omega);have q2:IntKind.i64.wrap ((P.fr:Int)+1+(pn:Int))=(P.fr:Int)+1+(pn:Int):=IntWalk.i64_in _ (by omega);clear hpn q0;go_wp2_with fail;clear cm;refine zn (fun W=>W.cell? ⟨g,off+i*5+1,none⟩=some (.int .i64 P.fr)) [17,20] (by kernel_rfl) ?_;have HJ3:=j7lb (HJ3.out.below (zg (Below.refl _ _)));generalize World.drew _=D at *;refine zzk (i:=0) (some 55) rfl rfl (fun _=>(HJ3.out.get (HLE.out _) HAL.out (j:=1) rfl).1) ?_
      try simp only [Act.put,zzt,zzz,zzs]
      refine zzk (i:=1) (some 56) rfl rfl (fun _=>(HJ3.out.get (HLE.out _) HAL.out (j:=1) rfl).1) ?_
      try simp only [Act.put,zzt,zzz,zzs]
      refine zzk (i:=2) (some 57) rfl rfl (fun _=>(HJ3.out.get (HLE.out _) HAL.out (j:=1) rfl).1) ?_
      try simp only [Act.put,zzt,zzz,zzs]
      refine zzk (i:=3) (some 58) rfl rfl (fun _=>(HJ3.out.get (HLE.out _) HAL.out (j:=1) rfl).1) ?_
      try simp only [Act.put,zzt,zzz,zzs]
      refine zzk (i:=4) (some 59) rfl rfl (fun _=>(HJ3.out.get (HLE.out _) HAL.out (j:=1) rfl).1) ?_
      try simp only [Act.put,zzt,zzz,zzs]
      refine zi (i:=5) [6,14,15,16,17,18,19,20] (some 60) (v:=?v5_6z10) rfl rfl (by kernel_rfl) (by kernel_rfl) (by kernel_rfl) (by kernel_rfl) (by kernel_rfl) (fun _ _ _ h=>h) (Or.inl ⟨by rfl,?y5_6z10⟩) (fun _=>(HJ3.out.get (HLE.out _) HAL.out (j:=1) rfl).1) ?r5_6z10
      case y5_6z10 =>
       intro w hSw
       (try dsimp only at hSw)
       go_split_ands
       go_simp
       try with_reducible rfl
      try simp only [Act.put,zzt,zzz,zzs]
      refine zzk (i:=6) (some 61) rfl rfl (fun _=>(HJ3.out.get (HLE.out _) HAL.out (j:=1) rfl).1) ?_
      try simp only [Act.put,zzt,zzz,zzs]
      refine zzk (i:=7) (some 62) rfl rfl (fun _=>(HJ3.out.get (HLE.out _) HAL.out (j:=1) rfl).1) ?_
      try simp only [Act.put,zzt,zzz,zzs]
      refine zzk (i:=8) (some 63) rfl rfl (fun _=>(HJ3.out.get (HLE.out _) HAL.out (j:=1) rfl).1) ?_
      try simp only [Act.put,zzt,zzz,zzs]
      refine zzk (i:=9) (some 64) rfl rfl (fun _=>(HJ3.out.get (HLE.out _) HAL.out (j:=1) rfl).1) ?_
      try simp only [Act.put,zzt,zzz,zzs]
      refine zzk (i:=10) (some 65) rfl rfl (fun _=>(HJ3.out.get (HLE.out _) HAL.out (j:=1) rfl).1) ?_
      try simp only [Act.put,zzt,zzz,zzs]
      refine zi (i:=11) [12,13,14,15,16,17,18,19,20] (some 66) (v:=?v11_12z10) rfl rfl (by kernel_rfl) (by kernel_rfl) (by kernel_rfl) (by kernel_rfl) (by kernel_rfl) (fun _ _ _ h=>h) (Or.inl ⟨by rfl,?y11_12z10⟩) (fun _=>(HJ3.out.get (HLE.out _) HAL.out (j:=1) rfl).1) ?r11_12z10
      case y11_12z10 =>
       intro w hSw
       (try dsimp only at hSw)
       go_split_ands
       go_simp
       try with_reducible rfl
      try simp only [Act.put,zzt,zzz,zzs]
      refine zzk (i:=12) (some 67) rfl rfl (fun _=>(HJ3.out.get (HLE.out _) HAL.out (j:=1) rfl).1) ?_
      try simp only [Act.put,zzt,zzz,zzs]
      refine zc (rs:=[13]) (by kernel_rfl) (by simp) ?_;refine AllReadyK.cons (i:=13) rfl (fun K hK=>?_) ?_
      ·go_simp
       go_at_call 158
       refine (HPAR.out _).mono ?_;rintro e w8 ⟨rfl,hb8⟩;have HJ3:=j7lb (HJ3.out.below hb8);clear hb8;dsimp only;refine hK.out _ _ (fun _=>(HJ3.out.get (HLE.out _) HAL.out (j:=1) rfl).1) ?_;clear hK K
       try simp only [Act.put,zzt,zzz,zzs]
       refine zzk (i:=14) (some 69) rfl rfl (fun _=>(HJ3.out.get (HLE.out _) HAL.out (j:=1) rfl).1) ?_
       try simp only [Act.put,zzt,zzz,zzs]
       refine zzk (i:=15) (some 70) rfl rfl (fun _=>(HJ3.out.get (HLE.out _) HAL.out (j:=1) rfl).1) ?_
       try simp only [Act.put,zzt,zzz,zzs]
       refine zzk (i:=16) (some 71) rfl rfl (fun _=>(HJ3.out.get (HLE.out _) HAL.out (j:=1) rfl).1) ?_
       try simp only [Act.put,zzt,zzz,zzs]
       refine zc (rs:=[17]) (by kernel_rfl) (by simp) ?_;refine AllReadyK.cons (i:=17) rfl (fun K hK=>?_) ?_
       ·haveI:=HJ3.out.old
        obtain ⟨cf,ff⟩:=HJ3.out.get (HLE.out _) HAL.out (j:=2) rfl;go_simp;have HJ4:=j7lb (HJ3.out.setAt (HLE.out _) HAL.out (j:=2) (by omega) ⟨P.c,P.fr,P.fr+1+pn,P.up,P.op⟩ (.int .i64 ((P.fr:Int)+1+(pn:Int))) (by simp [partC]));clear cf ff;generalize World.setCell w8 _ _=D at *;refine hK.out _ _ (fun h=>Bool.noConfusion ((show unl _ _=false by kernel_rfl).symm.trans h)) ?_;clear hK K
        try simp only [Act.put,zzt,zzz,zzs]
        refine zzk (i:=18) (some 72) rfl rfl (fun h=>Bool.noConfusion ((show unl _ _=false by kernel_rfl).symm.trans h)) ?_
        try simp only [Act.put,zzt,zzz,zzs]
        refine zzk (i:=19) (some 73) rfl rfl (fun h=>Bool.noConfusion ((show unl _ _=false by kernel_rfl).symm.trans h)) ?_
        try simp only [Act.put,zzt,zzz,zzs]
        refine zc (rs:=[20]) (by kernel_rfl) (by simp) ?_;refine AllReadyK.cons (i:=20) rfl (fun K hK=>?_) ?_
        ·haveI:=HJ4.out.old
         obtain ⟨cf,ff⟩:=HJ4.out.get (HLE.out _) HAL.out (j:=4) rfl;go_simp;have HJ5:=j7lb (HJ4.out.setAt (HLE.out _) HAL.out (j:=4) (by omega) ⟨P.c,P.fr,P.fr+1+pn,P.up,false⟩ (.bool false) (by simp [partC]));clear cf ff;generalize World.setCell D _ _=D at *;refine hK.out _ _ (fun h=>Bool.noConfusion ((show unl _ _=false by kernel_rfl).symm.trans h)) ?_;clear hK K
         try simp only [Act.put,zzt,zzz,zzs]
         refine zt (by kernel_rfl) ?_ _;go_wp2;have hf:=HJ5.out;rw [← HFIN.out] at hf;exact ⟨⟨i+1,_,rfl,by omega,by go_num,by rw [HRR.out,← HN.out];exact j7lb hf⟩,by simp [intOf];omega⟩
        exact AllReadyK.nil
       exact AllReadyK.nil
      exact AllReadyK.nil
     ·have HC:=j7lb hc
      clear hc;have h12:=mo_ne 76 P.c (by decide) 12 (by decide +kernel);rw [show (P.c == 76)=false by simpa using HC.out] at h12;have cm:=(HJ3.out.get (HLE.out _) HAL.out (j:=0) rfl).1;simp only [Nat.add_zero] at cm;haveI:=HJ3.out.old;go_wp2;have hf:=HJ3.out;rw [← fin_n (s:=s) HC.out HOP.out] at hf;exact ⟨⟨i+1,_,rfl,by omega,by go_num,by rw [HRR.out,← HN.out];exact j7lb hf⟩,by simp [intOf];omega⟩
   ·have hi':i=L.length:=by omega
    subst hi';have hj:=HJ.out;rw [List.take_length,List.drop_length,List.append_nil] at hj;have HJ2:=j7lb hj;clear hj HJ;have c0:=HJ2.out.p.bx.c 0 _ rfl
    haveI:Old W2 wb:=⟨HJ2.out.p.bx.lt⟩
    go_wp2;go_ret;exact ⟨_,rfl,HJ2.out.p.ol,HJ2.out.be⟩
end Go.Proofs.YtjcdmjdofdnaoaaGreatDoor.Pa
