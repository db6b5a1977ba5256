/-
  Slices of the call's own, appended to: one law for nil, empty and other slices, whatever room there is. No program in sight.
-/
import Derived.Test.YtjcdmjdofdnaoaaGreatDoorRows
import Derived.Test.YtjcdmjdofdnaoaaGreatDoorBase
import Derived.ProofKit
import Derived.OpenShut
import Derived.ShutString
import Derived.Test.YtjcdmjdofdnaoaaGreatDoorTie
import Derived.Test.YtjcdmjdofdnaoaaGreatDoorCards
import Derived.HandedShaped
import Derived.LaidMore
import Derived.Lay
import Derived.SevenTiedAt
import Derived.Stop.Joined
import Derived.Deep.Slices
import Derived.ChangeSame
import Derived.ArgAppend
import Derived.Laws.AppendOwnNone
import Derived.Maps.AppendAt
import Derived.Laws.IdiomCopy
import Derived.OwnWalk
import Derived.Deep.Upon
import Derived.Deep.MidRow
set_option linter.unusedSimpArgs false
set_option linter.unusedVariables false
namespace Go.Proofs.YtjcdmjdofdnaoaaGreatDoor
open Go.ChangeShapes Go.WideShapes Go.ChangeAt Go.RowKit
theorem own:ownKnob Tryz.prog.godebug=none:=by kernel_rfl
theorem laidOut:laidOutB Tryz.prog=true:=by kernel_rfl
section
variable {H : Type} {enc : TypeId × Value → H} {P : Program}
theorem zd9 (hl:laidOutB P=true) {W W':World} (hb:Below W.heap.size W W'):∀ {ts:List TypeId} {vs:List Value} {ds:List (DataW H)} {ps:List MemPlace},
  (ts.all fun t=>P.readableRec t && decide (t<P.types.size))=true→DataW.TrodAll enc P W 0 (fun _=>true) true ts vs ds ps→(∀ x∈ps,x.block<W.heap.size) →
  DataW.TrodAll enc P W' 0 (fun b=>decide (b<W.heap.size)) true ts vs ds ps
 | [],[],[],_,_,h,_=>h
 | _ :: _,_ :: _,_ :: _,_,ht,⟨p,q,h1,h2,e⟩,hlt=>by
  simp only [List.all_cons,Bool.and_eq_true,decide_eq_true_eq] at ht;refine ⟨p,q,Below.trod hl ht.1.1 ht.1.2 h1 hb (fun x hx=>hlt x (by rw [e];exact List.mem_append_left _ hx)),zd9 hl hb (by simpa using ht.2) h2 (fun x hx=>hlt x (by rw [e];exact List.mem_append_right _ hx)),e⟩
theorem law_post {f:Func} {s:ChangeSpec} {W W':World} {args:Array Value} {ds:List (DataW H)} {before:List MemPlace} {tb:TypeId}
  (hl:laidOutB P=true) (hts:(f.params.toList.all fun t=>P.readableRec t && decide (t<P.types.size))=true) (hrt:f.resultTypes = #[tb]) (htb:P.underlying tb=some .bool)
  (hvs:s.vars=[]) (hfn:s.fn H (ds++[]) = { results:=[.lit (.bool true)],args:=ds })
  (hW:DataW.Whole enc P f.params.toList s.vars false W args.toList ds [] before) (hb:Below W.heap.size W W') :
  s.post enc P f false true false false W args (.bool true) W':=by
 have hW':=hW;obtain ⟨p,q,hA,hV,rfl,_,_⟩:=hW;rw [hvs] at hV;obtain rfl:q=[]:=hV;have hlt:∀ x∈p,x.block<W.heap.size:=fun x hx=>by simpa using hW'.lt x (List.mem_append_left _ hx)
 refine ⟨ds,[],_,[],p,[],hW',?_,?_,?_,hb.frame _,fun h=>Bool.noConfusion h⟩
 ·rw [hfn,hrt]
  exact trodAll_cons_mk (shut_bool htb true) trodAll_mk0
 ·rw [hfn]
  exact zd9 hl hb hts hA hlt
 ·rw [hfn,hvs]
  exact rfl
end
theorem zb4 {H:Type} {enc:TypeId×Value→H} {a:Assume} {C:Checked} {os:Os} {f:FuncId} {fn:Func} {s:ChangeSpec} {conds:List PathCond} {apart fresh handsOn again:Bool} {X:World→Array Value→Prop}
  (own:ownKnob C.prog.godebug=none) (started:os.Started) (noInit:C.prog.inits.idxOf? f=none) (hfn:C.prog.funcs[f]?=some fn)
  (witness:∃ (w:World) (tape:Tape) (i:Input),w.os=os∧(w.forCall tape i).Shaped C.prog∧i.vars=[]∧Input.okWide C.prog (w.forCall tape i) .any w.heap.size f i ∧
   ((s.pre enc C.prog fn conds apart (w.forCall tape i).memory i.args∧X (w.forCall tape i).memory i.args)∧sizedMet enc C.prog fn (OpenSpec.ofChange s) apart (w.forCall tape i).memory i.args)∧a.holds C.prog (lone (Frame.enter C.prog f i.args .normal) [] (w.forCall tape i)))
  (contract:∀ (W:World) (base:Nat) (args:Array Value) (ds gs:List (DataW H)) (before:List MemPlace),
   (∀ (j:Nat) t v,fn.params[j]?=some t→args[j]?=some v→Value.okWide C.prog W .any base t v) →
   DataW.Whole enc C.prog fn.params.toList s.vars apart W args.toList ds gs before →
   W.ShapedOpen C.prog →
   Calls C.prog f args W fun e W'=>∃ v,e = .returned v∧s.post enc C.prog fn apart fresh handsOn again W args v W') :
  ReturnsInHanded a C os f .any (fun w args=>(s.pre enc C.prog fn conds apart w args∧X w args)∧sizedMet enc C.prog fn (OpenSpec.ofChange s) apart w args) (s.post enc C.prog fn apart fresh handsOn again):=by
 refine returnsInHanded_of_calls own started noInit witness ?_;intro w tape i _ hsh _ hok hpre hholds;obtain ⟨_,_,_,fn',hfn',_,_,_,_,hval⟩:=hok;have e:fn'=fn:=Option.some.inj (hfn'.symm.trans hfn);subst e;obtain ⟨⟨⟨ds,gs,before,hw,hc⟩,hx⟩,hz⟩:=hpre;have hw':=DataW.Whole.of_heap (w':=w.forCall tape i) (by rfl) hw;refine (contract (w.forCall tape i) w.heap.size i.args ds gs before hval hw' hsh).mono fun e W' ⟨v,he,hp⟩=>?_;subst he;exact ChangeSpec.post_blind hp
open Go.ChangeShapes Go.WideShapes Go.Deep Go.RowKit
def Sl (w:World) {α : Type} (en : α → List Value) (sz:Nat) (v:Value) (xs:List α):Prop :=
 ∃ A c,v = .slice A xs.length c∧xs.length≤c∧c≤9223372036854775807∧(A=none→c=0)∧(0<xs.length→∃ b off,A=some ⟨b,off,none⟩∧b<w.heap.size∧∀ k x,xs[k]?=some x→∀ j u,(en x)[j]?=some u→w.cell? ⟨b,off+k*sz+j,none⟩=some u)
section
variable {w w' : World} {α : Type} {en : α → List Value} {sz : Nat} {v : Value} {xs : List α}
theorem Sl.below (h:Sl w en sz v xs) (hb:Below w.heap.size w w'):Sl w' en sz v xs:=by
 obtain ⟨A,c,h1,h2,h3,hn,h4⟩:=h;refine ⟨A,c,h1,h2,h3,hn,fun h=>?_⟩;obtain ⟨b,off,e,hlt,hc⟩:=h4 h;exact ⟨b,off,e,Nat.lt_of_lt_of_le hlt hb.size,fun k x hk j u hj=>(hb.cell (p:=⟨b,_,none⟩) hlt).trans (hc k x hk j u hj)⟩
theorem Sl.nil (w:World) (en : α → List Value) (sz:Nat):Sl w en sz (.slice none 0 0) ([]:List α):=⟨none,0,rfl,by simp,by simp,fun _=>rfl,by simp⟩
end
theorem Sl.kept {w w':World} {α : Type} {en : α → List Value} {sz:Nat} {v:Value} {xs:List α} {row:Option Nat} (h:Sl w en sz v xs) (hg:w.grownBy w' row) (hne:v.ownBlock≠row∨v.ownBlock=none):Sl w' en sz v xs:=by
 obtain ⟨A,c,h1,h2,h3,hn,h4⟩:=h;refine ⟨A,c,h1,h2,h3,hn,fun h=>?_⟩;obtain ⟨b,off,e,hlt,hc⟩:=h4 h
 have hb:w'.heap[b]?=w.heap[b]?:=hg.block b hlt (by
  subst e;subst h1;rcases hne with hne|hne
  ·simpa [Value.ownBlock] using hne
  ·simp [Value.ownBlock] at hne)
 exact ⟨b,off,e,Nat.lt_of_lt_of_le hlt hg.size,fun k x hk j u hj=>(World.cell?_of_block (w:=w) hb).trans (hc k x hk j u hj)⟩
theorem zgj {w:World} {α : Type} {en : α → List Value} {sz b:Nat}:∀ (xs:List α) (off:Nat),(∀ x∈xs,(en x).length=sz)→(∀ k x,xs[k]?=some x→∀ j u,(en x)[j]?=some u→w.cell? ⟨b,off+k*sz+j,none⟩=some u) →
  ∀ j u,(xs.flatMap en)[j]?=some u→w.cell? ⟨b,off+j,none⟩=some u
 | [],_,_,_,j,u,h=>by simp at h
 | y :: ys,off,hen,hc,j,u,h=>by
  simp only [List.flatMap_cons] at h;have hy:=hen y (by simp);by_cases hj:j<sz
  ·rw [List.getElem?_append_left (by omega)] at h
   have:=hc 0 y (by simp) j u h
   simpa using this
  ·rw [List.getElem?_append_right (by omega),hy] at h
   have:=zgj ys (off+sz) (fun x hx=>hen x (by simp [hx])) (fun k x hk j u hj=>by
    have:=hc (k+1) x (by simpa using hk) j u hj
    rwa [Nat.add_mul,Nat.one_mul,show off+(k*sz+sz)+j=off+sz+k*sz+j by omega] at this) (j - sz) u h
   rwa [show off+sz+(j - sz)=off+j by omega] at this
theorem list_of {α : Type} {R:Nat → α → Prop} (n:Nat) (h:∀ i,i<n→∃ x,R i x):∃ xs:List α,xs.length=n∧∀ k x,xs[k]?=some x→R k x:=by
 induction n with
 | zero=>exact ⟨[],rfl,fun k x h=>by simp at h⟩
 | succ n ih =>
  obtain ⟨xs,hl,hx⟩:=ih fun i hi=>h i (by omega);obtain ⟨y,hy⟩:=h n (by omega);refine ⟨xs++[y],by simp [hl],fun k x hk=>?_⟩;by_cases hkn:k<n
  ·rw [List.getElem?_append_left (by omega)] at hk
   exact hx k x hk
  ·rw [List.getElem?_append_right (by omega)] at hk
   have:k - xs.length=0:=by
    rcases Nat.eq_zero_or_pos (k - xs.length) with h|h
    ·exact h
    ·rw [List.getElem?_eq_none (by simp;omega)] at hk;cases hk
   rw [this] at hk;have e:k=n:=by omega
   simp at hk;rw [e,← hk];exact hy
section
variable {H : Type} {enc : TypeId × Value → H} {P : Program} {w : World}
end
def Own (w:World) (b0 sz:Nat) (v:Value) (n:Nat) (xs:List Value):Prop :=
 xs.length=n*sz∧((n=0∧(v = .slice none 0 0∨∃ g off,v = .slice (some ⟨g,off,none⟩) 0 0∧g<w.heap.size)) ∨
  ∃ g off c,v = .slice (some ⟨g,off,none⟩) n c∧b0≤g∧g<w.heap.size∧n≤c∧c≤maxLen ∧
   (∀ j,j<c*sz→(w.cell? ⟨g,off+j,none⟩).isSome=true∧w.frozen? ⟨g,off+j,none⟩=false) ∧
   ∀ j u,xs[j]?=some u→w.cell? ⟨g,off+j,none⟩=some u)
theorem Own.nil (w:World) (b0 sz:Nat):Own w b0 sz (.slice none 0 0) 0 []:=⟨by simp,.inl ⟨rfl,.inl rfl⟩⟩
theorem Own.none_ (w:World) (b0 sz g off:Nat) (h:g<w.heap.size):Own w b0 sz (.slice (some ⟨g,off,none⟩) 0 0) 0 []:=⟨by simp,.inl ⟨rfl,.inr ⟨g,off,rfl,h⟩⟩⟩
theorem Own.lt {w:World} {b0 sz n:Nat} {v:Value} {xs:List Value} (h:Own w b0 sz v n xs):∀ k,v.ownBlock=some k→k<w.heap.size:=by
 intro k hk;rcases h.2 with ⟨_,rfl|⟨g,off,rfl,hg⟩⟩|⟨g,off,c,rfl,_,hg,_⟩
 ·cases hk
 ·cases hk;exact hg
 ·cases hk;exact hg
theorem Own.of_row {w:World} {b0 base e sz n:Nat} {v:Value} {xs:List Value} (h:w.ownsRow base e sz v n xs) (hb:b0≤base):Own w b0 sz v n xs:=by
 obtain ⟨h1,h2⟩:=h;refine ⟨h1,?_⟩;rcases h2 with ⟨rfl,rfl⟩|⟨g,c,cur,rfl,hg,hh,hn,hc,hs,ht⟩
 ·exact .inl ⟨rfl,.inl rfl⟩
 ·have hlt:g<w.heap.size:=by
   rcases Nat.lt_or_ge g w.heap.size with h|h
   ·exact h
   ·rw [Array.getElem?_eq_none h] at hh;cases hh
  have hcell:∀ j,w.cell? ⟨g,j,none⟩=cur[j]?:=fun j=>by simp [World.cell?,hh]
  refine .inr ⟨g,0,c,rfl,by omega,hlt,hn,hc,fun j hj=>⟨?_,?_⟩,fun j u hj=>?_⟩
  ·rw [hcell,Nat.zero_add,Array.getElem?_eq_getElem (by omega)];rfl
  ·simp [World.frozen?,hh]
  ·rw [hcell,Nat.zero_add]
   rw [← ht] at hj;rw [List.getElem?_take] at hj
   split at hj
   ·simpa using hj
   ·cases hj
theorem Own.form {w:World} {b0 sz n:Nat} {v:Value} {xs:List Value} (h:Own w b0 sz v (n+1) xs):∃ g off c,v = .slice (some ⟨g,off,none⟩) (n+1) c∧b0≤g∧g<w.heap.size∧n+1≤c∧c≤9223372036854775807:=by
 rcases h.2 with ⟨h0,_⟩|⟨g,off,c,e,h1,h2,h3,h4,_⟩
 ·omega
 ·exact ⟨g,off,c,e,h1,h2,h3,by unfold maxLen at h4;omega⟩
theorem Own.form' {w:World} {b0 sz n:Nat} {v:Value} {xs:List Value} (h:Own w b0 sz v n xs) (hn:0<n):∃ g off c,v = .slice (some ⟨g,off,none⟩) n c∧b0≤g∧g<w.heap.size∧n≤c∧c≤9223372036854775807:=by
 obtain ⟨m,rfl⟩:∃ m,n=m+1:=⟨n - 1,by omega⟩
 exact h.form
theorem Own.mono {w:World} {b0 b1 sz n:Nat} {v:Value} {xs:List Value} (h:Own w b0 sz v n xs) (hb:b1≤b0):Own w b1 sz v n xs:=by
 refine ⟨h.1,?_⟩;rcases h.2 with h|⟨g,off,c,e,hg,r⟩
 ·exact .inl h
 ·exact .inr ⟨g,off,c,e,by omega,r⟩
theorem Own.kept {w w':World} {b0 sz n:Nat} {v:Value} {xs:List Value} {row:Option Nat} (h:Own w b0 sz v n xs) (hg:w.grownBy w' row) (hne:v.ownBlock≠row∨v.ownBlock=none):Own w' b0 sz v n xs:=by
 refine ⟨h.1,?_⟩;rcases h.2 with ⟨h0,h⟩|⟨g,off,c,rfl,h1,h2,h3,h4,h5,h6⟩
 ·exact .inl ⟨h0,h.imp id fun ⟨g,off,e,hlt⟩=>⟨g,off,e,Nat.lt_of_lt_of_le hlt hg.size⟩⟩
 ·have hb:w'.heap[g]?=w.heap[g]?:=hg.block g h2 (by
   rcases hne with hne|hne
   ·simpa [Value.ownBlock] using hne
   ·simp [Value.ownBlock] at hne)
  have hc:∀ j,w'.cell? ⟨g,j,none⟩=w.cell? ⟨g,j,none⟩:=fun j=>World.cell?_of_block (w:=w) hb;have hf:∀ j,w'.frozen? ⟨g,j,none⟩=w.frozen? ⟨g,j,none⟩:=fun j=>World.frozen?_of_block (w:=w) hb;exact .inr ⟨g,off,c,rfl,h1,Nat.lt_of_lt_of_le h2 hg.size,h3,h4,fun j hj=>by rw [hc,hf];exact h5 j hj,fun j u hj=>by rw [hc];exact h6 j u hj⟩
theorem za8 {w w':World} (h:Below w.heap.size w w') (row:Option Nat):w.grownBy w' row:=⟨h.os,h.tape,h.output,h.size,fun k hk _=>h.block k hk⟩
theorem Own.below {w w':World} {b0 sz n:Nat} {v:Value} {xs:List Value} (h:Own w b0 sz v n xs) (hb:Below w.heap.size w w'):Own w' b0 sz v n xs:=by
 by_cases hv:v.ownBlock=none
 ·exact h.kept (za8 hb (some 0)) (.inr hv)
 ·exact h.kept (za8 hb none) (.inl hv)
theorem Own.sl {w:World} {b0 sz n:Nat} {v:Value} {α : Type} {en : α → List Value} {xs:List α} (h:Own w b0 sz v n (xs.flatMap en)) (hen:∀ x∈xs,(en x).length=sz) (hl:xs.length=n):Sl w en sz v xs:=by
 subst hl
 have hcell:∀ (xs:List α) (_:∀ x∈xs,(en x).length=sz) k x,xs[k]?=some x→∀ j u,(en x)[j]?=some u→(xs.flatMap en)[k*sz+j]?=some u:=by
  intro xs
  induction xs with
  | nil=>intro _ k x hk;simp at hk
  | cons y ys ih =>
   intro hen k x hk j u hj;simp only [List.flatMap_cons]
   cases k with
   | zero =>
    simp only [List.getElem?_cons_zero,Option.some.injEq] at hk;subst hk;have hjl:j<(en y).length:=(List.getElem?_eq_some_iff.1 hj).1;rw [List.getElem?_append_left (by omega),Nat.zero_mul,Nat.zero_add];exact hj
   | succ k =>
    have hy:=hen y (by simp);have e:(k+1)*sz+j=sz+(k*sz+j):=by rw [Nat.add_mul];omega
    rw [List.getElem?_append_right (by omega),e,hy,Nat.add_sub_cancel_left];exact ih (fun x hx=>hen x (by simp [hx])) k x (by simpa using hk) j u hj
 rcases h.2 with ⟨h0,hv⟩|⟨g,off,c,rfl,h1,h2,h3,h4,h5,h6⟩
 ·rcases hv with rfl|⟨g,off,rfl,hglt⟩
  ·exact ⟨none,0,by rw [h0],by omega,by omega,fun _=>rfl,fun h=>by omega⟩
  ·exact ⟨some ⟨g,off,none⟩,0,by rw [h0],by omega,by omega,(fun h=>by cases h),fun h=>by omega⟩
 ·exact ⟨some ⟨g,off,none⟩,c,rfl,h3,by unfold maxLen at h4;omega,(fun h=>by cases h),fun _=>⟨g,off,rfl,h2,fun k x hk j u hj=>by
   have:=h6 _ u (hcell xs hen k x hk j u hj)
   rwa [← Nat.add_assoc] at this⟩⟩
def tyOf (w:World) (k:Nat):Option TypeId:=match w.heap[k]? with
 | some (.cells _ t _)=>some t
 | _=>none
theorem zf {w w':World} {k:Nat} (h:w'.heap[k]?=w.heap[k]?):tyOf w' k=tyOf w k:=by unfold tyOf;rw [h]
theorem zaf (w:World) (a:Addr) (v:Value) (k:Nat):tyOf (w.setCell a v) k=tyOf w k:=by
 by_cases h:k=a.block
 ·subst h
  unfold tyOf World.setCell;simp only [Array.getElem?_modify,if_true]
  cases hh:w.heap[a.block]? with
  | none=>simp
  | some o=>cases o <;> simp
 ·exact zf (Below.heap_setCell _ _ _ _ h)
theorem zac (w:World) (cs:Array Value) (t:TypeId):tyOf (w.alloc (.cells cs t)) w.heap.size=some t:=by
 unfold tyOf;rw [heap_alloc_new]
theorem z7 (w:World) (o:Obj) (k:Nat) (h:k<w.heap.size):tyOf (w.alloc o) k=tyOf w k:=zf (zu w o k h)
structure Keeps (F:Nat→Prop) (w w':World):Prop where
 os:w'.os=w.os
 tape:w'.tape=w.tape
 output:w'.output=w.output
 size:w.heap.size≤w'.heap.size
 block:∀ k,k<w.heap.size→¬ F k→w'.heap[k]?=w.heap[k]?
 ty:∀ k,k<w.heap.size→tyOf w' k=tyOf w k
theorem Keeps.refl (F:Nat→Prop) (w:World):Keeps F w w:=⟨rfl,rfl,rfl,Nat.le_refl _,fun _ _ _=>rfl,fun _ _=>rfl⟩
theorem Keeps.trans {F:Nat→Prop} {a b c:World} (h:Keeps F a b) (k:Keeps F b c):Keeps F a c :=
 ⟨k.os.trans h.os,k.tape.trans h.tape,k.output.trans h.output,Nat.le_trans h.size k.size,fun i hi hf=>(k.block i (Nat.lt_of_lt_of_le hi h.size) hf).trans (h.block i hi hf),fun i hi=>(k.ty i (Nat.lt_of_lt_of_le hi h.size)).trans (h.ty i hi)⟩
theorem Keeps.of_below {F:Nat→Prop} {w w':World} (h:Below w.heap.size w w'):Keeps F w w':=⟨h.os,h.tape,h.output,h.size,fun k hk _=>h.block k hk,fun k hk=>zf (h.block k hk)⟩
theorem Keeps.of_grown {F:Nat→Prop} {w w':World} {row:Option Nat} (h:w.grownBy w' row) (hr:∀ k,row≠some k):Keeps F w w' :=
 ⟨h.os,h.tape,h.output,h.size,fun k hk _=>h.block k hk (fun e=>hr k e.symm),fun k hk=>zf (h.block k hk (fun e=>hr k e.symm))⟩
theorem Keeps.setCell {F:Nat→Prop} (w:World) {a:Addr} (ha:F a.block) (v:Value):Keeps F w (w.setCell a v) :=
 ⟨rfl,rfl,rfl,by simp [World.setCell],fun k _ hf=>Below.heap_setCell _ _ _ _ (fun e=>hf (by rw [e];exact ha)),fun k _=>zaf w a v k⟩
theorem Keeps.below {F:Nat→Prop} {w w':World} {n:Nat} (h:Keeps F w w') (hn:n≤w.heap.size) (hF:∀ k,F k→n≤k):Below n w w' :=
 ⟨h.os,h.tape,h.output,h.size,fun k hk=>h.block k (by omega) (fun f=>by have:=hF k f;omega)⟩
theorem Keeps.mono {F G:Nat→Prop} {w w':World} (h:Keeps F w w') (hFG:∀ k,k<w.heap.size→F k→G k):Keeps G w w' :=
 ⟨h.os,h.tape,h.output,h.size,fun k hk hg=>h.block k hk (fun f=>hg (hFG k hk f)),h.ty⟩
theorem Sl.keeps {F:Nat→Prop} {w w':World} {α : Type} {en : α → List Value} {sz:Nat} {v:Value} {xs:List α} (h:Sl w en sz v xs) (hk:Keeps F w w') (hne:∀ k,v.ownBlock=some k→k<w.heap.size→¬ F k):Sl w' en sz v xs:=by
 obtain ⟨A,c,h1,h2,h3,hn,h4⟩:=h;refine ⟨A,c,h1,h2,h3,hn,fun h=>?_⟩;obtain ⟨b,off,e,hlt,hc⟩:=h4 h;have hb:w'.heap[b]?=w.heap[b]?:=hk.block b hlt (hne b (by rw [h1,e];rfl) hlt);exact ⟨b,off,e,Nat.lt_of_lt_of_le hlt hk.size,fun k x hk j u hj=>(World.cell?_of_block (w:=w) hb).trans (hc k x hk j u hj)⟩
theorem Own.keeps {F:Nat→Prop} {w w':World} {b0 sz n:Nat} {v:Value} {xs:List Value} (h:Own w b0 sz v n xs) (hk:Keeps F w w') (hne:∀ k,v.ownBlock=some k→k<w.heap.size→¬ F k):Own w' b0 sz v n xs:=by
 refine ⟨h.1,?_⟩;rcases h.2 with ⟨h0,h⟩|⟨g,off,c,rfl,h1,h2,h3,h4,h5,h6⟩
 ·exact .inl ⟨h0,h.imp id fun ⟨g,off,e,hlt⟩=>⟨g,off,e,Nat.lt_of_lt_of_le hlt hk.size⟩⟩
 ·have hb:w'.heap[g]?=w.heap[g]?:=hk.block g h2 (hne g rfl h2)
  have hc:∀ j,w'.cell? ⟨g,j,none⟩=w.cell? ⟨g,j,none⟩:=fun j=>World.cell?_of_block (w:=w) hb;have hf:∀ j,w'.frozen? ⟨g,j,none⟩=w.frozen? ⟨g,j,none⟩:=fun j=>World.frozen?_of_block (w:=w) hb;exact .inr ⟨g,off,c,rfl,h1,Nat.lt_of_lt_of_le h2 hk.size,h3,h4,fun j hj=>by rw [hc,hf];exact h5 j hj,fun j u hj=>by rw [hc];exact h6 j u hj⟩
theorem zea (w:World) (g o:Nat) (vs:List Value) (k:Nat):tyOf (w.setCells g o vs) k=tyOf w k:=by
 induction vs generalizing w o with
 | nil=>rfl
 | cons v vs ih=>unfold World.setCells;rw [ih];exact zaf w _ v k
theorem zdy {w:World} {base e sz n k:Nat} {v:Value} {xs:List Value} (h:w.ownsRow base e sz v n xs) (hk:v.ownBlock=some k):tyOf w k=some e:=by
 rcases h.2 with ⟨rfl,_⟩|⟨g,c,cur,rfl,_,hh,_⟩
 ·cases hk
 ·simp [Value.ownBlock] at hk
  subst hk;unfold tyOf;rw [hh]
def TyS (w:World) (v:Value) (e:TypeId):Prop:=∀ k,v.ownBlock=some k→tyOf w k=some e
theorem TyS.append {F:Nat→Prop} {w w':World} {v v':Value} {e:TypeId} (h:TyS w v e) (hlt:∀ k,v.ownBlock=some k→k<w.heap.size) (hk:Keeps F w w') (hat:v'.ownBlock=v.ownBlock∨∀ k,v'.ownBlock=some k→w.heap.size≤k)
  (hty:∀ k,v'.ownBlock=some k→w.heap.size≤k→tyOf w' k=some e):TyS w' v' e:=by
 intro k hv;rcases hat with e1|e1
 ·rw [e1] at hv;rw [hk.ty k (hlt k hv)];exact h k hv
 ·exact hty k hv (e1 k hv)
theorem TyS.keeps {F:Nat→Prop} {w w':World} {v:Value} {e:TypeId} (h:TyS w v e) (hlt:∀ k,v.ownBlock=some k→k<w.heap.size) (hk:Keeps F w w'):TyS w' v e:=fun k hv=>(hk.ty k (hlt k hv)).trans (h k hv)
theorem World.size_setCells (w:World) (g o:Nat) (vs:List Value):(w.setCells g o vs).heap.size=w.heap.size:=by
 induction vs generalizing w o with
 | nil=>rfl
 | cons v vs ih=>unfold World.setCells;rw [ih];simp [World.setCell]
theorem World.tape_setCells (w:World) (g o:Nat) (vs:List Value):(w.setCells g o vs).tape=w.tape:=by
 induction vs generalizing w o with
 | nil=>rfl
 | cons v vs ih=>unfold World.setCells;rw [ih];simp [World.setCell]
section
variable {P : Program} (w : World)
theorem zgk (b0 t ty e:Nat) (i:TypeInfo) (z:Value) (sz bytes:Nat) (ht:P.underlying t=some (.slice e)) (hi:P.info? e=some i) (hz:i.zero=some z)
  (hsize:i.size=sz) (hby:i.bytes=bytes) (hzs:z.cells.size=sz) (hsz:0<sz)
  (v:Value) (n:Nat) (xs:List Value) (hown:Own w b0 sz v n xs)
  (a:Addr) (m c:Nat) (news:List Value) (hl:news.length=m*sz) (hnews:∀ j u,news[j]?=some u→w.cell? (a.add j)=some u) (h1:∀ u∈news,u.oneCell'=true)
  (h63:n+m≤maxLen) (hbytes:(n+m)*bytes≤140737488355328) (hb:b0≤w.heap.size) :
  ∃ v' w',(Builtin.append_ #[t,t] ty #[v,.slice (some a) m c]).run P w = .ok v' w'∧Own w' b0 sz v' (n+m) (xs++news)∧Keeps (fun k=>v.ownBlock=some k∧b0≤k) w w' ∧
   (v'.ownBlock=v.ownBlock∨∀ k,v'.ownBlock=some k→w.heap.size≤k)∧(∀ k,v'.ownBlock=some k→w.heap.size≤k→tyOf w' k=some e):=by
 have hxl:=hown.1;rcases hown.2 with ⟨rfl,hv⟩|⟨g,off,c',rfl,g1,g2,g3,g4,g5,g6⟩
 ·obtain rfl:xs=[]:=List.eq_nil_of_length_eq_zero (by simpa using hxl)
  rcases hv with rfl|⟨g,off,rfl,hglt⟩
  ·obtain ⟨v',w',hr,ho,hg,_,h5⟩:=run_append_own_at (P:=P) w b0 t ty e i z sz bytes ht hi hz hsize hby hzs hsz (.slice none 0 0) 0 [] (World.ownsRow_nil w b0 e sz) a m c news hl hnews h1 h63 hbytes hb
   exact ⟨v',w',hr,Own.of_row ho (Nat.le_refl _),Keeps.of_grown hg (fun k hk=>by cases hk),h5.imp id (fun h k hk=>by rw [h] at hk;simp at hk;omega),fun k hk _=>zdy ho hk⟩
  ·rcases Nat.eq_zero_or_pos m with rfl|hm
   ·obtain rfl:news=[]:=List.eq_nil_of_length_eq_zero (by simpa using hl)
    have hr:=run_append_room_cells (P:=P) w t ty e i ht hi g off 0 0 a 0 c [] (by simp) (by simp) (by simp) (by simp) (by simp) (by simp);exact ⟨_,_,hr,Own.none_ _ _ _ _ _ hglt,Keeps.refl _ _,.inl rfl,fun k hk h=>by simp [Value.ownBlock] at hk;omega⟩
   ·obtain ⟨v',w',hr,ho,hg⟩:=run_append_arg_grows (P:=P) w t ty e i z sz bytes ht hi hz hsize hby hzs hsz ⟨g,off,none⟩ 0 0 [] (by simp) (by simp) a m c news hl hnews (by omega) h63 hbytes
    exact ⟨v',w',hr,Own.of_row ho hb,Keeps.of_grown hg (fun k hk=>by cases hk),.inr (fun k hk=>(ho.lt k hk).1),fun k hk _=>zdy ho hk⟩
 ·by_cases hroom:n+m≤c'
  ·have hcs:∀ j,j<news.length→j+n*sz<c'*sz:=fun j hj=>by
    have:=Nat.mul_le_mul_right sz hroom;rw [Nat.add_mul] at this;omega
   have hsome:∀ j,j<news.length→(w.cell? ⟨g,off+n*sz+j,none⟩).isSome=true:=fun j hj=>by
    have:=(g5 (j+n*sz) (hcs j hj)).1
    rwa [show off+(j+n*sz)=off+n*sz+j by omega] at this
   have hr:=run_append_room_cells (P:=P) w t ty e i ht hi g off n c' a m c news (by rw [hsize];exact hl) hnews h1 hroom (fun j hj=>by rw [hsize];exact hsome j hj) (fun j hj=>by
    rw [hsize];have:=(g5 (j+n*sz) (hcs j hj)).2
    rwa [show off+(j+n*sz)=off+n*sz+j by omega] at this)
   rw [hsize] at hr;have hsz':(w.setCells g (off+n*sz) news).heap.size=w.heap.size:=World.size_setCells _ _ _ _;refine ⟨_,_,hr,⟨by rw [List.length_append,hxl,hl,Nat.add_mul],.inr ⟨g,off,c',rfl,g1,by rw [hsz'];exact g2,hroom,g4,fun j hj=>⟨?_,?_⟩,fun j u hj=>?_⟩⟩,?_,.inl rfl,fun k hk h=>by simp [Value.ownBlock] at hk;omega⟩
   ·exact World.isSome_setCells g news _ w _ (g5 j hj).1
   ·rw [World.frozen?_setCells];exact (g5 j hj).2
   ·by_cases hjx:j<xs.length
    ·rw [List.getElem?_append_left hjx] at hj
     rw [World.cell?_setCells_out g news _ w _ (fun _ _=>.inl (by dsimp only;omega))];exact g6 j u hj
    ·rw [List.getElem?_append_right (by omega)] at hj
     have hjl:=(List.getElem?_eq_some_iff.1 hj).1;have:=World.cell?_setCells_in g news (off+n*sz) w hsome (j - xs.length) hjl;rw [show off+n*sz+(j - xs.length)=off+j by omega] at this;rw [this,← hj];simp [List.getElem?_eq_getElem hjl]
   ·refine ⟨World.os_setCells w g _ news,?_,World.output_setCells w g _ news,by rw [hsz'];exact Nat.le_refl _,fun k hk hne=>World.heap_setCells_other w g _ news hk (fun e=>hne ⟨by rw [e];rfl,by omega⟩),fun k _=>zea w g _ news k⟩
    exact World.tape_setCells w g _ news
  ·obtain ⟨v',w',hr,ho,hg⟩:=run_append_arg_grows (P:=P) w t ty e i z sz bytes ht hi hz hsize hby hzs hsz ⟨g,off,none⟩ n c' xs hxl (fun j u hj=>by rw [add_plain];exact g6 j u hj) a m c news hl hnews (by omega) h63 hbytes
   exact ⟨v',w',hr,Own.of_row ho hb,Keeps.of_grown hg (fun k hk=>by cases hk),.inr (fun k hk=>(ho.lt k hk).1),fun k hk _=>zdy ho hk⟩
def Src (w:World) (x:Value) (m:Nat) (news:List Value):Prop :=
 ∃ A c,x = .slice A m c∧((A=none∧m=0∧news=[])∨∃ a,A=some a∧∀ j u,news[j]?=some u→w.cell? (a.add j)=some u)
theorem Sl.src {w:World} {α : Type} {en : α → List Value} {sz:Nat} {v:Value} {xs:List α} (h:Sl w en sz v xs) (hen:∀ x∈xs,(en x).length=sz):Src w v xs.length (xs.flatMap en):=by
 obtain ⟨A,c,rfl,h2,h3,hn,h4⟩:=h;refine ⟨A,c,rfl,?_⟩
 cases A with
 | none =>
  have:=hn rfl;have h0:xs.length=0:=by omega
  obtain rfl:=List.eq_nil_of_length_eq_zero h0;exact .inl ⟨rfl,rfl,rfl⟩
 | some a =>
  refine .inr ⟨a,rfl,fun j u hj=>?_⟩;rcases Nat.eq_zero_or_pos xs.length with h0|h0
  ·obtain rfl:=List.eq_nil_of_length_eq_zero h0
   simp at hj
  ·obtain ⟨b,off,e,_,hc⟩:=h4 h0
   cases e;rw [add_plain];exact zgj xs off hen hc j u hj
theorem ze {F:Nat→Prop} {w w' w1:World} (h:Below w.heap.size w w') (hk:Keeps F w' w1) (hF:∀ k,F k→w.heap.size≤k):Below w.heap.size w w1:=h.trans (hk.below h.size hF)
theorem Src.below {w w':World} {x:Value} {m:Nat} {news:List Value} (h:Src w x m news) (hb:Below w.heap.size w w'):Src w' x m news:=by
 obtain ⟨A,c,e,h⟩:=h;refine ⟨A,c,e,?_⟩;rcases h with h|⟨a,e2,h⟩
 ·exact .inl h
 ·refine .inr ⟨a,e2,fun j u hj=>?_⟩
  have:=h j u hj;rw [hb.cell (World.block_lt_of_cell? w _ this)];exact this
theorem Src.one (w:World) (cs:List Value) (t:TypeId) (m:Nat):Src (w.alloc (.cells cs.toArray t)) (.slice (some ⟨w.heap.size,0,none⟩) m m) m cs:=by
 refine ⟨_,_,rfl,.inr ⟨_,rfl,fun j u hj=>?_⟩⟩;rw [add_plain,Nat.zero_add];have hh:=heap_alloc_new w (.cells cs.toArray t);unfold World.cell?;simp only [hh]
 simpa using hj
theorem zdj (b0 t ty e:Nat) (i:TypeInfo) (z:Value) (sz bytes:Nat) (ht:P.underlying t=some (.slice e)) (hi:P.info? e=some i) (hz:i.zero=some z)
  (hsize:i.size=sz) (hby:i.bytes=bytes) (hzs:z.cells.size=sz) (hsz:0<sz)
  (v:Value) (n:Nat) (xs:List Value) (hown:Own w b0 sz v n xs)
  (x:Value) (m:Nat) (news:List Value) (hl:news.length=m*sz) (hx:Src w x m news) (h1:∀ u∈news,u.oneCell'=true)
  (h63:n+m≤maxLen) (hbytes:(n+m)*bytes≤140737488355328) (hb:b0≤w.heap.size) :
  ∃ v' w',(Builtin.append_ #[t,t] ty #[v,x]).run P w = .ok v' w'∧Own w' b0 sz v' (n+m) (xs++news)∧Keeps (fun k=>v.ownBlock=some k∧b0≤k) w w' ∧
   (v'.ownBlock=v.ownBlock∨∀ k,v'.ownBlock=some k→w.heap.size≤k)∧(∀ k,v'.ownBlock=some k→w.heap.size≤k→tyOf w' k=some e):=by
 obtain ⟨A,c,rfl,hA⟩:=hx;rcases hA with ⟨rfl,rfl,rfl⟩|⟨a,rfl,hnews⟩
 ·refine ⟨v,w,?_,by simpa using hown,Keeps.refl _ _,.inl rfl,fun k hk h=>by have:=hown.lt k hk;omega⟩
  rcases hown.2 with ⟨rfl,hv⟩|⟨g,off,c',rfl,g1,g2,g3,g4,g5,g6⟩
  ·rcases hv with rfl|⟨g,off,rfl,hglt⟩
   ·simp [Builtin.append_,run_underlying ht,sizeOf,typeInfo,hi,Builtin.lenOf,Builtin.firstCells]
   ·simp [Builtin.append_,run_underlying ht,sizeOf,typeInfo,hi,Builtin.lenOf,Builtin.firstCells,storeCells]
  ·simp [Builtin.append_,run_underlying ht,sizeOf,typeInfo,hi,Builtin.lenOf,Builtin.firstCells,g3,storeCells]
 ·exact zgk w b0 t ty e i z sz bytes ht hi hz hsize hby hzs hsz v n xs hown a m c news hl hnews h1 h63 hbytes hb
theorem zeb {o:Oper} {a:Act} {K:Act→World→Prop} {Q:Exit→Act→World→Prop} (s x:Operand) (t:TypeId)
  (ho:o.op = .call { callee:=.builtin .append,args:=#[s,x],argTypes:=#[t,t] })
  (b0 e:Nat) (i:TypeInfo) (z:Value) (sz bytes:Nat) (ht:P.underlying t=some (.slice e)) (hi:P.info? e=some i) (hz:i.zero=some z)
  (hsize:i.size=sz) (hby:i.bytes=bytes) (hzs:z.cells.size=sz) (hsz:0<sz)
  (v:Value) (n:Nat) (xs:List Value) (hs:a.eval s=v) (hown:Own w b0 sz v n xs)
  (xv:Value) (m:Nat) (news:List Value) (hxv:a.eval x=xv) (hl:news.length=m*sz) (hx:Src w xv m news) (h1:∀ u∈news,u.oneCell'=true)
  (h63:n+m≤maxLen) (hbytes:(n+m)*bytes≤140737488355328) (hb:b0≤w.heap.size)
  (h:∀ v' w',Own w' b0 sz v' (n+m) (xs++news)→Keeps (fun k=>v.ownBlock=some k∧b0≤k) w w'→(v'.ownBlock=v.ownBlock∨∀ k,v'.ownBlock=some k→w.heap.size≤k)→(∀ k,v'.ownBlock=some k→w.heap.size≤k→tyOf w' k=some e)→K (a.put o.dst v') w'):o.wp P a w K Q:=by
 obtain ⟨v',w',hrun,h2,h3,h4,h5⟩:=zdj (P:=P) w b0 t o.type e i z sz bytes ht hi hz hsize hby hzs hsz v n xs hown xv m news hl hx h1 h63 hbytes hb;unfold Oper.wp execOp;simp only [ho,resolve,invoke,builtin,Sem.run_bind,Sem.run_pure,Result.andThen_ok,List.map_toArray,List.map_cons,List.map_nil,hs,hxv,hrun];exact h v' w' h2 h3 h4 h5
theorem zm {ops:Array Oper} {rest:List Oper} {o:Oper} {a:Act} {Q:Exit→Act→World→Prop} (hgd:o.guard=none) (s x:Operand) (t:TypeId)
  (ho:o.op = .call { callee:=.builtin .append,args:=#[s,x],argTypes:=#[t,t] })
  (b0 e:Nat) (i:TypeInfo) (z:Value) (sz bytes:Nat) (ht:P.underlying t=some (.slice e)) (hi:P.info? e=some i) (hz:i.zero=some z)
  (hsize:i.size=sz) (hby:i.bytes=bytes) (hzs:z.cells.size=sz) (hsz:0<sz)
  (v:Value) (n:Nat) (xs:List Value) (hs:a.eval s=v) (hown:Own w b0 sz v n xs)
  (xv:Value) (m:Nat) (news:List Value) (hxv:a.eval x=xv) (hl:news.length=m*sz) (hx:Src w xv m news) (h1:∀ u∈news,u.oneCell'=true)
  (h63:n+m≤maxLen) (hbytes:(n+m)*bytes≤140737488355328) (hb:b0≤w.heap.size)
  (h:∀ v' w',Own w' b0 sz v' (n+m) (xs++news)→Keeps (fun k=>v.ownBlock=some k∧b0≤k) w w'→(v'.ownBlock=v.ownBlock∨∀ k,v'.ownBlock=some k→w.heap.size≤k)→(∀ k,v'.ownBlock=some k→w.heap.size≤k→tyOf w' k=some e)→wpList P ops Q rest (a.put o.dst v') w'):wpList P ops Q (o :: rest) a w :=
 wpList_plain hgd fun _ hK=>zeb w s x t ho b0 e i z sz bytes ht hi hz hsize hby hzs hsz v n xs hs hown xv m news hxv hl hx h1 h63 hbytes hb fun v' w' h2 h3 h4 h5=>hK _ _ (h v' w' h2 h3 h4 h5)
theorem zk {ops:Array Oper} {o:Oper} {a:Act} {K:Act→World→Prop} {Q:Exit→Act→World→Prop} {E:Prop} (hgd:o.guard=none) (s x:Operand) (t:TypeId)
  (ho:o.op = .call { callee:=.builtin .append,args:=#[s,x],argTypes:=#[t,t] })
  (b0 e:Nat) (i:TypeInfo) (z:Value) (sz bytes:Nat) (ht:P.underlying t=some (.slice e)) (hi:P.info? e=some i) (hz:i.zero=some z)
  (hsize:i.size=sz) (hby:i.bytes=bytes) (hzs:z.cells.size=sz) (hsz:0<sz)
  (v:Value) (n:Nat) (xs:List Value) (hs:a.eval s=v) (hown:Own w b0 sz v n xs)
  (xv:Value) (m:Nat) (news:List Value) (hxv:a.eval x=xv) (hl:news.length=m*sz) (hx:Src w xv m news) (h1:∀ u∈news,u.oneCell'=true)
  (h63:n+m≤maxLen) (hbytes:(n+m)*bytes≤140737488355328) (hb:b0≤w.heap.size)
  (h:∀ v' w',Own w' b0 sz v' (n+m) (xs++news)→Keeps (fun k=>v.ownBlock=some k∧b0≤k) w w'→(v'.ownBlock=v.ownBlock∨∀ k,v'.ownBlock=some k→w.heap.size≤k)→(∀ k,v'.ownBlock=some k→w.heap.size≤k→tyOf w' k=some e)→K (a.put o.dst v') w') :
  if Region.wanted o (yielded ops a.tmps)=true then Oper.wp P o a w K Q else E:=by
 have hw:Region.wanted o (yielded ops a.tmps)=true:=by simp [Region.wanted,hgd]
 rw [if_pos hw];exact zeb w s x t ho b0 e i z sz bytes ht hi hz hsize hby hzs hsz v n xs hs hown xv m news hxv hl hx h1 h63 hbytes hb h
end
theorem ret_i64 {a b:Int} (h:a=b):Ending.returned (.int .i64 a) = .returned (.int .i64 b):=by rw [h]
theorem zb {w w' w2:World} (h:Below w.heap.size w w') (k:Below w'.heap.size w' w2):Below w.heap.size w w2:=h.trans (k.mono h.size)
theorem zal {α : Type} {xs:List α} {k:Nat} (h:k<xs.length):∃ x,xs[k]?=some x:=⟨_,List.getElem?_eq_getElem h⟩
theorem Own.form0 {w:World} {b0 sz n:Nat} {v:Value} {xs:List Value} (h:Own w b0 sz v n xs):∃ A c,v = .slice A n c∧(0<n→∃ g off,A=some ⟨g,off,none⟩):=by
 rcases h.2 with ⟨h0,rfl|⟨g,off,rfl,hg⟩⟩|⟨g,off,c,e,h1,_⟩
 ·exact ⟨_,_,by rw [h0],fun h=>by omega⟩
 ·exact ⟨_,_,by rw [h0],fun _=>⟨_,_,rfl⟩⟩
 ·exact ⟨_,_,e,fun _=>⟨_,_,rfl⟩⟩
theorem ze7 {w:World} {b0 sz g off n c m:Nat} {xs:List Value} (h:Own w b0 sz (.slice (some ⟨g,off,none⟩) n c) n xs) (hn:0<n) (hm:m≤n):Own w b0 sz (.slice (some ⟨g,off,none⟩) m c) m (xs.take (m*sz)):=by
 have hxl:=h.1;have hmn:m*sz≤n*sz:=Nat.mul_le_mul_right sz hm;rcases h.2 with ⟨h0,_⟩|⟨g',off',c',e,g1,g2,g3,g4,g5,g6⟩
 ·omega
 ·injection e with e5 _ e6
  injection e5 with e5;injection e5 with e5 e7;subst e5 e6 e7;refine ⟨by rw [List.length_take];omega,.inr ⟨g,off,c,rfl,g1,g2,by omega,g4,g5,fun j u hj=>g6 j u ?_⟩⟩;rw [List.getElem?_take] at hj
  split at hj
  ·exact hj
  ·cases hj
theorem zdk {w:World} {b0 sz n:Nat} {v:Value} {xs:List Value} (h:Own w b0 sz v n xs):∀ A m c,v = .slice A m c→n≤c:=by
 intro A m c e;rcases h.2 with ⟨h0,e1|⟨g,off,e1,hg⟩⟩|⟨g,off,c',e1,h1,h2,h3,h4,h5,h6⟩
 ·omega
 ·omega
 ·rw [e] at e1
  injection e1 with _ _ e3;omega
end Go.Proofs.YtjcdmjdofdnaoaaGreatDoor
