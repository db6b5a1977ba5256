/-
  Slices that come in, read as lists: one word for nil, empty and other slices, whatever the elements. No program in sight.
-/
import Derived.Test.YtfmecpnokefokaaGreatDoorRows
import Derived.Test.YtfmecpnokefokaaGreatDoorBase
import Derived.ProofKit
import Derived.OpenShut
import Derived.ShutString
import Derived.Test.YtfmecpnokefokaaGreatDoorTie
import Derived.Test.YtfmecpnokefokaaGreatDoorCards
import Derived.HandedShaped
import Derived.LaidMore
import Derived.Lay
import Derived.SevenTiedAt
import Derived.Stop.Joined
import Derived.Deep.Slices
import Derived.ChangeSame
set_option linter.unusedSimpArgs false
set_option linter.unusedVariables false
namespace Go.Proofs.YtfmecpnokefokaaGreatDoor
open Go.ChangeShapes Go.WideShapes Go.ChangeAt Go.RowKit
theorem own:ownKnob Tryz.prog.godebug=none:=by kernel_rfl
theorem laidOut:laidOutB Tryz.prog=true:=by kernel_rfl
section
variable {H : Type} {enc : TypeId × Value → H} {P : Program}
theorem zfp (hl:laidOutB P=true) {W W':World} (hb:Below W.heap.size W W'):∀ {ts:List TypeId} {vs:List Value} {ds:List (DataW H)} {ps:List MemPlace},
  (ts.all fun t=>P.readableRec t && decide (t<P.types.size))=true→DataW.TrodAll enc P W 0 (fun _=>true) true ts vs ds ps→(∀ x∈ps,x.block<W.heap.size) →
  DataW.TrodAll enc P W' 0 (fun b=>decide (b<W.heap.size)) true ts vs ds ps
 | [],[],[],_,_,h,_=>h
 | _ :: _,_ :: _,_ :: _,_,ht,⟨p,q,h1,h2,e⟩,hlt=>by
  simp only [List.all_cons,Bool.and_eq_true,decide_eq_true_eq] at ht
  refine ⟨p,q,Below.trod hl ht.1.1 ht.1.2 h1 hb (fun x hx=>hlt x (by rw [e];exact List.mem_append_left _ hx)),zfp hl hb (by simpa using ht.2) h2 (fun x hx=>hlt x (by rw [e];exact List.mem_append_right _ hx)),e⟩
theorem zdi {f:Func} {s:ChangeSpec} {W W':World} {args:Array Value} {ds:List (DataW H)} {before:List MemPlace} {tb:TypeId}
  (hl:laidOutB P=true) (hts:(f.params.toList.all fun t=>P.readableRec t && decide (t<P.types.size))=true) (hrt:f.resultTypes = #[tb]) (htb:P.underlying tb=some .bool)
  (hvs:s.vars=[]) (hfn:s.fn H (ds++[]) = { results:=[.lit (.bool true)],args:=ds })
  (hW:DataW.Whole enc P f.params.toList s.vars false W args.toList ds [] before) (hb:Below W.heap.size W W') :
  s.post enc P f false true false false W args (.bool true) W':=by
 have hW':=hW
 obtain ⟨p,q,hA,hV,rfl,_,_⟩:=hW
 rw [hvs] at hV
 obtain rfl:q=[]:=hV
 have hlt:∀ x∈p,x.block<W.heap.size:=fun x hx=>by simpa using hW'.lt x (List.mem_append_left _ hx)
 refine ⟨ds,[],_,[],p,[],hW',?_,?_,?_,hb.frame _,fun h=>Bool.noConfusion h⟩
 ·rw [hfn,hrt]
  exact trodAll_cons_mk (shut_bool htb true) trodAll_mk0
 ·rw [hfn]
  exact zfp hl hb hts hA hlt
 ·rw [hfn,hvs]
  exact rfl
end
end Go.Proofs.YtfmecpnokefokaaGreatDoor
namespace Go.Proofs.YtfmecpnokefokaaGreatDoor
open Go.ChangeShapes Go.WideShapes Go.ChangeAt Go.RowKit
theorem zae {H:Type} {enc:TypeId×Value→H} {a:Assume} {C:Checked} {os:Os} {f:FuncId} {fn:Func} {s:ChangeSpec} {conds:List PathCond} {apart fresh handsOn again:Bool} {X:World→Array Value→Prop}
  (own:ownKnob C.prog.godebug=none) (started:os.Started) (noInit:C.prog.inits.idxOf? f=none) (hfn:C.prog.funcs[f]?=some fn)
  (witness:∃ (w:World) (tape:Tape) (i:Input),w.os=os∧(w.forCall tape i).Shaped C.prog∧i.vars=[]∧Input.okWide C.prog (w.forCall tape i) .any w.heap.size f i ∧
   ((s.pre enc C.prog fn conds apart (w.forCall tape i).memory i.args∧X (w.forCall tape i).memory i.args)∧sizedMet enc C.prog fn (OpenSpec.ofChange s) apart (w.forCall tape i).memory i.args)∧a.holds C.prog (lone (Frame.enter C.prog f i.args .normal) [] (w.forCall tape i)))
  (contract:∀ (W:World) (base:Nat) (args:Array Value) (ds gs:List (DataW H)) (before:List MemPlace),
   (∀ (j:Nat) t v,fn.params[j]?=some t→args[j]?=some v→Value.okWide C.prog W .any base t v) →
   DataW.Whole enc C.prog fn.params.toList s.vars apart W args.toList ds gs before →
   W.ShapedOpen C.prog →
   Calls C.prog f args W fun e W'=>∃ v,e = .returned v∧s.post enc C.prog fn apart fresh handsOn again W args v W') :
  ReturnsInHanded a C os f .any (fun w args=>(s.pre enc C.prog fn conds apart w args∧X w args)∧sizedMet enc C.prog fn (OpenSpec.ofChange s) apart w args) (s.post enc C.prog fn apart fresh handsOn again):=by
 refine returnsInHanded_of_calls own started noInit witness ?_
 intro w tape i _ hsh _ hok hpre hholds
 obtain ⟨_,_,_,fn',hfn',_,_,_,_,hval⟩:=hok
 have e:fn'=fn:=Option.some.inj (hfn'.symm.trans hfn)
 subst e
 obtain ⟨⟨⟨ds,gs,before,hw,hc⟩,hx⟩,hz⟩:=hpre
 have hw':=DataW.Whole.of_heap (w':=w.forCall tape i) (by rfl) hw
 refine (contract (w.forCall tape i) w.heap.size i.args ds gs before hval hw' hsh).mono fun e W' ⟨v,he,hp⟩=>?_
 subst he
 exact ChangeSpec.post_blind hp
end Go.Proofs.YtfmecpnokefokaaGreatDoor
namespace Go.Proofs.YtfmecpnokefokaaGreatDoor
open Go.ChangeShapes Go.WideShapes Go.Deep Go.RowKit
def Sl (w:World) {α : Type} (en : α → List Value) (sz:Nat) (v:Value) (xs:List α):Prop :=
 ∃ A c,v = .slice A xs.length c∧xs.length≤c∧c≤9223372036854775807∧(A=none→c=0)∧(0<xs.length→∃ b off,A=some ⟨b,off,none⟩∧b<w.heap.size∧∀ k x,xs[k]?=some x→∀ j u,(en x)[j]?=some u→w.cell? ⟨b,off+k*sz+j,none⟩=some u)
section
variable {w w' : World} {α : Type} {en : α → List Value} {sz : Nat} {v : Value} {xs : List α}
theorem Sl.below (h:Sl w en sz v xs) (hb:Below w.heap.size w w'):Sl w' en sz v xs:=by
 obtain ⟨A,c,h1,h2,h3,hn,h4⟩:=h
 refine ⟨A,c,h1,h2,h3,hn,fun h=>?_⟩
 obtain ⟨b,off,e,hlt,hc⟩:=h4 h
 exact ⟨b,off,e,Nat.lt_of_lt_of_le hlt hb.size,fun k x hk j u hj=>(hb.cell (p:=⟨b,_,none⟩) hlt).trans (hc k x hk j u hj)⟩
theorem Sl.nil (w:World) (en : α → List Value) (sz:Nat):Sl w en sz (.slice none 0 0) ([]:List α):=⟨none,0,rfl,by simp,by simp,fun _=>rfl,by simp⟩
end
theorem Sl.kept {w w':World} {α : Type} {en : α → List Value} {sz:Nat} {v:Value} {xs:List α} {row:Option Nat} (h:Sl w en sz v xs) (hg:w.grownBy w' row) (hne:v.ownBlock≠row∨v.ownBlock=none):Sl w' en sz v xs:=by
 obtain ⟨A,c,h1,h2,h3,hn,h4⟩:=h
 refine ⟨A,c,h1,h2,h3,hn,fun h=>?_⟩
 obtain ⟨b,off,e,hlt,hc⟩:=h4 h
 have hb:w'.heap[b]?=w.heap[b]?:=hg.block b hlt (by
  subst e;subst h1
  rcases hne with hne|hne
  ·simpa [Value.ownBlock] using hne
  ·simp [Value.ownBlock] at hne)
 exact ⟨b,off,e,Nat.lt_of_lt_of_le hlt hg.size,fun k x hk j u hj=>(World.cell?_of_block (w:=w) hb).trans (hc k x hk j u hj)⟩
theorem ziy {w:World} {α : Type} {en : α → List Value} {sz b:Nat}:∀ (xs:List α) (off:Nat),(∀ x∈xs,(en x).length=sz)→(∀ k x,xs[k]?=some x→∀ j u,(en x)[j]?=some u→w.cell? ⟨b,off+k*sz+j,none⟩=some u) →
  ∀ j u,(xs.flatMap en)[j]?=some u→w.cell? ⟨b,off+j,none⟩=some u
 | [],_,_,_,j,u,h=>by simp at h
 | y :: ys,off,hen,hc,j,u,h=>by
  simp only [List.flatMap_cons] at h
  have hy:=hen y (by simp)
  by_cases hj:j<sz
  ·rw [List.getElem?_append_left (by omega)] at h
   have:=hc 0 y (by simp) j u h
   simpa using this
  ·rw [List.getElem?_append_right (by omega),hy] at h
   have:=ziy ys (off+sz) (fun x hx=>hen x (by simp [hx])) (fun k x hk j u hj=>by
    have:=hc (k+1) x (by simpa using hk) j u hj
    rwa [Nat.add_mul,Nat.one_mul,show off+(k*sz+sz)+j=off+sz+k*sz+j by omega] at this) (j - sz) u h
   rwa [show off+sz+(j - sz)=off+j by omega] at this
theorem list_of {α : Type} {R:Nat → α → Prop} (n:Nat) (h:∀ i,i<n→∃ x,R i x):∃ xs:List α,xs.length=n∧∀ k x,xs[k]?=some x→R k x:=by
 induction n with
 | zero=>exact ⟨[],rfl,fun k x h=>by simp at h⟩
 | succ n ih =>
  obtain ⟨xs,hl,hx⟩:=ih fun i hi=>h i (by omega)
  obtain ⟨y,hy⟩:=h n (by omega)
  refine ⟨xs++[y],by simp [hl],fun k x hk=>?_⟩
  by_cases hkn:k<n
  ·rw [List.getElem?_append_left (by omega)] at hk
   exact hx k x hk
  ·rw [List.getElem?_append_right (by omega)] at hk
   have:k - xs.length=0:=by
    rcases Nat.eq_zero_or_pos (k - xs.length) with h|h
    ·exact h
    ·rw [List.getElem?_eq_none (by simp;omega)] at hk;cases hk
   rw [this] at hk
   have e:k=n:=by omega
   simp at hk
   rw [e,← hk];exact hy
section
variable {H : Type} {enc : TypeId × Value → H} {P : Program} {w : World}
theorem zem {α : Type} (en : α → List Value) (Ok : α → Prop) {t e:TypeId} {sz base:Nat} {v:Value} {d:DataW H} {p:List MemPlace} (ht:P.underlying t=some (.slice e)) (hC:P.cellsOf e=sz) (hsz:0<sz)
  (dec:∀ {fuel cs d},DataW.trod enc P w 0 (fun _=>true) true fuel e cs=some d→∃ x,cs=en x∧Ok x)
  (h:DataW.Trod enc P w 0 (fun _=>true) true t v d p) (k:Value.okWide P w .any base t v):∃ xs,Sl w en sz v xs∧(∀ x∈xs,Ok x)∧xs.length≤9223372036854775807:=by
 obtain ⟨A,len,cap,rfl⟩:=okWide_slice ht k
 obtain ⟨fuel,hf⟩:=h
 have hcs:(Value.slice A len cap).cells.toList=[.slice A len cap]:=rfl
 rw [hcs] at hf
 rcases open_slice ht hf with ⟨h0,_⟩|⟨a,len',cap',m,n,D,Pl,h0,_,hl,hm,hmm,_,hi⟩
 ·simp at h0
  obtain ⟨rfl,rfl,rfl⟩:=h0
  exact ⟨[],Sl.nil w en sz,by simp,by simp⟩
 ·simp at h0
  obtain ⟨rfl,rfl,rfl⟩:=h0
  have hml:len≤m:=by rw [hmm];simp;omega
  obtain ⟨xs,hxl,hx⟩:=list_of (R:=fun i x=>Ok x∧∀ j u,(en x)[j]?=some u→w.cell? ((a.add (i*sz)).add j)=some u) len (fun i hil=>by
   obtain ⟨cs',hc,htr⟩:=hi i (by omega)
   rw [hC] at hc
   obtain ⟨_,hcl,hat⟩:=World.cells?_some hc
   obtain ⟨x,rfl,hok⟩:=dec htr
   refine ⟨x,hok,fun j u hj=>?_⟩
   have hjl:j<(en x).length:=(List.getElem?_eq_some_iff.1 hj).1
   rw [hat j (by omega),hj])
  refine ⟨xs,?_,fun x hxm=>?_,by unfold maxLen at hm;omega⟩
  ·refine ⟨some a,cap,by rw [hxl],by omega,by unfold maxLen at hm;omega,(fun h=>by cases h),fun h0=>?_⟩
   obtain ⟨cs0,hc0,htr0⟩:=hi 0 (by omega)
   rw [hC] at hc0
   obtain ⟨_,hcl0,hat0⟩:=World.cells?_some hc0
   obtain ⟨b,off,spot⟩:=a
   have hcell0:=hat0 0 hsz
   have h00:cs0[0]?=some (cs0[0]'(by omega)):=List.getElem?_eq_getElem (by omega)
   rw [h00] at hcell0
   have hspot:spot=none:=by simpa [Addr.add] using World.cell?_spot hcell0
   subst hspot
   have hlt:=World.block_lt_of_cell? w _ hcell0
   rw [add_plain,add_plain] at hlt
   refine ⟨b,off,rfl,hlt,fun k x hk j u hj=>?_⟩
   have:=(hx k x hk).2 j u hj
   rwa [add_add,add_plain,← Nat.add_assoc] at this
  ·obtain ⟨k,hk⟩:=List.mem_iff_getElem?.1 hxm
   exact (hx k x hk).1
end
end Go.Proofs.YtfmecpnokefokaaGreatDoor
