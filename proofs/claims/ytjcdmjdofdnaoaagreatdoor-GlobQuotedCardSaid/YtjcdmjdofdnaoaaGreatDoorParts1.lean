/-
  The walks of layer 7 (parts): the notes of a walker in memory; the mode as which one counts. Conditions: none.
-/
import Derived.Test.YtjcdmjdofdnaoaaGreatDoorMachA
set_option linter.unusedSimpArgs false
set_option linter.unusedVariables false
namespace Go.Proofs.YtjcdmjdofdnaoaaGreatDoor.Pa
open Cls Md Mc
structure Part where
 c:UInt8
 fr:Nat
 fin:Nat
 up:Int
 op:Bool
def pt0:Part:=⟨84,0,0,0,false⟩
def cnt (c:UInt8):UInt8:=if c=79 then 67 else if c=69 then 65 else c
def shutOne (a1:Nat) (p:Part):Part:=⟨p.c,p.fr,a1,p.up,false⟩
def markOne (c:UInt8) (p:Part):Part:=⟨cnt c,p.fr,p.fin,p.up,p.op⟩
def shutP (a1:Nat) (F:List (UInt8×Nat)):List Part→List Nat→List Part×List Nat
 | L,[]=>(L,[])
 | L,k :: r=>if r.length<F.length∧(F.getD r.length (0,0)).2=(L.getD k pt0).fr then (L,k :: r) else shutP a1 F (L.modify k (shutOne a1)) r
def openP:Nat→List (UInt8×Nat)→List Part→List Nat→List Part×List Nat
 | _,[],L,H=>(L,H)
 | i,f :: F,L,H =>
  if i<H.length then openP (i+1) F (L.modify (H.getD i 0) (markOne f.1)) H
  else openP (i+1) F (L++[⟨cnt f.1,f.2,0,(if 0<i then ((H.getD (i - 1) 0:Nat):Int) else -1),true⟩]) (H++[L.length])
def seeP (a:Nat) (F:List (UInt8×Nat)) (S:List Part×List Nat):List Part×List Nat :=
 openP 0 F (shutP (a+1) F S.1 S.2.reverse).1 (shutP (a+1) F S.1 S.2.reverse).2.reverse
def frs (x:St):List (UInt8×Nat):=x.l.reverse.drop 1
def parK (x:St) (p:Nat) (S:List Part×List Nat):List UInt8→List Part×List Nat
 | []=>S
 | b :: l=>parK (Md.step x b.toNat p) (p+1) (seeP p (frs (Md.step x b.toNat p)) S) l
theorem zbw (x:St) (p:Nat) (S:List Part×List Nat) (a b:List UInt8):parK x p S (a++b)=parK (runK x p a) (p+a.length) (parK x p S a) b:=by
 induction a generalizing x p S with
 | nil=>rfl
 | cons c a ih=>simp only [List.cons_append,runK,parK,ih,List.length_cons];congr 1;omega
def par (s:List UInt8):List Part×List Nat:=parK first 0 ([],[]) s
theorem par_snoc (s:List UInt8) (b:UInt8):par (s++[b])=seeP s.length (frs (run (s++[b]))) (par s):=by
 rw [zjk];unfold par;rw [zbw];simp [parK,run]
theorem zcm {s:List UInt8} {k:Nat} (h:k<s.length):par (s.take (k+1))=seeP k (frs (run (s.take (k+1)))) (par (s.take k)):=by
 rw [List.take_succ_eq_append_getElem h,par_snoc,List.length_take,Nat.min_eq_left (by omega)]
def InL (L:List Part) (H:List Nat):Prop:=∀ k∈H,k<L.length
theorem InL.modify {L:List Part} {H:List Nat} (h:InL L H) (k:Nat) (f:Part→Part):InL (L.modify k f) H:=fun j hj=>by rw [List.length_modify];exact h j hj
theorem InL.push {L:List Part} {H:List Nat} (h:InL L H) (p:Part):InL (L++[p]) (H++[L.length]):=fun j hj=>by
 rw [List.length_append,List.length_singleton];rcases List.mem_append.1 hj with q|q
 ·have:=h j q;omega
 ·rw [List.mem_singleton] at q;omega
theorem zhs (a1:Nat) (F:List (UInt8×Nat)) (L:List Part) (H:List Nat):(shutP a1 F L H).1.length=L.length:=by
 induction H generalizing L with
 | nil=>rfl
 | cons k r ih =>
  unfold shutP
  split
  ·rfl
  ·rw [ih,List.length_modify]
theorem zjn {a1:Nat} {F:List (UInt8×Nat)} {L:List Part} {H:List Nat} (h:InL L H):InL (shutP a1 F L H).1 (shutP a1 F L H).2:=by
 induction H generalizing L with
 | nil=>exact h
 | cons k r ih =>
  unfold shutP
  split
  ·exact h
  ·exact ih (L:=L.modify k (shutOne a1)) (InL.modify (fun j hj=>h j (List.mem_cons_of_mem _ hj)) k _)
theorem zgl {a1:Nat} {F:List (UInt8×Nat)} {L:List Part} {H:List Nat}:(shutP a1 F L H).2.length≤F.length:=by
 induction H generalizing L with
 | nil=>exact Nat.zero_le _
 | cons k r ih =>
  unfold shutP
  split
  ·rename_i h;exact h.1
  ·exact ih
theorem openP_in {i:Nat} {F:List (UInt8×Nat)} {L:List Part} {H:List Nat} (h:InL L H):InL (openP i F L H).1 (openP i F L H).2:=by
 induction F generalizing i L H with
 | nil=>exact h
 | cons f F ih =>
  unfold openP
  split
  ·exact ih (h.modify _ _)
  ·exact ih (h.push _)
theorem zo5 (i:Nat) (F:List (UInt8×Nat)) (L:List Part) (H:List Nat) (hi:H.length≤i+F.length) (hi2:i≤H.length):(openP i F L H).1.length+H.length=L.length+(i+F.length)∧(openP i F L H).2.length=i+F.length:=by
 induction F generalizing i L H with
 | nil=>simp only [openP,List.length_nil] at *;omega
 | cons f F ih =>
  unfold openP;simp only [List.length_cons] at *
  split
  ·rename_i hlt
   have:=ih (i+1) (L.modify (H.getD i 0) (markOne f.1)) H (by omega) (by omega);rw [List.length_modify] at this;omega
  ·rename_i hge
   have:=ih (i+1) (L++[⟨cnt f.1,f.2,0,(if 0<i then ((H.getD (i - 1) 0:Nat):Int) else -1),true⟩]) (H++[L.length]) (by simp;omega) (by simp;omega);simp only [List.length_append,List.length_singleton] at this;omega
theorem par_in (s:List UInt8):InL (par s).1 (par s).2:=by
 have h:∀ k≤s.length,InL (par (s.take k)).1 (par (s.take k)).2:=by
  intro k
  induction k with
  | zero=>intro _ j hj;rw [List.take_zero] at hj;simp [par,parK] at hj
  | succ k ih =>
   intro hk;rw [zcm (by omega)];unfold seeP;refine openP_in fun j hj=>?_;exact zjn (H:=(par (s.take k)).2.reverse) (fun j hj=>ih (by omega) j (List.mem_reverse.1 hj)) j (List.mem_reverse.1 hj)
 have:=h s.length (Nat.le_refl _)
 rwa [List.take_length] at this
open Go.ChangeShapes Go.WideShapes Go.Deep Go.RowKit Cls Md Mc
set_option maxRecDepth 100000
def partC (p:Part):List Value:=[.int .i64 (mo p.c),.int .i64 p.fr,.int .i64 p.fin,.int .i64 p.up,.bool p.op]
def idxC (k:Nat):List Value:=[.int .i64 k]
theorem zbg {l:List Part}:∀ e∈l,(partC e).length=5:=fun _ _=>rfl
theorem zfw {l:List Nat}:∀ e∈l,(idxC e).length=1:=fun _ _=>rfl
theorem flat_len {α : Type} {en : α → List Value} {sz:Nat} {l:List α} (hen:∀ x∈l,(en x).length=sz):(l.flatMap en).length=l.length*sz:=by
 induction l with
 | nil=>simp
 | cons a r ih =>
  rw [List.flatMap_cons,List.length_append,ih (fun x hx=>hen x (List.mem_cons_of_mem _ hx)),hen a (List.mem_cons_self ..),List.length_cons,Nat.add_mul,Nat.one_mul,Nat.add_comm]
theorem flat_set {α : Type} {en : α → List Value} {sz j:Nat} (hj:j<sz) (f : α → α) (u:Value) {l:List α} {k:Nat} (hk:k<l.length) (hen:∀ x∈l,(en x).length=sz) (hf:en (f l[k])=(en l[k]).set j u) :
  (l.modify k f).flatMap en=(l.flatMap en).set (k*sz+j) u:=by
 induction l generalizing k with
 | nil=>simp at hk
 | cons a r ih =>
  have ha:=hen a (List.mem_cons_self ..)
  cases k with
  | zero =>
   simp only [List.getElem_cons_zero] at hf;rw [List.modify_zero_cons,List.flatMap_cons,List.flatMap_cons,hf,Nat.zero_mul,Nat.zero_add,List.set_append_left _ _ (by omega)]
  | succ k =>
   simp only [List.getElem_cons_succ] at hf;rw [List.modify_succ_cons,List.flatMap_cons,List.flatMap_cons,ih (by simpa using hk) (fun x hx=>hen x (List.mem_cons_of_mem _ hx)) hf,List.set_append_right _ _ (by rw [ha,Nat.add_mul];omega),ha,show (k+1)*sz+j - sz=k*sz+j by rw [Nat.add_mul];omega]
structure Wk (W:World) (b0 wb:Nat) (vl vh:Value) (L:List Part) (H:List Nat):Prop where
 bx:BoxN W wb [vl,vh]
 ol:Own W b0 5 vl L.length (L.flatMap partC)
 oh:Own W b0 1 vh H.length (H.flatMap idxC)
 nl:vl.ownBlock≠some wb
 nh:vh.ownBlock≠some wb
 ne:∀ k,vl.ownBlock=some k→vh.ownBlock≠some k
theorem Wk.below {w w':World} {b0 wb:Nat} {vl vh:Value} {L:List Part} {H:List Nat} (h:Wk w b0 wb vl vh L H) (hb:Below w.heap.size w w'):Wk w' b0 wb vl vh L H:=⟨h.bx.below hb,h.ol.below hb,h.oh.below hb,h.nl,h.nh,h.ne⟩
structure WStep (b0 wb:Nat) (w:World) (vl vh:Value) (w':World) (vl' vh':Value):Prop where
 k:Keeps (fun k=>k=wb∨((vl.ownBlock=some k∨vh.ownBlock=some k)∧b0≤k)) w w'
 fl:vl'.ownBlock=vl.ownBlock∨∀ k,vl'.ownBlock=some k→w.heap.size≤k
 fh:vh'.ownBlock=vh.ownBlock∨∀ k,vh'.ownBlock=some k→w.heap.size≤k
theorem WStep.refl (b0 wb:Nat) (w:World) (vl vh:Value):WStep b0 wb w vl vh w vl vh:=⟨Keeps.refl _ _,.inl rfl,.inl rfl⟩
theorem WStep.trans {b0 wb:Nat} {w w1 w2:World} {vl vh vl1 vh1 vl2 vh2:Value} (h:WStep b0 wb w vl vh w1 vl1 vh1) (k:WStep b0 wb w1 vl1 vh1 w2 vl2 vh2):WStep b0 wb w vl vh w2 vl2 vh2:=by
 have hs:=h.k.size;refine ⟨?_,?_,?_⟩
 ·have e1:Keeps (fun k=>(k=wb∨((vl.ownBlock=some k∨vh.ownBlock=some k)∧b0≤k))∨w.heap.size≤k) w w2:=(h.k.mono (fun k _ q=>.inl q)).trans (k.k.mono fun k _ q=>by
   rcases q with q|⟨q1,q2⟩
   ·exact .inl (.inl q)
   ·rcases q1 with q1|q1
    ·rcases h.fl with r|r
     ·exact .inl (.inr ⟨.inl (r ▸ q1),q2⟩)
     ·exact .inr (r k q1)
    ·rcases h.fh with r|r
     ·exact .inl (.inr ⟨.inr (r ▸ q1),q2⟩)
     ·exact .inr (r k q1))
  exact ⟨e1.os,e1.tape,e1.output,e1.size,fun k hk hF=>e1.block k hk (fun q=>q.elim hF (fun z=>by omega)),e1.ty⟩
 ·rcases k.fl with r|r
  ·rw [r];exact h.fl
  ·exact .inr fun k hk=>by have:=r k hk;omega
 ·rcases k.fh with r|r
  ·rw [r];exact h.fh
  ·exact .inr fun k hk=>by have:=r k hk;omega
theorem Wk.setL {W:World} {b0 wb g off n c:Nat} {vh:Value} {L:List Part} {H:List Nat} (h:Wk W b0 wb (.slice (some ⟨g,off,none⟩) n c) vh L H) (hn:n=L.length) {k j:Nat} (hk:k<L.length) (hj:j<5) (f:Part→Part) (u:Value)
  (hf:partC (f L[k])=(partC L[k]).set j u):Wk (W.setCell ⟨g,off+(k*5+j),none⟩ u) b0 wb (.slice (some ⟨g,off,none⟩) n c) vh (L.modify k f) H:=by
 subst hn;have hK:Keeps (fun k=>k=g) W (W.setCell ⟨g,off+(k*5+j),none⟩ u):=Keeps.setCell (F:=fun k=>k=g) W rfl u;have ho:=zjg h.ol (j:=k*5+j) (by omega) u;rw [← flat_set hj f u hk zbg hf] at ho;refine ⟨h.bx.keeps hK (fun e=>h.nl (by rw [e];rfl)),?_,h.oh.keeps hK (fun m q _ e=>h.ne g rfl (by rw [q,e])),h.nl,h.nh,h.ne⟩;rw [List.length_modify];exact ho
theorem zm7 {W:World} {b0 wb g off n c x:Nat} (vh:Value) (hg:b0≤g) (u:Value):WStep b0 wb W (.slice (some ⟨g,off,none⟩) n c) vh (W.setCell ⟨g,x,none⟩ u) (.slice (some ⟨g,off,none⟩) n c) vh :=
 ⟨Keeps.setCell (F:=fun k=>k=wb∨_) W (a:=⟨g,x,none⟩) (.inr ⟨.inl rfl,hg⟩) u,.inl rfl,.inl rfl⟩
theorem Wk.cutH {W:World} {b0 wb g off n c m:Nat} {vl:Value} {L:List Part} {H:List Nat} (h:Wk W b0 wb vl (.slice (some ⟨g,off,none⟩) n c) L H) (hn:n=H.length) (hm:m+1=n):Wk (W.setCell ⟨wb,1,none⟩ (.slice (some ⟨g,off,none⟩) m c)) b0 wb vl (.slice (some ⟨g,off,none⟩) m c) L (H.take m):=by
 subst hn;have hK:Keeps (fun k=>k=wb) W (W.setCell ⟨wb,1,none⟩ (.slice (some ⟨g,off,none⟩) m c)):=Keeps.setCell (F:=fun k=>k=wb) W rfl _;have ho:=h.oh.keeps hK (fun k q _ e=>h.nh (by rw [q,show k=wb from e]));have hc:=ze7 ho (by omega) (show m≤H.length by omega)
 have e1:(H.flatMap idxC).take (m*1)=(H.take m).flatMap idxC:=by
  have:∀ (H:List Nat) (m:Nat),(H.flatMap idxC).take m=(H.take m).flatMap idxC:=by
   intro H
   induction H with
   | nil=>intro m;simp
   | cons a r ih =>
    intro m
    cases m with
    | zero=>simp
    | succ m=>rw [List.flatMap_cons,List.take_succ_cons,List.flatMap_cons,← ih m];rfl
  rw [Nat.mul_one];exact this H m
 rw [e1] at hc;refine ⟨zao h.bx 1 (by simp) _,h.ol.keeps hK (fun k q _ e=>h.nl (by rw [q,show k=wb from e])),?_,h.nl,h.nh,h.ne⟩;rw [List.length_take,Nat.min_eq_left (by omega)];exact hc
theorem zht {W:World} {b0 wb i:Nat} (vl vh vl' vh':Value) (u:Value) (hl:vl'.ownBlock=vl.ownBlock∨∀ k,vl'.ownBlock=some k→W.heap.size≤k) (hh:vh'.ownBlock=vh.ownBlock∨∀ k,vh'.ownBlock=some k→W.heap.size≤k):WStep b0 wb W vl vh (W.setCell ⟨wb,i,none⟩ u) vl' vh' :=
 ⟨Keeps.setCell (F:=fun k=>k=wb∨_) W (a:=⟨wb,i,none⟩) (.inl rfl) u,hl,hh⟩
theorem zdz (c:UInt8) (w:World):Calls Tryz.prog 191 #[.int .i64 (mo c)] w fun e w'=>e = .returned (.int .i64 (mo (cnt c)))∧w=w':=by
 have h3:=mo_ne 79 c (by decide) 3 (by decide +kernel);have h11:=mo_ne 69 c (by decide) 11 (by decide +kernel);unfold cnt;by_cases p:c=79
 ·subst p
  rw [if_pos rfl,show mo 79=3 by decide +kernel,show mo 67=1 by decide +kernel];go_enter Tryz.func191,Tryz.ntmps191;go_wp2;go_ret;exact ⟨rfl,rfl⟩
 by_cases q:c=69
 ·subst q
  rw [if_neg (by decide),if_pos rfl,show mo 69=11 by decide +kernel,show mo 65=9 by decide +kernel];go_enter Tryz.func191,Tryz.ntmps191;go_wp2;go_ret;exact ⟨rfl,rfl⟩
 rw [if_neg p,if_neg q];have p':(c == 79)=false:=by simpa using p
 have q':(c == 69)=false:=by simpa using q
 rw [p'] at h3;rw [q'] at h11;clear p q p' q';generalize mo c=k at *;go_enter Tryz.func191,Tryz.ntmps191;go_wp2;go_ret;exact ⟨rfl,rfl⟩
end Go.Proofs.YtjcdmjdofdnaoaaGreatDoor.Pa
