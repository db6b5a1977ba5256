/-
  The walks of the definition's layer 7 (parts): the number of a place's frame, a letter's mode, all parts. Conditions: as each says.
-/
import Derived.Test.YtfmecpnokefokaaGreatDoorOfPlain
import Derived.Test.YtfmecpnokefokaaGreatDoorPartsA
import Derived.Test.YtfmecpnokefokaaGreatDoorRefPar
set_option linter.unusedSimpArgs false
set_option linter.unusedVariables false
namespace Go.Proofs.YtfmecpnokefokaaGreatDoor.Pa
open Go.ChangeShapes Go.WideShapes Go.Deep Go.RowKit Cls Md Mc
set_option maxRecDepth 100000
theorem _root_.Go.Proofs.YtfmecpnokefokaaGreatDoor.j7rb {p:Prop} (h:p):Go.RowKit.Hid p:=Go.Lib.hid h
def atN (x:St) (pl:Nat):Nat:=if pl∈fp x then (fp x).idxOf pl+1 else 0
theorem atN_none {x:St} {pl:Nat} (h:∀ t,t<(fp x).length→(fp x)[t]?≠some pl):atN x pl=0:=by
 unfold atN;rw [if_neg];intro hm;obtain ⟨t,ht⟩:=List.mem_iff_getElem?.1 hm;exact h t (List.getElem?_eq_some_iff.1 ht).1 ht
theorem zrm {x:St} {pl m:Nat} (h1:1≤m) (hm:(fp x)[m - 1]?=some pl) (h:∀ t,t<m - 1→(fp x)[t]?≠some pl):atN x pl=m:=by
 have hmem:=List.mem_of_getElem? hm;unfold atN;rw [if_pos hmem];have hi:=List.idxOf_lt_length_of_mem hmem;have hg:(fp x)[(fp x).idxOf pl]?=some pl:=by rw [List.getElem?_eq_getElem hi,List.getElem_idxOf]
 have h2:¬ (fp x).idxOf pl<m - 1:=fun e=>h _ e hg
 have h3:(fp x).idxOf pl≤m - 1:=by
  have hml:=(List.getElem?_eq_some_iff.1 hm).1;have:=List.idxOf_append (l₁ := (fp x).take m) (l₂ := (fp x).drop m) (a:=pl);rw [List.take_append_drop] at this;have hmt:pl∈(fp x).take m:=List.mem_iff_getElem?.2 ⟨m - 1,by rw [List.getElem?_take,if_pos (by omega)];exact hm⟩;rw [if_pos hmt] at this;have h4:=List.idxOf_lt_length_of_mem hmt;rw [List.length_take] at h4;omega
 omega
theorem zns (x:St) (j:Nat):(plcs x.l)[j+1]?=((fp x)[j]?).map fun (n:Nat)=>(n:Int):=by
 rw [fp_eq,List.getElem?_drop,Nat.add_comm 1 j];unfold plcs;rw [← List.map_reverse,← List.map_reverse,List.getElem?_map,List.getElem?_map]
 cases x.l.reverse[j+1]? <;> rfl
theorem zjx {w:World} {v:Value} {x:St} (h:StR w v x) (hl:x.l.length≤1073741824) (place:Nat):Calls Tryz.prog 101 #[v,.int .i64 place] w fun e w'=>e = .returned (.int .i64 (atN x place))∧Below w.heap.size w w':=by
 obtain ⟨A,cp,rfl,h2,h3,hs,ht⟩:=h.form;have hfl:=fp_len x;have HF:=j7rb (fun (m:Nat) (h1:1≤m) (hm:(fp x)[m - 1]?=some place) h=>zrm (x:=x) (pl:=place) (m:=m) h1 hm h);have HN:=j7rb fun h=>atN_none (x:=x) (pl:=place) h;have hpf:=zns x
 have hcell:∀ m,1≤m→m<x.l.length→∃ b off q,A=some ⟨b,off,none⟩∧b<w.heap.size∧(fp x)[m - 1]?=some q∧w.cell? ⟨b,off+m,none⟩=some (.int .i64 (q:Nat)):=by
  intro m h1 hm;obtain ⟨A',c',e,h2',h3',hz,h4⟩:=hs;rw [zb0] at e h4;cases e;obtain ⟨b,off,rfl,hlt,hc⟩:=h4 (by omega)
  obtain ⟨q,hq⟩:∃ q,(fp x)[m - 1]?=some q:=⟨_,List.getElem?_eq_getElem (by omega)⟩
  refine ⟨b,off,q,rfl,hlt,hq,?_⟩;have:=hpf (m - 1);rw [hq,show m - 1+1=m by omega] at this;have:=hc m _ this 0 _ rfl
  simpa using this
 have HC:=j7rb hcell;generalize hfp:fp x=F at *;generalize hn:x.l.length=n at *;generalize hls:lets x.l=ls at *;generalize x.f=f at *;generalize hat:atN x place=N at *;clear hs ht h hpf hcell hfp hn hls hat;go_enter Tryz.func101,Tryz.ntmps101;go_wp2;have HB:=j7rb (BoxN.new w [.string (B ls),.slice A n cp,.bool f] 114);have HL:=j7rb (za (Below.refl w.heap.size w) (.cells #[.string (B ls),.slice A n cp,.bool f] 114))
 go_loopw [5] (fun i wr=>∃ m:Nat,1≤m∧m≤max 1 n∧i = .int .i64 m∧Hid (∀ t,t<m - 1→F[t]?≠some place)∧Hid (BoxN wr w.heap.size [.string (B ls),.slice A n cp,.bool f])∧Hid (Below w.heap.size w wr)) (fun i _=>n - (intOf i).toNat)
 case atStart=>exact ⟨1,Nat.le_refl _,by omega,rfl,j7rb fun t ht=>by omega,HB,HL⟩
 case round =>
  clear HB HL;obtain ⟨m,hm1,hmn,rfl,HT,HB,HL⟩:=hrel;obtain ⟨b0,b1,b2⟩:=HB.out.c3;by_cases hlt:m<n
  ·obtain ⟨b,off,q,rfl,hb,hq,hc⟩:=HC.out m hm1 hlt
   have hcw:wr.cell? ⟨b,off+m,none⟩=some (.int .i64 (q:Nat)):=(HL.out.cell (p:=⟨b,off+m,none⟩) hb).trans hc;have k0:(0:Int)≤(m:Int):=by omega
   have k1:(m:Int)<(n:Int):=by omega
   have HQ:=j7rb hq;clear hc hq HC;by_cases e:q=place
   ·subst e
    have HR:=j7rb (HF.out m hm1 HQ.out HT.out);go_wp2;go_ret;exact ⟨by rw [HR.out];rfl,HL.out⟩
   ·have e':((q:Int) == (place:Int))=false:=by rw [beq_eq_false_iff_ne];omega
    have HE:=j7rb e;clear e;go_wp2
    exact ⟨⟨m+1,by omega,by omega,by go_num,j7rb fun t ht=>by
     by_cases ht2:t<m - 1
     ·exact HT.out t ht2
     ·rw [show t=m - 1 by omega,HQ.out];exact fun e=>HE.out (Option.some.inj e),HB,HL⟩,by simp [intOf];omega⟩
  ·have k1:¬ (m:Int)<(n:Int):=by omega
   have HR:=j7rb (HN.out fun t ht=>HT.out t (by omega));go_wp2;go_ret;exact ⟨by rw [HR.out];rfl,HL.out⟩
theorem zmt (c:UInt8) (hc:c∈modeL) (w:World):Calls Tryz.prog 102 #[.int .u8 c.toNat] w fun e w'=>e = .returned (.int .i64 (mo (cnt c)))∧w=w':=by
 by_cases h79:c=79
 ·subst h79
  go_enter Tryz.func102,Tryz.ntmps102;go_wp2;go_ret;exact ⟨rfl,rfl⟩
 by_cases h69:c=69
 ·subst h69
  go_enter Tryz.func102,Tryz.ntmps102;go_wp2;go_ret;exact ⟨rfl,rfl⟩
 have hcn:cnt c=c:=by unfold cnt;rw [if_neg h79,if_neg h69]
 rw [hcn];have m79:=Pat.not_b (n:=79) rfl h79;have m69:=Pat.not_b (n:=69) rfl h69;have HC:=j7rb hc;clear hc hcn h79 h69;go_enter Tryz.func102,Tryz.ntmps102;go_wp2;rw [show ({ data:=#[84,67,80,79,83,68,66,86,73,65,82,69,76,88,35] }:ByteArray)=B modeL from rfl];have hml:modeL.length=15:=rfl
 go_loopw [3] (fun i wr=>wr=w∧∃ k:Nat,k≤15∧i = .int .i64 k∧Hid (∀ t,t<k→modeL[t]?≠some c)) (fun i _=>15 - (intOf i).toNat)
 case atStart=>exact ⟨rfl,0,by omega,rfl,j7rb fun t ht=>by omega⟩
 case round =>
  obtain ⟨rfl,k,hk,rfl,HT⟩:=hrel;by_cases hlt:k<15
  ·have k0:(0:Int)≤(k:Int):=by omega
   have k1:(k:Int)<15:=by omega
   have k2:(k:Int)<(modeL.length:Int):=by omega
   have hg:modeL[k]?=some (modeL[k]'(by omega)):=List.getElem?_eq_getElem (by omega);have HG:=j7rb hg
   have HI:=j7rb (show modeL[k]'(by omega)=c→mo c=(k:Int) from fun e=>by
    unfold mo;have h1:c∈modeL.take (k+1):=List.mem_iff_getElem?.2 ⟨k,by rw [List.getElem?_take,if_pos (by omega),hg,e]⟩;have h2:=List.idxOf_append (l₁ := modeL.take (k+1)) (l₂ := modeL.drop (k+1)) (a:=c);rw [List.take_append_drop,if_pos h1] at h2;have h3:=List.idxOf_lt_length_of_mem h1;rw [List.length_take] at h3;have h4:¬ modeL.idxOf c<k:=fun h5=>HT.out _ h5 (by rw [List.getElem?_eq_getElem (List.idxOf_lt_length_of_mem HC.out),List.getElem_idxOf])
    omega)
   clear hg;by_cases e:modeL[k]'(by omega)=c
   ·have HR:=j7rb (HI.out e)
    go_wp2;go_ret;exact ⟨by rw [HR.out];rfl,rfl⟩
   ·have HE:=j7rb e
    have e':=byte_ne e;clear e;go_wp2
    exact ⟨⟨trivial,k+1,by omega,by go_num,j7rb fun t ht=>by
     by_cases ht2:t<k
     ·exact HT.out t ht2
     ·rw [show t=k by omega,HG.out];exact fun e=>HE.out (Option.some.inj e)⟩,by simp [intOf];omega⟩
  ·have hk':k=15:=by omega
   obtain ⟨t,ht⟩:=List.mem_iff_getElem?.1 HC.out;exact absurd ht (HT.out t (by have:=(List.getElem?_eq_some_iff.1 ht).1;omega))
theorem zpe (s:List UInt8) (fr n f k:Nat) (c:UInt8):(scanR s fr n f k c).2.2=true→(scanR s fr n f k c).2.1=s.length:=by
 induction f generalizing k c with
 | zero=>intro _;rfl
 | succ f ih =>
  rw [scanR]
  split
  ·exact ih _ _
  ·intro h;cases h
structure Sv where
 s:List UInt8
 A:Option Addr
 n:Nat
 c:Nat
 f:Bool
def Sv.cells (x:Sv):List Value:=[.string (B x.s),.slice x.A x.n x.c,.bool x.f]
def Sv.val (x:Sv):Value:=.agg #[.string (B x.s),.slice x.A x.n x.c,.bool x.f]
theorem sv_len {l:List Sv}:∀ x∈l,(Sv.cells x).length=3:=fun _ _=>rfl
theorem info_sv:(Tryz.prog.info? 114).map (fun i=>(i.zero,i.size,i.bytes))=some (some (.agg #[.string (B []),.slice none 0 0,.bool false]),3,48):=by kernel_rfl
theorem _root_.Go.Proofs.YtfmecpnokefokaaGreatDoor.Md.StR.keeps {F:Nat→Prop} {w w':World} {v:Value} {x:St} (h:StR w v x) (hk:Keeps F w w') (hF:∀ k,F k→tyOf w k≠some 3):StR w' v x:=by
 obtain ⟨vp,e,hs,ht⟩:=h;exact ⟨vp,e,hs.keeps hk (fun k hkv _ e2=>hF k e2 (ht _ hkv)),zav ht hk⟩
structure AllI (s:List UInt8) (w W:World) (va:Value) (xs:List Sv) (k:Nat):Prop where
 len:xs.length=k+1
 own:Own W w.heap.size 3 va xs.length (xs.flatMap Sv.cells)
 ty:TyS W va 114
 st:∀ i x,xs[i]?=some x→StR W x.val (run (s.take i))
 be:Below w.heap.size w W
section
variable {s : List UInt8} {w W W' : World} {va : Value} {xs : List Sv} {k : Nat}
theorem AllI.below (h:AllI s w W va xs k) (hb:Below W.heap.size W W'):AllI s w W' va xs k :=
 ⟨h.len,h.own.below hb,za1 h.ty hb,fun i x hx=>(h.st i x hx).below hb,zb h.be hb⟩
theorem AllI.keeps {F:Nat→Prop} (h:AllI s w W va xs k) (hk:Keeps F W W') (h1:∀ q,F q→tyOf W q≠some 3) (h2:∀ q,F q→va.ownBlock≠some q) (h3:∀ q,F q→w.heap.size≤q):AllI s w W' va xs k :=
 ⟨h.len,h.own.keeps hk (fun q e _ f=>h2 q f e),zav h.ty hk,fun i x hx=>(h.st i x hx).keeps hk h1,ze h.be hk h3⟩
theorem AllI.app {v':Value} {y:Sv} (h:AllI s w W va xs k) (hr:StR W y.val (run (s.take (k+1)))) (ho:Own W' w.heap.size 3 v' (xs.length+1) (xs.flatMap Sv.cells++y.cells)) (hk:Keeps (fun q=>va.ownBlock=some q∧w.heap.size≤q) W W')
  (hat:v'.ownBlock=va.ownBlock∨∀ q,v'.ownBlock=some q→W.heap.size≤q) (hty:∀ q,v'.ownBlock=some q→W.heap.size≤q→tyOf W' q=some 114):AllI s w W' v' (xs++[y]) (k+1):=by
 have hl:=h.len;have hF:∀ q,(va.ownBlock=some q∧w.heap.size≤q)→tyOf W q≠some 3:=fun q e=>by rw [h.ty q e.1];decide
 refine ⟨by rw [List.length_append,hl];rfl,?_,TyS.append h.ty (tyS_lt h.ty) hk hat hty,fun i x hx=>?_,ze h.be hk (fun q e=>e.2)⟩
 ·rw [List.length_append,List.length_singleton,List.flatMap_append,List.flatMap_singleton]
  exact ho
 ·by_cases hi:i<xs.length
  ·rw [List.getElem?_append_left hi] at hx
   exact (h.st i x hx).keeps hk hF
  ·rw [List.getElem?_append_right (by omega)] at hx
   have hi2:i - xs.length=0:=by
    rcases Nat.eq_zero_or_pos (i - xs.length) with e|e
    ·exact e
    ·rw [List.getElem?_eq_none (by simp;omega)] at hx;cases hx
   rw [hi2] at hx;simp only [List.getElem?_cons_zero,Option.some.injEq] at hx;subst hx;rw [show i=k+1 by omega];exact hr.keeps hk hF
theorem AllI.get (h:AllI s w W va xs k) {i:Nat} (hi:i≤k):∃ x g off c,xs[i]?=some x∧va = .slice (some ⟨g,off,none⟩) xs.length c∧g<W.heap.size∧xs.length≤c∧c≤9223372036854775807:=by
 have hl:=h.len;obtain ⟨x,hx⟩:=zae (xs:=xs) (k:=i) (by omega);obtain ⟨g,off,c,e,_,h1,h2,h3⟩:=h.own.form' (by omega);exact ⟨x,g,off,c,hx,e,h1,h2,h3⟩
theorem AllI.c3 {g off c:Nat} (h:AllI s w W (.slice (some ⟨g,off,none⟩) xs.length c) xs k) {i:Nat} {x:Sv} (hx:xs[i]?=some x) :
  W.cell? ⟨g,off+i*3,none⟩=some (.string (B x.s))∧W.cell? ⟨g,off+i*3+1,none⟩=some (.slice x.A x.n x.c)∧W.cell? ⟨g,off+i*3+2,none⟩=some (.bool x.f):=by
 refine ⟨?_,?_,?_⟩
 ·have:=(zax h.own sv_len rfl (by omega) hx (j:=0) rfl).1;rwa [Nat.add_zero] at this
 ·have:=(zax h.own sv_len rfl (by omega) hx (j:=1) rfl).1;rwa [← Nat.add_assoc] at this
 ·have:=(zax h.own sv_len rfl (by omega) hx (j:=2) rfl).1;rwa [← Nat.add_assoc] at this
end
theorem AllI.start {s:List UInt8} {w w1:World} {x:Sv} (hr:StR w1 x.val first) (hb:Below w.heap.size w w1):AllI s w (w1.alloc (.cells #[.string (B x.s),.slice x.A x.n x.c,.bool x.f] 114)) (.slice (some ⟨w1.heap.size,0,none⟩) 1 1) [x] 0:=by
 refine ⟨rfl,?_,fun q e=>by cases e;exact zaa _ _ _,fun i y hy=>?_,za hb _⟩
 ·exact own_new w1 _ hb.size [.string (B x.s),.slice x.A x.n x.c,.bool x.f] _ rfl (by omega)
 ·cases i with
  | zero =>
   simp only [List.getElem?_cons_zero,Option.some.injEq] at hy;subst hy;rw [List.take_zero];exact hr.below (za (Below.refl _ _) _)
  | succ i=>simp at hy
theorem StR.place {w:World} {y:Sv} {x:St} (h:StR w y.val x):y.s=lets x.l∧y.n=x.l.length∧∀ {i q:Nat},1≤i→(fp x)[i - 1]?=some q→∃ b off,y.A=some ⟨b,off,none⟩∧i<y.n∧w.cell? ⟨b,off+i,none⟩=some (.int .i64 (q:Nat)):=by
 obtain ⟨vp,e,hs,ht⟩:=h;unfold Sv.val at e;simp only [Value.agg.injEq,Array.mk.injEq,List.cons.injEq,and_true,Value.string.injEq] at e;obtain ⟨e1,rfl,-⟩:=e;obtain ⟨A,c,e,h2,h3,hz,h4⟩:=hs;rw [zb0] at e h4;simp only [Value.slice.injEq] at e;obtain ⟨e2,e3,e4⟩:=e;refine ⟨B_inj e1,e3,fun {i q} h1 hq=>?_⟩;have hql:=(List.getElem?_eq_some_iff.1 hq).1;rw [fp_len] at hql;obtain ⟨b,off,e5,hlt,hc⟩:=h4 (by omega);refine ⟨b,off,e2.trans e5,by omega,?_⟩;have:=zns x (i - 1);rw [hq,show i - 1+1=i by omega] at this;have:=hc i _ this 0 _ rfl
 simpa using this
theorem zpf {x:St} (h:WF x):∀ c∈lets x.l,c∈modeL:=by
 have H:∀ l,WFl l→∀ c∈lets l,c∈modeL:=by
  intro l
  induction l with
  | nil=>intro h;exact h.elim
  | cons a r ih =>
   obtain ⟨c,p⟩:=a;intro h d hd;rw [za0] at hd
   cases r with
   | nil =>
    have e:c=84:=h;subst e;simp [lets] at hd;subst hd
    decide
   | cons b r =>
    obtain ⟨e,q⟩:=b;rcases List.mem_append.1 hd with hd|hd
    ·exact ih h.2.2 d hd
    ·rw [List.mem_singleton] at hd
     subst hd;have:=h.1
     revert this
     generalize d=z;intro hz;simp [lettersL] at hz;simp [modeL]
     rcases hz with rfl|rfl|rfl|rfl|rfl|rfl|rfl|rfl|rfl|rfl|rfl|rfl|rfl|rfl <;> simp
 exact H x.l h
structure OutI (s:List UInt8) (w W:World) (va:Value) (xs:List Sv) (vo:Value) (j:Nat):Prop where
 all:AllI s w W va xs s.length
 own:Own W w.heap.size 5 vo (ofR s j).length ((ofR s j).flatMap partC)
 tyo:TyS W vo 107
 nil:ofR s j=[]→vo = .slice none 0 0
theorem OutI.start {s:List UInt8} {w W:World} {va:Value} {xs:List Sv} (h:AllI s w W va xs s.length):OutI s w W va xs (.slice none 0 0) 0 :=
 ⟨h,Own.nil _ _ _,fun q e=>(by cases e),fun _=>rfl⟩
theorem OutI.below {s:List UInt8} {w W W':World} {va vo:Value} {xs:List Sv} {j:Nat} (h:OutI s w W va xs vo j) (hb:Below W.heap.size W W'):OutI s w W' va xs vo j :=
 ⟨h.all.below hb,h.own.below hb,za1 h.tyo hb,h.nil⟩
theorem OutI.skip {s:List UInt8} {w W:World} {va vo:Value} {xs:List Sv} {j:Nat} (hj:j<s.length) (hm:¬ j∈FP s (j+1)) (h:OutI s w W va xs vo j):OutI s w W va xs vo (j+1):=by
 have e:ofR s (j+1)=ofR s j:=by rw [ofR,if_neg hm]
 exact ⟨h.all,by rw [e];exact h.own,h.tyo,by rw [e];exact h.nil⟩
theorem OutI.keeps {F:Nat→Prop} {s:List UInt8} {w W W':World} {va vo:Value} {xs:List Sv} {j:Nat} (h:OutI s w W va xs vo j) (hk:Keeps F W W') (hF:∀ q,F q→tyOf W q=some 107∧vo.ownBlock≠some q∧w.heap.size≤q):OutI s w W' va xs vo j :=
 ⟨h.all.keeps hk (fun q e=>by rw [(hF q e).1];decide) (fun q e e2=>by have:=(hF q e).1;rw [h.all.ty q e2] at this;exact absurd this (by decide)) (fun q e=>(hF q e).2.2),h.own.keeps hk (fun q e _ f=>(hF q f).2.1 e),zav h.tyo hk,h.nil⟩
structure PmI (s:List UInt8) (w W:World) (va:Value) (xs:List Sv) (vo:Value) (j pb:Nat) (cs:List Value):Prop where
 o:OutI s w W va xs vo j
 bx:BoxN W pb cs
 tb:tyOf W pb=some 107
 ge:w.heap.size≤pb
 ne:vo.ownBlock≠some pb
theorem PmI.start {s:List UInt8} {w W:World} {va vo:Value} {xs:List Sv} {j:Nat} (h:OutI s w W va xs vo j) (cs:List Value):PmI s w (W.alloc (.cells cs.toArray 107)) va xs vo j W.heap.size cs :=
 ⟨h.below (za (Below.refl _ _) _),BoxN.new W cs _,zaa _ _ _,h.all.be.size,fun e=>by have:=h.own.lt _ e;omega⟩
theorem PmI.below {s:List UInt8} {w W W':World} {va vo:Value} {xs:List Sv} {j pb:Nat} {cs:List Value} (h:PmI s w W va xs vo j pb cs) (hb:Below W.heap.size W W'):PmI s w W' va xs vo j pb cs :=
 ⟨h.o.below hb,h.bx.below hb,(zi (hb.block _ h.bx.lt)).trans h.tb,h.ge,h.ne⟩
theorem PmI.set {s:List UInt8} {w W:World} {va vo:Value} {xs:List Sv} {j pb:Nat} {cs:List Value} (h:PmI s w W va xs vo j pb cs) (i:Nat) (hi:i<cs.length) (u:Value):PmI s w (W.setCell ⟨pb,i,none⟩ u) va xs vo j pb (cs.set i u) :=
 ⟨h.o.keeps (Keeps.setCell (F:=fun k=>k=pb) W (a:=⟨pb,i,none⟩) rfl u) (fun q e=>by have e:q=pb:=e;subst e;exact ⟨h.tb,h.ne,h.ge⟩),zbb h.bx i hi u,(zac _ _ _ _).trans h.tb,h.ge,h.ne⟩
theorem PmI.c5 {s:List UInt8} {w W:World} {va vo:Value} {xs:List Sv} {j pb:Nat} {u0 u1 u2 u3 u4:Value} (h:PmI s w W va xs vo j pb [u0,u1,u2,u3,u4]) :
  (W.cell? ⟨pb,0,none⟩=some u0∧W.cell? ⟨pb,1,none⟩=some u1∧W.cell? ⟨pb,2,none⟩=some u2∧W.cell? ⟨pb,3,none⟩=some u3∧W.cell? ⟨pb,4,none⟩=some u4)∧(W.frozen? ⟨pb,0,none⟩=false∧W.frozen? ⟨pb,2,none⟩=false∧W.frozen? ⟨pb,3,none⟩=false∧W.frozen? ⟨pb,4,none⟩=false) :=
 ⟨⟨h.bx.c 0 _ rfl,h.bx.c 1 _ rfl,h.bx.c 2 _ rfl,h.bx.c 3 _ rfl,h.bx.c 4 _ rfl⟩,h.bx.f 0,h.bx.f 2,h.bx.f 3,h.bx.f 4⟩
theorem PmI.next {s:List UInt8} {w W W':World} {va vo v':Value} {xs:List Sv} {j pb:Nat} {cs:List Value} {P:Part} {o:Obj} (h:PmI s w W va xs vo j pb cs) (hP:ofR s (j+1)=ofR s j++[P]) (ho:Own W' w.heap.size 5 v' ((ofR s j).length+1) ((ofR s j).flatMap partC++partC P))
  (hk:Keeps (fun q=>vo.ownBlock=some q∧w.heap.size≤q) (W.alloc o) W') (hat:v'.ownBlock=vo.ownBlock∨∀ q,v'.ownBlock=some q→(W.alloc o).heap.size≤q) (hty:∀ q,v'.ownBlock=some q→(W.alloc o).heap.size≤q→tyOf W' q=some 107):OutI s w W' va xs v' (j+1):=by
 have h':=h.o.below (za (Below.refl _ _) o);refine ⟨h'.all.keeps hk (fun q e=>by rw [h'.tyo q e.1];decide) (fun q e e2=>by have:=h'.tyo q e.1;rw [h'.all.ty q e2] at this;exact absurd this (by decide)) (fun q e=>e.2),?_,TyS.append h'.tyo (tyS_lt h'.tyo) hk hat hty,fun e=>by rw [hP] at e;simp at e⟩;rw [hP,List.length_append,List.length_singleton,List.flatMap_append,List.flatMap_singleton];exact ho
theorem zhf (o:List Part) (n pl k:Nat):upR o n pl (k+1)=if 1<n∧(o.getD k pt0).fr=pl then (k:Int) else upR o n pl k:=rfl
set_option maxHeartbeats 4000000 in
theorem refOf_any (s:List UInt8) (w:World) (hs:s.length≤30000):Calls Tryz.prog 61 #[.string (B s)] w fun e w'=>∃ vl,e = .returned vl∧Own w' w.heap.size 5 vl (ofR s s.length).length ((ofR s s.length).flatMap partC)∧(ofR s s.length=[]→vl = .slice none 0 0)∧Below w.heap.size w w':=by
 obtain ⟨i0,hi0,hz00,hz01,hz02⟩:=info_parts info_sv;have HRL:=j7rb fun k=>zb1 (s.take k);have HFI:=j7rb fun W=>zfq W;go_enter Tryz.func61,Tryz.ntmps61
 go_wp2_with (go_at_call 99;(refine (HFI.out _).mono ?_);intro e w1 h1;obtain ⟨s1,A1,n1,c1,f1,rfl,hc1,hd1,hr1,hb1⟩:=h1.out;have HB1:=j7rb hb1;have HR1:=j7rb hr1;clear hr1 hb1 h1)
 have HI:=j7rb (AllI.start (s:=s) (x:=⟨s1,A1,n1,c1,f1⟩) HR1.out HB1.out);clear HB1 HR1 HFI
 go_loopw [3,4] (fun v3 v4 wr=>∃ (k:Nat) (va:Value) (xs:List Sv),va=v3∧k≤s.length∧v4 = .int .i64 k∧Hid (AllI s w wr va xs k)) (fun _ i _=>s.length - (intOf i).toNat)
 case atStart=>exact ⟨0,_,_,rfl,by omega,rfl,HI⟩
 case round =>
  clear HI;obtain ⟨k,va,xs,rfl,hk,rfl,HI⟩:=hrel;by_cases hlt:k<s.length
  ·have h0:(0:Int)≤(k:Int):=by omega
   have h1:(k:Int)<(s.length:Int):=by omega
   obtain ⟨x,g,off,c,hx,rfl,hg,hc1,hc2⟩:=HI.out.get (i:=k) (Nat.le_refl _);have hk1:(k:Int)<(xs.length:Int):=by have:=HI.out.len;omega
   have hxb:xs.length≤30001:=by have:=HI.out.len;omega
   have HX:=j7rb hx;have hds:=HI.out.be.size;have HRL1:=j7rb (show (run (s.take k)).l.length≤1073741824 by have:=HRL.out k;rw [List.length_take] at this;omega);have HT:=j7rb (zab hlt);clear hx;go_wp2;refine zw (fun W=>W.cell? ⟨g,off+k*3,none⟩=some (.string (B x.s))∧W.cell? ⟨g,off+k*3+1,none⟩=some (.slice x.A x.n x.c)∧W.cell? ⟨g,off+k*3+2,none⟩=some (.bool x.f)) [11] (by kernel_rfl) ?_;have HI:=j7rb (HI.out.below (zk (Below.refl _ _)));have hds:w.heap.size≤wr.drew.heap.size:=hds;generalize World.drew _=D at *;refine zzk (i:=0) (some 19) rfl rfl (fun _=>HI.out.c3 HX.out) ?_
   try simp only [Act.put,zzt,zzz,zzs]
   refine zzk (i:=1) (some 20) rfl rfl (fun _=>HI.out.c3 HX.out) ?_
   try simp only [Act.put,zzt,zzz,zzs]
   refine zzk (i:=2) (some 21) rfl rfl (fun _=>HI.out.c3 HX.out) ?_
   try simp only [Act.put,zzt,zzz,zzs]
   refine zzk (i:=3) (some 22) rfl rfl (fun _=>HI.out.c3 HX.out) ?_
   try simp only [Act.put,zzt,zzz,zzs]
   refine zn (i:=4) [9,10,11,12] (some 23) (v:=?v4_5z20) rfl rfl (by kernel_rfl) (by kernel_rfl) (by kernel_rfl) (by kernel_rfl) (by kernel_rfl) (fun _ _ _ h=>h) (Or.inl ⟨by rfl,?y4_5z20⟩) (fun _=>HI.out.c3 HX.out) ?r4_5z20
   case y4_5z20 =>
    intro w hSw
    (try dsimp only at hSw)
    go_split_ands
    go_simp
    try with_reducible rfl
   try simp only [Act.put,zzt,zzz,zzs]
   refine zzk (i:=5) (some 24) rfl rfl (fun _=>HI.out.c3 HX.out) ?_
   try simp only [Act.put,zzt,zzz,zzs]
   refine zzk (i:=6) (some 25) rfl rfl (fun _=>HI.out.c3 HX.out) ?_
   try simp only [Act.put,zzt,zzz,zzs]
   refine zzk (i:=7) (some 26) rfl rfl (fun _=>HI.out.c3 HX.out) ?_
   try simp only [Act.put,zzt,zzz,zzs]
   refine zzk (i:=8) (some 27) rfl rfl (fun _=>HI.out.c3 HX.out) ?_
   try simp only [Act.put,zzt,zzz,zzs]
   refine zc (rs:=[9]) (by kernel_rfl) (by simp) ?_;refine AllReadyK.cons (i:=9) rfl (fun K hK=>?_) ?_
   ·go_simp
    go_at_call 100
    refine (zgj (wf_run (s.take k)) s[k] (p:=k) (HI.out.st k x HX.out) HRL1.out).mono ?_;intro e w4 h4;obtain ⟨s4,A4,n4,c4,f4,rfl,hc4,hd4,hr4,hb4⟩:=h4.out;have HI:=j7rb (HI.out.below hb4);have hds:=Nat.le_trans hds hb4.size;rw [← HT.out] at hr4;have HR:=j7rb hr4;clear hr4 hb4 h4;dsimp only;refine hK.out _ _ (fun _=>HI.out.c3 HX.out) ?_;clear hK K
    try simp only [Act.put,zzt,zzz,zzs]
    refine zc (rs:=[10]) (by kernel_rfl) (by simp) ?_;refine AllReadyK.cons (i:=10) rfl (fun K hK=>?_) ?_
    ·go_simp
     have HI:=j7rb (HI.out.below (za (Below.refl _ _) (.cells #[.string (B s4),.slice A4 n4 c4,.bool f4] 114)));have HR:=j7rb (HR.out.below (za (Below.refl _ _) (.cells #[.string (B s4),.slice A4 n4 c4,.bool f4] 114)));have HO:=j7rb (BoxN.new w4 [.string (B s4),.slice A4 n4 c4,.bool f4] 114);have hds:w.heap.size≤(w4.alloc (.cells #[.string (B s4),.slice A4 n4 c4,.bool f4] 114)).heap.size:=by simp;omega
     generalize w4.heap.size=g10 at *;generalize w4.alloc (.cells #[.string (B s4),.slice A4 n4 c4,.bool f4] 114)=D at *;refine hK.out _ _ (fun _=>HI.out.c3 HX.out) ?_;clear hK K
     try simp only [Act.put,zzt,zzz,zzs]
     refine zc (rs:=[11]) (by kernel_rfl) (by simp) ?_;refine AllReadyK.cons (i:=11) rfl (fun K hK=>?_) ?_
     ·(refine zj _ rfl (.tmp 19) (.tmp 29) _ rfl w.heap.size 114 i0 _ 3 48 Tryz.underlying155 hi0 hz00 hz01 hz02 rfl (by decide) _ xs.length (xs.flatMap Sv.cells) rfl HI.out.own _ 1 [.string (B s4),.slice A4 n4 c4,.bool f4] rfl rfl HO.out.src (by intro u hu;simp at hu;rcases hu with rfl|rfl|rfl <;> rfl) (by unfold maxLen;omega) (by omega) (by first|(simp;done)|omega|(simp;omega)) ?_;intro v11 w11 hown11 hg11 hat11 hty11;have HTY11:=j7rb hty11;clear hty11)
      have HI:=j7rb (HI.out.app (y:=⟨s4,A4,n4,c4,f4⟩) HR.out hown11 hg11 hat11 HTY11.out);clear hown11 hg11 hat11 HTY11;refine hK.out _ _ (fun h=>Bool.noConfusion ((show unl _ _=false by kernel_rfl).symm.trans h)) ?_;clear hK K
      try simp only [Act.put,zzt,zzz,zzs]
      refine zzk (i:=12) (some 3) rfl rfl (fun h=>Bool.noConfusion ((show unl _ _=false by kernel_rfl).symm.trans h)) ?_
      try simp only [Act.put,zzt,zzz,zzs]
      refine zu (by kernel_rfl) ?_ _;go_wp2;exact ⟨⟨k+1,_,_,rfl,by omega,by go_num,HI⟩,by simp [intOf];omega⟩
     exact AllReadyK.nil
    exact AllReadyK.nil
   exact AllReadyK.nil
  ·have hk':k=s.length:=by omega
   subst hk';have h1:¬ (s.length:Int)<(s.length:Int):=by omega
   clear hlt hk;obtain ⟨x0,g,off,c,-,rfl,hg,hc1,hc2⟩:=HI.out.get (i:=0) (Nat.zero_le _);go_wp2;have HO:=j7rb (OutI.start HI.out);clear HI
   go_loopw [5,6] (fun v5 v6 W=>∃ (j:Nat) (vo:Value) (W1:World),W1=W∧vo=v5∧j≤s.length∧v6 = .int .i64 j∧Hid (OutI s w W1 (.slice (some ⟨g,off,none⟩) xs.length c) xs vo j)) (fun _ i _=>s.length - (intOf i).toNat)
   case atStart=>exact ⟨0,_,_,rfl,rfl,by omega,rfl,HO⟩
   case round =>
    clear HO;obtain ⟨j,vo,W1,rfl,rfl,hj,rfl,HO⟩:=hrel;by_cases hlt:j<s.length
    ·have h0:(0:Int)≤(j:Int):=by omega
     have h1:(j:Int)<(s.length:Int):=by omega
     obtain ⟨x,g',off',c',hx,hv,hg1,-,-⟩:=HO.out.all.get (i:=j+1) (by omega);cases hv;have HX:=j7rb hx;obtain ⟨b0,b1,b2⟩:=HO.out.all.c3 hx;have hxb:xs.length≤30001:=by have:=HO.out.all.len;omega
     have hj1:(j:Int)+1<(xs.length:Int):=by have:=HO.out.all.len;omega
     have hj2:(0:Int)≤(j:Int)+1:=by omega
     have htn:((j:Int)+1).toNat=j+1:=by omega
     have hwr:IntKind.i64.wrap ((j:Int)+1)=(j:Int)+1:=IntWalk.i64_in _ (by omega);have HAT:=j7rb (zjx (HO.out.all.st (j+1) x hx) (by have:=HRL.out (j+1);rw [List.length_take] at this;omega) j);clear hx;by_cases hm:j∈FP s (j+1)
     ·obtain ⟨i,hi⟩:∃ i,(FP s (j+1)).idxOf j=i:=⟨_,rfl⟩
      have hil:=List.idxOf_lt_length_of_mem hm;rw [hi] at hil;rw [show atN (run (s.take (j+1))) j=i+1 from (if_pos hm).trans (by rw [show fp (run (s.take (j+1)))=FP s (j+1) from rfl,hi])] at HAT;have HIX:=j7rb hi;have HM:=j7rb hm;have hi0:((i:Int)+1 == 0)=false:=by rw [beq_eq_false_iff_ne];omega
      have hib:i≤30001:=by rw [FP_len] at hil;have:=HRL.out (j+1);rw [List.length_take] at this;omega
      clear hi hm
      go_wp2_with (go_at_call 101;refine HAT.out.mono ?_;rintro e w2 ⟨rfl,hb2⟩;have HO2:=j7rb (HO.out.below hb2);clear hb2)
      have HP:=j7rb (PmI.start HO2.out [.int .i64 0,.int .i64 j,.int .i64 s.length,.int .i64 (-1),.bool true]);clear HAT b0 b1 b2 HO HO2;generalize w2.heap.size=pb at *
      obtain ⟨pl,hpl⟩:∃ pl,(FP s (j+1)).getD (i+1 - 2) 0=pl:=⟨_,rfl⟩
      have HPL:=j7rb hpl;clear hpl;obtain ⟨A2,c2,rfl,hA2⟩:=HP.out.o.own.form0;have HA2:=j7rb hA2;clear hA2;have hii:IntKind.i64.wrap ((i:Int)+1 - 1)=(i:Int):=by rw [show (i:Int)+1 - 1=(i:Int) by omega];exact IntWalk.i64_in _ (by omega)
      have hom:=ofR_len s j
      go_loopw [9] (fun v9 W=>∃ (k:Nat) (W1:World),W1=W∧k≤(ofR s j).length∧v9 = .int .i64 k∧Hid (PmI s w W1 (.slice (some ⟨g,off,none⟩) xs.length c) xs (.slice A2 (ofR s j).length c2) j pb [.int .i64 0,.int .i64 j,.int .i64 s.length,.int .i64 (upR (ofR s j) (i+1) pl k),.bool true])) (fun v _=>(ofR s j).length - (intOf v).toNat)
      case atStart=>exact ⟨0,_,rfl,by omega,rfl,HP⟩
      case round =>
       clear HP;obtain ⟨k,W2,rfl,hk,rfl,HP⟩:=hrel;by_cases hkl:k<(ofR s j).length
       ·have p0:(0:Int)≤(k:Int):=by omega
        have p1:(k:Int)<((ofR s j).length:Int):=by omega
        obtain ⟨g2,off2,rfl⟩:=HA2.out (by omega);obtain ⟨P,hP⟩:=zae hkl;have cf:=(zax HP.out.o.own za2 rfl (by omega) hP (j:=1) rfl).1;rw [← Nat.add_assoc] at cf;have HPD:=j7rb (show (ofR s j).getD k pt0=P by rw [List.getD_eq_getElem?_getD,hP];rfl);obtain ⟨⟨d0,d1,d2,d3,d4⟩,f0,f2,f3,f4⟩:=HP.out.c5
        haveI:Old W2 pb:=⟨HP.out.bx.lt⟩
        have HPC:=j7rb hP;clear hP;by_cases hi1:1<i+1
        ·have q1:decide ((1:Int)<(i:Int)+1)=true:=decide_eq_true (by omega)
         obtain ⟨-,-,hpc⟩:=StR.place (HP.out.o.all.st (j+1) x HX.out)
         obtain ⟨b3,off3,hA3,hin,hc3⟩:=hpc (i:=i) (q:=pl) (by omega) (by
          have h9:=HPL.out;rw [show i+1 - 2=i - 1 by omega,List.getD_eq_getElem?_getD,List.getElem?_eq_getElem (by omega)] at h9;rw [show fp (run (s.take (j+1)))=FP s (j+1) from rfl,List.getElem?_eq_getElem (by omega)]
          exact congrArg some h9)
         obtain ⟨b0,b1,b2⟩:=HP.out.o.all.c3 HX.out;rw [hA3] at b1;have p2:(0:Int)≤(i:Int):=by omega
         have p3:(i:Int)<(x.n:Int):=by omega
         have HI1:=j7rb hi1;clear hpc hi1;by_cases e:P.fr=pl
         ·have e':((P.fr:Int) == (pl:Int))=true:=by rw [e];simp
          have HU:=j7rb (show upR (ofR s j) (i+1) pl (k+1)=(k:Int) by rw [zhf,if_pos ⟨HI1.out,by rw [HPD.out,e]⟩]);clear e;go_wp2;go_quiet (fail);go_wp2;exact ⟨⟨k+1,_,rfl,by omega,by go_num,by rw [HU.out];exact j7rb ((HP.out.below (zq (Below.refl _ _) _)).set 3 (by simp) (.int .i64 k))⟩,by simp [intOf];omega⟩
         ·have e':((P.fr:Int) == (pl:Int))=false:=by rw [beq_eq_false_iff_ne];omega
          have HU:=j7rb (show upR (ofR s j) (i+1) pl (k+1)=upR (ofR s j) (i+1) pl k by rw [zhf,if_neg (fun h=>e (by rw [← HPD.out];exact h.2))]);clear e;go_wp2;go_quiet (fail);go_wp2;exact ⟨⟨k+1,_,rfl,by omega,by go_num,by rw [HU.out];exact j7rb (HP.out.below (zq (Below.refl _ _) _))⟩,by simp [intOf];omega⟩
        ·have q1:decide ((1:Int)<(i:Int)+1)=false:=decide_eq_false (by omega)
         have HU:=j7rb (show upR (ofR s j) (i+1) pl (k+1)=upR (ofR s j) (i+1) pl k by rw [zhf,if_neg (fun h=>hi1 h.1)]);clear hi1;go_wp2;go_quiet (fail);go_wp2;exact ⟨⟨k+1,_,rfl,by omega,by go_num,by rw [HU.out];exact j7rb (HP.out.below (zq (Below.refl _ _) _))⟩,by simp [intOf];omega⟩
       ·have hk':k=(ofR s j).length:=by omega
        subst hk';have p1:¬ ((ofR s j).length:Int)<((ofR s j).length:Int):=by omega
        clear hkl hk
        obtain ⟨up,hup⟩:∃ up,upR (ofR s j) (i+1) pl (ofR s j).length=up:=⟨_,rfl⟩
        rw [hup] at HP;have HUP:=j7rb hup;clear hup
        obtain ⟨r,hr⟩:∃ r,scanR s j (i+1) (s.length - j) (j+1) 84=r:=⟨_,rfl⟩
        have HRR:=j7rb hr;clear hr;have hjw:IntKind.i64.wrap ((j:Int)+1)=(j:Int)+1:=IntWalk.i64_in _ (by omega)
        go_upto_block 6 with (fail)
        go_cut [10] (fun _ W=>∃ W1:World,W1=W∧Hid (PmI s w W1 (.slice (some ⟨g,off,none⟩) xs.length c) xs (.slice A2 (ofR s j).length c2) j pb [.int .i64 (mo (cnt r.1)),.int .i64 j,.int .i64 r.2.1,.int .i64 up,.bool r.2.2]))
        case first =>
         go_wp2
         go_loopw [10] (fun v10 W=>∃ (k:Nat) (cc:UInt8) (W1:World),W1=W∧j+1≤k∧k≤s.length+1∧v10 = .int .i64 k∧Hid (PmI s w W1 (.slice (some ⟨g,off,none⟩) xs.length c) xs (.slice A2 (ofR s j).length c2) j pb [.int .i64 (mo (cnt cc)),.int .i64 j,.int .i64 s.length,.int .i64 up,.bool true])∧Hid (scanR s j (i+1) (s.length+1 - k) k cc=r)) (fun v _=>s.length+1 - (intOf v).toNat)
         case atStart=>exact ⟨j+1,84,_,rfl,Nat.le_refl _,by omega,by go_num,HP,by rw [show s.length+1 - (j+1)=s.length - j by omega];exact HRR⟩
         case round =>
          clear HP HRR;obtain ⟨k,cc,W3,rfl,hk1,hk2,rfl,HP,HR⟩:=hrel;by_cases hkl:k≤s.length
          ·have k0:(0:Int)≤(k:Int):=by omega
           have k1:(k:Int)≤(s.length:Int):=by omega
           obtain ⟨y,g',off',c',hy,hv,-,-,-⟩:=HP.out.o.all.get (i:=k) hkl;cases hv;have HY:=j7rb hy;obtain ⟨b0,b1,b2⟩:=HP.out.o.all.c3 hy;obtain ⟨⟨d0,d1,d2,d3,d4⟩,f0,f2,f3,f4⟩:=HP.out.c5
           haveI:Old W3 pb:=⟨HP.out.bx.lt⟩
           have k2:(k:Int)<(xs.length:Int):=by have:=HP.out.o.all.len;omega
           have HAT:=j7rb (zjx (HP.out.o.all.st k y hy) (by have:=HRL.out k;rw [List.length_take] at this;omega) j);obtain ⟨hys,-,-⟩:=StR.place (HP.out.o.all.st k y hy);have hsc:=HR.out;rw [show s.length+1 - k=(s.length - k)+1 by omega,scanR] at hsc;clear hy HR;by_cases hm:j∈FP s k
           ·rw [if_pos hm] at hsc
            have hix:=(FP_far (s:=s) (fr:=j) (k:=j+1) (by omega) hk1 hkl hm).2;rw [HIX.out] at hix;have hil:=List.idxOf_lt_length_of_mem hm;rw [← hix,FP_len] at hil;rw [show atN (run (s.take k)) j=i+1 from (if_pos hm).trans (by rw [show fp (run (s.take k))=FP s k from rfl,← hix])] at HAT;have hlen:i+1<y.s.length:=by rw [hys,zad];omega
            have hlt:(lets (run (s.take k)).l).getD (i+1) 84=y.s[i+1]'hlen:=by rw [← hys,List.getD_eq_getElem?_getD,List.getElem?_eq_getElem hlen];rfl
            have HMO:=j7rb fun w=>zmt (y.s[i+1]'hlen) (zpf (wf_run (s.take k)) _ (by rw [← hys];exact List.getElem_mem _)) w;rw [hlt] at hsc;have HS:=j7rb hsc;have p0:(0:Int)≤(i:Int)+1:=by omega
            have p1:(i:Int)+1<(y.s.length:Int):=by omega
            have p2:((i:Int)+1).toNat=i+1:=by omega
            clear hm hix hil hlt hsc hys
            go_wp2_with (first
             | (go_at_call 101;refine HAT.out.mono ?_;rintro e w4 ⟨rfl,hb4⟩;have HP4:=j7rb (HP.out.below hb4);(try clear b0 b1 b2 d0 d1 d2 d3 d4 f0 f2 f3 f4);obtain ⟨b0,b1,b2⟩:=HP4.out.o.all.c3 HY.out;obtain ⟨⟨d0,d1,d2,d3,d4⟩,f0,f2,f3,f4⟩:=HP4.out.c5;haveI:Old w4 pb:=⟨HP4.out.bx.lt⟩;clear hb4)
             | (go_at_call 102;refine (HMO.out _).mono ?_;rintro e w5 ⟨rfl,rfl⟩))
            exact ⟨⟨k+1,_,_,rfl,by omega,by omega,by go_num,j7rb (HP4.out.set 0 (by simp) (.int .i64 (mo (cnt (y.s[i+1]'hlen))))),by rw [show s.length+1 - (k+1)=s.length - k by omega];exact HS⟩,by simp [intOf];omega⟩
           ·rw [if_neg hm] at hsc
            rw [show atN (run (s.take k)) j=0 from if_neg hm] at HAT;have HS:=j7rb hsc;clear hm hsc hys
            go_wp2_with (go_at_call 101;refine HAT.out.mono ?_;rintro e w4 ⟨rfl,hb4⟩;have HP4:=j7rb (HP.out.below hb4);(try clear b0 b1 b2 d0 d1 d2 d3 d4 f0 f2 f3 f4);obtain ⟨⟨d0,d1,d2,d3,d4⟩,f0,f2,f3,f4⟩:=HP4.out.c5;haveI:Old w4 pb:=⟨HP4.out.bx.lt⟩;clear hb4)
            go_meet;exact ⟨_,rfl,by rw [← HS.out];exact j7rb ((HP4.out.set 2 (by simp) (.int .i64 k)).set 4 (by simp) (.bool false))⟩
          ·have k1:¬ (k:Int)≤(s.length:Int):=by omega
           have hsc:=HR.out;rw [show s.length+1 - k=0 by omega,scanR] at hsc;have HS:=j7rb hsc;clear hsc HR;go_wp2;go_meet;exact ⟨_,rfl,by rw [← HS.out];exact HP⟩
        case rest =>
         clear HP;obtain ⟨W3,rfl,HP⟩:=hcut;obtain ⟨cc,t_,op⟩:=r;have hpr:partR s (ofR s j) j (i+1)=finP s ⟨cnt cc,j,t_,up,op⟩:=by unfold partR;rw [HRR.out,HPL.out,HUP.out]
         have hof:ofR s (j+1)=ofR s j++[finP s ⟨cnt cc,j,t_,up,op⟩]:=by rw [ofR,if_pos HM.out,HIX.out,hpr]
         have hto:=zpe s j (i+1) (s.length - j) (j+1) 84;rw [HRR.out] at hto;have HOF:=j7rb hof;have HTO:=j7rb hto;clear hpr hof hto;dsimp only at HP;obtain ⟨⟨d0,d1,d2,d3,d4⟩,f0,f2,f3,f4⟩:=HP.out.c5
         haveI:Old W3 pb:=⟨HP.out.bx.lt⟩
         have hds:=HP.out.o.all.be.size;obtain ⟨i2,hi2,hz20,hz21,hz22⟩:=info_parts zje;have h12:=mo_ne 76 (cnt cc) (by decide) 12 (by decide +kernel);by_cases h76:cnt cc=76
         ·rw [show (cnt cc == 76)=true by simpa using h76] at h12
          have HPA:=j7rb fun w=>zc5 s (j+1) w (by omega) (by omega);have hfin:=fin_l (s:=s) (p:=⟨cnt cc,j,t_,up,op⟩) h76;have hpn:=za3 s (j+1);have HFIN:=j7rb hfin;generalize paramN s (j+1)=pn at *;dsimp only at HFIN;rw [HFIN.out] at HOF;have q2:IntKind.i64.wrap ((j:Int)+1+(pn:Int))=(j:Int)+1+(pn:Int):=IntWalk.i64_in _ (by omega);clear h76 hfin hpn
          go_upto_region 28 with (first
           | (go_at_call 66;refine (HPA.out _).mono ?_;rintro e w5 ⟨rfl,rfl⟩))
          have HP2:=j7rb ((HP.out.set 2 (by simp) (.int .i64 ((j:Int)+1+(pn:Int)))).set 4 (by simp) (.bool false));generalize World.setCell (World.setCell W3 _ _) _ _=W4 at *;clear d0 d1 d2 d3 d4 f0 f2 f3 f4;obtain ⟨⟨d0,d1,d2,d3,d4⟩,f0,f2,f3,f4⟩:=HP2.out.c5
          haveI:Old W4 pb:=⟨HP2.out.bx.lt⟩
          have hds:=HP2.out.o.all.be.size
          go_wp2_with (at_builtin;refine zf _ rfl (.tmp 117) (.tmp 119) _ rfl w.heap.size 107 i2 _ 5 40 Tryz.underlying104 hi2 hz20 hz21 hz22 rfl (by decide) _ (ofR s j).length ((ofR s j).flatMap partC) rfl (HP2.out.o.own.below (za (Below.refl _ _) _)) _ 1 [.int .i64 (mo (cnt cc)),.int .i64 j,.int .i64 ((j:Int)+1+(pn:Int)),.int .i64 up,.bool false] rfl rfl (Src.one W4 [.int .i64 (mo (cnt cc)),.int .i64 j,.int .i64 ((j:Int)+1+(pn:Int)),.int .i64 up,.bool false] _ 1) (by intro u hu;simp at hu;rcases hu with rfl|rfl|rfl|rfl|rfl <;> rfl) (by unfold maxLen;omega) (by omega) (by first|(simp;done)|omega|(simp;omega)) ?_;intro v2 w2 hown2 hg2 hat2 hty2;have HTY2:=j7rb hty2;clear hty2)
          refine ⟨⟨j+1,v2,w2,rfl,rfl,by omega,by go_num,j7rb (HP2.out.next HOF.out ?_ hg2 hat2 HTY2.out)⟩,by simp [intOf];omega⟩;have e:partC ⟨cnt cc,j,j+1+pn,up,false⟩=[.int .i64 (mo (cnt cc)),.int .i64 j,.int .i64 ((j:Int)+1+(pn:Int)),.int .i64 up,.bool false]:=by simp [partC]
          rw [e];exact hown2
         ·rw [show (cnt cc == 76)=false by simpa using h76] at h12
          have hfin:finP s ⟨cnt cc,j,t_,up,op⟩=⟨cnt cc,j,t_,up,op⟩:=by
           cases op with
           | true =>
            have e:t_=s.length:=HTO.out rfl;rw [fin_o h76 rfl,e]
           | false=>exact fin_n h76 rfl
          rw [hfin] at HOF;clear h76 hfin
          go_wp2_with (at_builtin;refine zf _ rfl (.tmp 117) (.tmp 119) _ rfl w.heap.size 107 i2 _ 5 40 Tryz.underlying104 hi2 hz20 hz21 hz22 rfl (by decide) _ (ofR s j).length ((ofR s j).flatMap partC) rfl (HP.out.o.own.below (za (Below.refl _ _) _)) _ 1 [.int .i64 (mo (cnt cc)),.int .i64 j,.int .i64 t_,.int .i64 up,.bool op] rfl rfl (Src.one W3 [.int .i64 (mo (cnt cc)),.int .i64 j,.int .i64 t_,.int .i64 up,.bool op] _ 1) (by intro u hu;simp at hu;rcases hu with rfl|rfl|rfl|rfl|rfl <;> rfl) (by unfold maxLen;omega) (by omega) (by first|(simp;done)|omega|(simp;omega)) ?_;intro v2 w2 hown2 hg2 hat2 hty2;have HTY2:=j7rb hty2;clear hty2)
          exact ⟨⟨j+1,v2,w2,rfl,rfl,by omega,by go_num,j7rb (HP.out.next HOF.out hown2 hg2 hat2 HTY2.out)⟩,by simp [intOf];omega⟩
     ·rw [show atN (run (s.take (j+1))) j=0 from if_neg hm] at HAT
      have HS:=j7rb (OutI.skip (by omega) hm HO.out);clear hm
      go_wp2_with (go_at_call 101;refine HAT.out.mono ?_;rintro e w2 ⟨rfl,hb2⟩;have HS2:=j7rb (HS.out.below hb2);clear hb2)
      exact ⟨⟨j+1,_,_,rfl,rfl,by omega,by go_num,HS2⟩,by simp [intOf];omega⟩
    ·have hj':j=s.length:=by omega
     subst hj';have h1:¬ (s.length:Int)<(s.length:Int):=by omega
     clear hlt;go_wp2;go_ret;exact ⟨_,rfl,HO.out.own,HO.out.nil,HO.out.all.be⟩
end Go.Proofs.YtfmecpnokefokaaGreatDoor.Pa
