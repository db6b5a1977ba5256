/-
  A tree of files in memory (layer 18); find. Conditions: paths of at most 2^30 bytes; the library's variable MaxLen holds some number.
-/
import Derived.Test.YtjcdmjdofdnaoaaGreatDoorFil3
import Derived.Test.YtjcdmjdofdnaoaaGreatDoorProg
import Derived.Test.YtjcdmjdofdnaoaaGreatDoorOwn
import Derived.Maps.OwnSet
import Derived.Maps.Views
import Derived.Maps.RangeWalk
import Derived.StringKeys
set_option linter.unusedSimpArgs false
set_option linter.unusedVariables false
namespace Go.Proofs.YtjcdmjdofdnaoaaGreatDoor.Fil
open Go.ChangeShapes Go.WideShapes Go.Deep Go.RowKit
structure Fl where
 path:List UInt8
 kind:Int
def kindL (x:List Fl) (p:List UInt8):Int:=if p=[47] then 1 else match x.find? (fun f=>f.path == p) with
 | some f=>f.kind
 | none=>0
def txt (ks:List (List UInt8)):List UInt8:=if ks=[] then [47] else joinN ks
def nms (p:List UInt8):List (List UInt8):=if p=[47] then [] else partsL p.tail
theorem zgs:∀ t,joinN (partsL t)=47 :: t
 | []=>rfl
 | c :: r=>by
  have ih:=zgs r;rw [zbc]
  split
  ·rename_i h;subst h
   rw [show [] :: partsL r=[[]]++partsL r from rfl,zan,ih];rfl
  ·cases hp:partsL r with
   | nil=>exact absurd hp (zcs r)
   | cons p ps =>
    rw [hp,show p :: ps=[p]++ps from rfl,zan] at ih
    show joinN ([c :: p]++ps)=_
    rw [zan];have e:joinN [c :: p]=47 :: c :: p:=by simp [joinN]
    have e2:joinN [p]=47 :: p:=by simp [joinN]
    rw [e];rw [e2] at ih;simp at ih ⊢;exact ih
theorem nms_ok {p:List UInt8} (h:pathB p=true):txt (nms p)=p∧∀ n∈nms p,nameB n=true:=by
 unfold nms;by_cases h1:p=[47]
 ·rw [if_pos h1];exact ⟨by rw [h1];rfl,by simp⟩
 ·rw [if_neg h1]
  unfold pathB at h;rw [show (p == [47])=false by rw [beq_eq_false_iff_ne];exact h1,Bool.false_or,Bool.and_eq_true] at h
  obtain ⟨t,rfl⟩:∃ t,p=47 :: t:=by
   cases p with
   | nil=>cases h.1
   | cons c r=>exact ⟨r,by have:=h.1;simp at this;rw [this]⟩
  refine ⟨?_,List.all_eq_true.1 h.2⟩;unfold txt;rw [if_neg (zcs _)];exact zgs t
theorem zdn {n:List UInt8} (h:nameB n=true):47 ∉ n∧n≠[]∧n.length≤255:=by
 unfold nameB at h;simp at h;obtain ⟨⟨⟨⟨⟨h1,h2⟩,h3⟩,h4⟩,h5⟩,h6⟩:=h;exact ⟨h5,h1,h4⟩
theorem zcd {ks:List (List UInt8)} (h:∀ n∈ks,nameB n=true):nms (txt ks)=ks:=by
 unfold txt;by_cases h1:ks=[]
 ·rw [if_pos h1,h1];rfl
 ·rw [if_neg h1]
  have hp:=zf8 h1 fun n hn=>(zdn (h n hn)).1
  cases ks with
  | nil=>exact absurd rfl h1
  | cons k r =>
   have e:joinN (k :: r)=47 :: (k++joinN r):=by simp [joinN]
   rw [e] at hp ⊢;rw [zbc,if_pos rfl] at hp;unfold nms;rw [if_neg,List.tail_cons,(List.cons.inj hp).2];intro e2;have:=(List.cons.inj e2).2;have hk:=(zdn (h k (by simp))).2.1;exact hk (List.append_eq_nil_iff.1 this).1
theorem zkc {ks:List (List UInt8)} (h:∀ n∈ks,nameB n=true):pathB (txt ks)=true:=by
 have e:=zcd h;unfold pathB;rw [Bool.or_eq_true,Bool.and_eq_true];by_cases h1:ks=[]
 ·left;rw [h1];rfl
 ·right
  have h2:txt ks≠[47]:=fun q=>by rw [q] at e;exact h1 (e.symm.trans rfl)
  unfold nms at e;rw [if_neg h2] at e;refine ⟨?_,by rw [e];exact List.all_eq_true.2 h⟩;unfold txt;rw [if_neg h1]
  cases ks with
  | nil=>exact absurd rfl h1
  | cons k r=>simp [joinN]
theorem zl5 {ks js:List (List UInt8)} (h:∀ n∈ks,nameB n=true) (h':∀ n∈js,nameB n=true) (e:txt ks=txt js):ks=js:=by
 rw [← zcd h,← zcd h',e]
def kd (x:List Fl) (ks:List (List UInt8)):Option Int:=if ks=[] then some 1 else if ks.all nameB=true then (x.find? fun f=>f.path == txt ks).map Fl.kind else none
theorem kd_nil (x:List Fl):kd x []=some 1:=rfl
theorem zkd {x:List Fl} {ks:List (List UInt8)} (h:(kd x ks).isSome=true):∀ n∈ks,nameB n=true:=by
 unfold kd at h;by_cases h1:ks=[]
 ·rw [h1];simp
 ·rw [if_neg h1] at h
  by_cases h2:ks.all nameB=true
  ·exact List.all_eq_true.1 h2
  ·rw [if_neg h2] at h;cases h
structure RowF (x:List Fl):Prop where
 p:∀ f∈x,pathB f.path=true∧f.path≠[47]∧1≤f.kind∧f.kind≤3
 d:x.Pairwise fun a b=>a.path≠b.path
 u:∀ ks a,(kd x (ks++[a])).isSome=true→kd x ks=some 1
theorem zce {x:List Fl} (h:RowF x) {p:List UInt8} (hp:pathB p=true):kindL x p=(kd x (nms p)).getD 0:=by
 obtain ⟨h1,h2⟩:=nms_ok hp;unfold kindL kd;by_cases e:p=[47]
 ·rw [if_pos e,e];rfl
 ·have hn:nms p≠[]:=fun q=>by rw [q] at h1;exact e h1.symm
  rw [if_neg e,if_neg hn,if_pos (List.all_eq_true.2 h2),h1]
  cases x.find? fun f=>f.path == p <;> rfl
theorem kd_pos {x:List Fl} (h:RowF x) {ks:List (List UInt8)} {k:Int} (hk:kd x ks=some k):1≤k∧k≤3:=by
 unfold kd at hk
 split at hk
 ·cases hk;omega
 ·split at hk
  ·cases hf:x.find? (fun f=>f.path == txt ks) with
   | none=>rw [hf] at hk;cases hk
   | some f =>
    rw [hf] at hk;cases hk;exact (h.p f (List.mem_of_find?_eq_some hf)).2.2
  ·cases hk
open Go.ChangeShapes Go.WideShapes Go.Deep Go.RowKit Go.MapKept Go.WideMaps Go.ChangeMaps
set_option maxRecDepth 100000
def ptrR:Value→Option (DataW Unit×List MemPlace)
 | .pointer none=>some (.lit (.bool false),[])
 | .pointer (some ⟨b,0,none⟩)=>some (.lit (.int .i64 b),[])
 | _=>none
def ptrD:Option Nat→DataW Unit
 | none=>.lit (.bool false)
 | some b=>.lit (.int .i64 b)
def ptrV:Option Nat→Value
 | none=>.pointer none
 | some b=>.pointer (some ⟨b,0,none⟩)
theorem ptrR_V (o:Option Nat):ptrR (ptrV o)=some (ptrD o,[]):=by cases o <;> rfl
theorem ptrR_inv {v:Value} {o:Option Nat} {ps:List MemPlace} (h:ptrR v=some (ptrD o,ps)):v=ptrV o:=by
 unfold ptrR at h
 split at h
 ·cases o with
  | none=>rfl
  | some b=>simp [ptrD] at h
 ·cases o with
  | none=>simp [ptrD] at h
  | some b =>
   simp [ptrD] at h;have h1:=Int.ofNat_inj.1 h.1;rw [h1];rfl
 ·cases h
theorem keyedS:Maps.Keyed Tryz.prog 9:=Maps.string_keyed Tryz.underlying9
theorem keyS (a:List UInt8) (h:a.length≤1073741824):keyOf Tryz.prog 9 (.string (B a))=some (.string a):=by
 rw [keyOf_string_mk Tryz.underlying9 (by rw [B_size];unfold maxLen;omega),B_data]
theorem zke {v:Value} {kl:Lit} (h:keyOf Tryz.prog 9 v=some kl):∃ a,v = .string (B a)∧kl = .string a:=by
 rw [keyOf_string Tryz.underlying9] at h
 cases v with
 | string s =>
  obtain ⟨a,rfl⟩:=B_all s;simp [mapKey,Tryz.underlying9] at h;exact ⟨a,rfl,by rw [← h.2,B_data]⟩
 | _=>simp [mapKey,Tryz.underlying9] at h
theorem keyLit (a:List UInt8):WideAt.IsKeyLit (.string a):=by first|trivial|simp [WideAt.IsKeyLit]
theorem zeroPtr (w:World):(zeroValue 71).run Tryz.prog w = .ok (.pointer none) w:=by kernel_rfl
theorem eqlSome (r:Nat) (w:World):(binOp .eql 72 (.map (some r)) (.map none)).run Tryz.prog w = .ok (.bool false) w:=by kernel_rfl
theorem eqlNil (w:World):(binOp .eql 72 (.map none) (.map none)).run Tryz.prog w = .ok (.bool true) w:=by kernel_rfl
structure KidsAt (w:World) (r:Nat) (g:List UInt8→Option Nat) (c:Nat):Prop where
 m:∃ D,w.ownsMap Tryz.prog 9 ptrR r c D∧Maps.size D=c∧(∀ a,D.atKey (.string a) (ptrD none)=ptrD (g a))∧(∀ a,Maps.has D (.string a)=(g a).isSome)∧(∀ kl,Maps.has D kl=true→∃ a,kl = .string a)
 s:∀ a,(g a).isSome=true→a.length≤1073741824
theorem KidsAt.lt {w:World} {r c:Nat} {g:List UInt8→Option Nat} (h:KidsAt w r g c):r<w.heap.size:=by obtain ⟨D,h1,_⟩:=h.m;exact h1.lt
theorem KidsAt.block {w w':World} {r c:Nat} {g:List UInt8→Option Nat} (h:KidsAt w r g c) (hb:w'.heap[r]?=w.heap[r]?):KidsAt w' r g c:=by
 obtain ⟨D,⟨es,ck,k1,k2⟩,h2⟩:=h.m;exact ⟨⟨D,⟨es,ck,hb.trans k1,k2⟩,h2⟩,h.s⟩
theorem KidsAt.keeps {F:Nat→Prop} {w w':World} {r c:Nat} {g:List UInt8→Option Nat} (h:KidsAt w r g c) (hk:Keeps F w w') (hF:¬ F r):KidsAt w' r g c:=h.block (hk.block r h.lt hF)
theorem KidsAt.below {w w':World} {r c:Nat} {g:List UInt8→Option Nat} (h:KidsAt w r g c) (hb:Below w.heap.size w w'):KidsAt w' r g c:=h.block (hb.block r h.lt)
theorem KidsAt.new (w:World):KidsAt (w.alloc (.map #[] 0)) w.heap.size (fun _=>none) 0 :=
 ⟨⟨.map [],World.ownsMap_made w Tryz.prog 9 ptrR,rfl,fun a=>rfl,fun a=>rfl,fun kl h=>by cases h⟩,fun a h=>by cases h⟩
theorem KidsAt.look {w:World} {r c:Nat} {g:List UInt8→Option Nat} (h:KidsAt w r g c) (a:List UInt8) (ha:a.length≤1073741824):(Instr.lookup 72 (.map (some r)) (.string (B a)) false).run Tryz.prog w = .ok (ptrV (g a)) w:=by
 obtain ⟨D,h1,h2,h3,h4,h5⟩:=h.m;obtain ⟨v,ps,hr,hv⟩:=h1.lookup (t:=72) (e:=71) keyedS Tryz.underlying72 (zeroPtr w) (zd:=ptrD none) (zp:=[]) rfl (keyS a ha);rw [h3] at hv;rw [hr,ptrR_inv hv]
theorem look_nil (w:World) (a:List UInt8) (ha:a.length≤1073741824):(Instr.lookup 72 (.map none) (.string (B a)) false).run Tryz.prog w = .ok (ptrV none) w :=
 Maps.look_nil (e:=71) false keyedS Tryz.underlying72 (zeroPtr w) (keyS a ha)
theorem size_same {w:World} {P:Program} {k:TypeId} {R:Value→Option (DataW Unit×List MemPlace)} {b n:Nat} {D:DataW Unit} (h:w.ownsMap P k R b n D):w.ownsMap P k R b (Maps.size D) D:=by
 obtain ⟨es,ck,h1,h2,h3,rfl⟩:=h;exact ⟨es,ck,h1,h2,by simp [Maps.size,length_sorted],rfl⟩
theorem KidsAt.put {w:World} {r c b:Nat} {g:List UInt8→Option Nat} (h:KidsAt w r g c) (a:List UInt8) (ha:a.length≤1073741824) (hn:g a=none) (hc:c<1099511627776) :
  ∃ w',(Instr.mapUpdate 72 (.map (some r)) (.string (B a)) (.pointer (some ⟨b,0,none⟩))).run Tryz.prog w = .ok () w'∧KidsAt w' r (fun x=>if x=a then some b else g x) (c+1)∧w.mapTurned w' r:=by
 obtain ⟨D,h1,h2,h3,h4,h5⟩:=h.m;obtain ⟨w',hr,ho,ht⟩:=h1.store (t:=72) (e:=71) keyedS Tryz.underlying72 (by unfold maxLen;omega) (keyS a ha) (ptrR_V (some b))
 have hz:Maps.size (D.put (.string a) (ptrD (some b)))=c+1:=by
  rw [Maps.size_put (h1.tidy keyedS),h4,hn,h2];rfl
 refine ⟨w',hr,⟨⟨_,by have:=size_same ho;rwa [hz] at this,hz,fun x=>?_,fun x=>?_,fun kl hk=>?_⟩,fun x hx=>?_⟩,ht⟩
 ·by_cases e:x=a
  ·subst e;rw [if_pos rfl,Maps.atKey_put_same (h1.isMap) (keyLit x)]
  ·rw [if_neg e,Maps.atKey_put_other (by simpa using e),h3]
 ·by_cases e:x=a
  ·subst e;rw [if_pos rfl,Maps.has_put_same (h1.isMap) (keyLit x)];rfl
  ·rw [if_neg e,Maps.has_put_other (by simpa using e),h4]
 ·by_cases e:kl = .string a
  ·exact ⟨a,e⟩
  ·rw [Maps.has_put_other e] at hk;exact h5 kl hk
 ·by_cases e:x=a
  ·subst e;exact ha
  ·rw [if_neg e] at hx;exact h.s x hx
theorem KidsAt.del {w:World} {r c:Nat} {g:List UInt8→Option Nat} (h:KidsAt w r g c) (a:List UInt8) (ha:a.length≤1073741824) (hn:(g a).isSome=true) (ty:TypeId) :
  ∃ w',(Builtin.delete_ #[72,9] ty #[.map (some r),.string (B a)]).run Tryz.prog w = .ok (.tuple #[]) w'∧KidsAt w' r (fun x=>if x=a then none else g x) (c - 1)∧w.mapTurned w' r:=by
 obtain ⟨D,h1,h2,h3,h4,h5⟩:=h.m;obtain ⟨w',hr,ho,ht⟩:=h1.drop (t:=72) (e:=71) keyedS Tryz.underlying72 (keyS a ha) ty
 have hz:Maps.size (D.del (.string a))=c - 1:=by
  have:=Maps.size_del (k:=.string a) (h1.tidy keyedS);rw [h4,hn,h2] at this;simp at this;omega
 refine ⟨w',hr,⟨⟨_,by have:=size_same ho;rwa [hz] at this,hz,fun x=>?_,fun x=>?_,fun kl hk=>?_⟩,fun x hx=>?_⟩,ht⟩
 ·by_cases e:x=a
  ·subst e;rw [if_pos rfl,Maps.atKey_del_same]
  ·rw [if_neg e,Maps.atKey_del_other (by simpa using e),h3]
 ·by_cases e:x=a
  ·subst e;rw [if_pos rfl,Maps.has_del_same];rfl
  ·rw [if_neg e,Maps.has_del_other (by simpa using e),h4]
 ·by_cases e:kl = .string a
  ·exact ⟨a,e⟩
  ·rw [Maps.has_del_other e] at hk;exact h5 kl hk
 ·by_cases e:x=a
  ·subst e;exact ha
  ·rw [if_neg e] at hx;exact h.s x hx
theorem keeps_turned {w w':World} {r:Nat} (h:w.mapTurned w' r):Keeps (fun k=>k=r) w w':=by
 have hg:=h.grown;refine ⟨hg.os,hg.tape,hg.output,hg.size,fun k hk hF=>hg.block k hk (fun e=>hF (Option.some.inj e)),fun k hk=>?_⟩;by_cases e:k=r
 ·subst e
  obtain ⟨es,ck,es',ck',h1,rfl⟩:=h;unfold tyOf;rw [h1,heap_setBlock_same h1]
 ·exact zf (hg.block k hk (fun q=>e (Option.some.inj q)))
open Go.ChangeShapes Go.WideShapes Go.Deep Go.RowKit Go.Shelf Pat
attribute [local go_sem] Oper.semAt_some
def below (x:List Fl) (nb:List (List UInt8)→Nat) (ks:List (List UInt8)) (a:List UInt8):Option Nat:=if (kd x (ks++[a])).isSome=true then some (nb (ks++[a])) else none
structure TreeAt (w:World) (b0 tb:Nat) (x:List Fl) (nb:List (List UInt8)→Nat) (mp:List (List UInt8)→Option Nat):Prop where
 lt:tb<w.heap.size
 ge:b0≤tb
 t0:w.cell? ⟨tb,0,none⟩=some (.pointer (some ⟨nb [],0,none⟩))
 t1:w.cell? ⟨tb,1,none⟩=some (.int .i64 x.length)
 tf:∀ j,w.frozen? ⟨tb,j,none⟩=false
 ok:RowF x
 n:∀ ks k,kd x ks=some k→b0≤nb ks∧nb ks<w.heap.size∧nb ks≠tb∧w.cell? ⟨nb ks,0,none⟩=some (.int .i64 k)∧w.cell? ⟨nb ks,1,none⟩=some (.map (mp ks))∧∀ j,w.frozen? ⟨nb ks,j,none⟩=false
 k0:∀ ks,(kd x ks).isSome=true→mp ks=none→∀ a,kd x (ks++[a])=none
 k1:∀ ks r,(kd x ks).isSome=true→mp ks=some r→b0≤r∧∃ c,KidsAt w r (below x nb ks) c∧c≤x.length
 i:∀ ks js,(kd x ks).isSome=true→(kd x js).isSome=true→nb ks=nb js→ks=js
 im:∀ ks js r,(kd x ks).isSome=true→(kd x js).isSome=true→mp ks=some r→mp js=some r→ks=js
theorem TreeAt.below {w w':World} {b0 tb:Nat} {x:List Fl} {nb:List (List UInt8)→Nat} {mp:List (List UInt8)→Option Nat} (h:TreeAt w b0 tb x nb mp) (hb:Below w.heap.size w w'):TreeAt w' b0 tb x nb mp:=by
 refine ⟨Nat.lt_of_lt_of_le h.lt hb.size,h.ge,(hb.cell (p:=⟨tb,0,none⟩) h.lt).trans h.t0,(hb.cell (p:=⟨tb,1,none⟩) h.lt).trans h.t1,fun j=>(hb.frozen (p:=⟨tb,j,none⟩) h.lt).trans (h.tf j),h.ok,fun ks k hk=>?_,h.k0,fun ks r h1 h2=>?_,h.i,h.im⟩
 ·obtain ⟨n1,n2,n3,n4,n5,n6⟩:=h.n ks k hk
  exact ⟨n1,Nat.lt_of_lt_of_le n2 hb.size,n3,(hb.cell (p:=⟨nb ks,0,none⟩) n2).trans n4,(hb.cell (p:=⟨nb ks,1,none⟩) n2).trans n5,fun j=>(hb.frozen (p:=⟨nb ks,j,none⟩) n2).trans (n6 j)⟩
 ·obtain ⟨k1,c,k2,k3⟩:=h.k1 ks r h1 h2
  exact ⟨k1,c,k2.below hb,k3⟩
theorem TreeAt.look {w:World} {b0 tb:Nat} {x:List Fl} {nb:List (List UInt8)→Nat} {mp:List (List UInt8)→Option Nat} (h:TreeAt w b0 tb x nb mp) {ks:List (List UInt8)} (hk:(kd x ks).isSome=true) (a:List UInt8) (ha:a.length≤1073741824) :
  (Instr.lookup 72 (.map (mp ks)) (.string (B a)) false).run Tryz.prog w = .ok (ptrV (Fil.below x nb ks a)) w:=by
 cases hm:mp ks with
 | none =>
  have:=h.k0 ks hk hm a;unfold Fil.below;rw [this];exact look_nil w a ha
 | some r =>
  obtain ⟨_,c,k2,_⟩:=h.k1 ks r hk hm;exact k2.look a ha
def nodeV (x:List Fl) (nb:List (List UInt8)→Nat) (ks:List (List UInt8)):Value:=ptrV (if (kd x ks).isSome=true then some (nb ks) else none)
theorem kd_up {x:List Fl} (h:RowF x) (ks:List (List UInt8)):∀ (n:Nat) (js:List (List UInt8)),js.length=n→(kd x (ks++js)).isSome=true→(kd x ks).isSome=true
 | 0,js,hl,hk=>by
  rw [List.eq_nil_of_length_eq_zero hl,List.append_nil] at hk;exact hk
 | n+1,js,hl,hk=>by
  rcases List.eq_nil_or_concat js with rfl|⟨l,a,rfl⟩
  ·cases hl
  ·rw [List.concat_eq_append,← List.append_assoc] at hk
   exact kd_up h ks n l (by rw [List.length_concat] at hl;omega) (by rw [h.u _ _ hk];rfl)
structure FindI (w:World) (x:List Fl) (nb:List (List UInt8)→Nat) (q:List (List UInt8)) (W:World):Prop where
 r:∃ v,W.cell? ⟨w.heap.size,0,none⟩=some v
 rf:W.frozen? ⟨w.heap.size,0,none⟩=false
 a:W.cell? ⟨w.heap.size+1,0,none⟩=some (.pointer (some ⟨nb q,0,none⟩))
 af:W.frozen? ⟨w.heap.size+1,0,none⟩=false
 k:(kd x q).isSome=true
 b:Below w.heap.size w W
 s:w.heap.size+3≤W.heap.size
structure FindX (w:World) (x:List Fl) (q:List (List UInt8)) (W:World):Prop where
 r:W.cell? ⟨w.heap.size,0,none⟩=some (.pointer none)
 k:kd x q=none
 b:Below w.heap.size w W
 s:w.heap.size+3≤W.heap.size
theorem FindI.lull {w W W':World} {A:Nat} {x:List Fl} {nb:List (List UInt8)→Nat} {q:List (List UInt8)} (h:FindI w x nb q W) (hL:Lull A W W') (hA:w.heap.size≤A):FindI w x nb q W':=by
 obtain ⟨v,hv⟩:=h.r;exact ⟨⟨v,hL.cell hv⟩,(hL.frozen hv).trans h.rf,hL.cell h.a,(hL.frozen h.a).trans h.af,h.k,hL.below h.b hA (Nat.le_refl _),Nat.le_trans h.s hL.size⟩
theorem FindX.lull {w W W':World} {A:Nat} {x:List Fl} {q:List (List UInt8)} (h:FindX w x q W) (hL:Lull A W W') (hA:w.heap.size≤A):FindX w x q W' :=
 ⟨hL.cell h.r,h.k,hL.below h.b hA (Nat.le_refl _),Nat.le_trans h.s hL.size⟩
theorem FindI.keeps {w W W':World} {b:Nat} {x:List Fl} {nb:List (List UInt8)→Nat} {q:List (List UInt8)} (h:FindI w x nb q W) (hk:Keeps (fun k=>k=b) W W') (hb:w.heap.size+1<b):FindI w x nb q W':=by
 have hs:=h.s;have h0:=hk.block w.heap.size (by omega) (by omega);have h1:=hk.block (w.heap.size+1) (by omega) (by omega);obtain ⟨v,hv⟩:=h.r;exact ⟨⟨v,(World.cell?_of_block (w:=W) h0).trans hv⟩,(World.frozen?_of_block (w:=W) h0).trans h.rf,(World.cell?_of_block (w:=W) h1).trans h.a,(World.frozen?_of_block (w:=W) h1).trans h.af,h.k,ze h.b hk (fun k e=>by omega),Nat.le_trans hs hk.size⟩
theorem FindX.keeps {w W W':World} {b:Nat} {x:List Fl} {q:List (List UInt8)} (h:FindX w x q W) (hk:Keeps (fun k=>k=b) W W') (hb:w.heap.size+1<b):FindX w x q W':=by
 have hs:=h.s;have h0:=hk.block w.heap.size (by omega) (by omega);exact ⟨(World.cell?_of_block (w:=W) h0).trans h.r,h.k,ze h.b hk (fun k e=>by omega),Nat.le_trans hs hk.size⟩
set_option maxHeartbeats 6400000 in
theorem find_any (w:World) (b0 tb:Nat) (x:List Fl) (nb:List (List UInt8)→Nat) (mp:List (List UInt8)→Option Nat) (p:List UInt8) (h:TreeAt w b0 tb x nb mp) (hm:MaxL w) (hp:pathB p=true) (hl:p.length≤1073741824) :
  Calls Tryz.prog 28 #[.pointer (some ⟨tb,0,none⟩),.string (B p)] w fun e w'=>e = .returned (nodeV x nb (nms p))∧Below w.heap.size w w':=by
 have H:=Lib.hid h;have t0:=h.t0;have hlt:=h.lt
 haveI:Old w tb:=⟨h.lt⟩
 have hms:=hm.lt;clear h;by_cases n1:p=[47]
 ·subst n1
  have HV:Hid (nodeV x nb (nms [47]) = .pointer (some ⟨nb [],0,none⟩)):=rfl;go_enter Tryz.func28,Tryz.ntmps28;go_wp2;refine bodyPost_ret (v:=(.pointer (some ⟨nb [],0,none⟩))) (by simp [results,Tryz.results28,go_sem]) rfl ?_;exact ⟨by rw [HV.out],zzb⟩
 obtain ⟨t,rfl⟩:∃ t,p=47 :: t:=by
  have:=zeg hp
  cases p with
  | nil=>cases this
  | cons c r=>exact ⟨r,by simp at this;rw [this]⟩
 have hnm:nms (47 :: t)=partsL t:=by unfold nms;rw [if_neg n1];rfl
 rw [hnm];have ht:¬ t=[]:=fun e=>n1 (by rw [e]);have ht2:t.isEmpty=false:=by simpa using ht
 have HGV:=Lib.hid (zc5 t ((w.alloc (.cells #[.pointer none] 71)).alloc (.cells #[.pointer (some ⟨nb [],0,none⟩)] 71)) (hm.below (zzb)) (by simp at hl;omega));have HPA:=Lib.hid fun w=>zef t w;have hpm:=fun a (ha:a∈partsL t)=>(zbk ha).2;have HPM:=Lib.hid hpm;have HV:=Lib.hid (show nodeV x nb (partsL t)=ptrV (if (kd x (partsL t)).isSome=true then some (nb (partsL t)) else none) from rfl);clear hm n1 hp hnm hpm;simp only [List.length_cons] at hl;generalize nodeV x nb (partsL t)=res at *;generalize hps:partsL t=ps at *;clear hps;refine (callsIn_wide (n:=9)).1 ?_;refine callsIn_of_wp_marks Tryz.func28 rfl trivial ?_ rfl;simp only [Tryz.ntmps28,List.size_toArray,List.length_cons,List.length_nil,Nat.reduceAdd,Nat.reduceSub,Array.replicate_succ,Array.replicate_zero,List.push_toArray,List.append_toArray,List.nil_append,List.cons_append]
 refine wpIn_wide.2 ?_
 go_wp2_with (first|(go_at_call 36;refine (HPA.out _).mono ?_;rintro e w1 ⟨rfl,rfl⟩))
 refine (wpIn_wide (n:=9)).1 ?_;have HG:=HGV.out;simp only [World.size_alloc] at HG;have HGK:Hid (∀ k,(k=w.heap.size+1+1∨k=0)→k<w.heap.size+1+1+1∧k≠w.heap.size∧k≠w.heap.size+1):=fun k hk=>by omega
 refine zdq (n:=9) (by omega) (gf:=58) rfl (enters_of Tryz.func58 (by kernel_rfl) rfl) HG (by simp) (fun k hk=>by have:=(HGK.out k hk).1;simpa using this) (fun _=>rfl)
  (fun q W=>FindI w x nb q W) (fun c q W=>c = .ret∧FindX w x q W)
  (fun s W W' hL h=>h.lull hL (by simp;omega)) (fun c s W W' hL ⟨e,h⟩=>⟨e,h.lull hL (by simp;omega)⟩)
  (fun s W W' hk h=>h.keeps hk (by simp)) (fun c s W W' hk ⟨e,h⟩=>⟨e,h.keeps hk (by simp)⟩)
  ?init
  (fun a a' W'=>a' = { tmps:=#[.pointer (some ⟨tb,0,none⟩),.string (B (47 :: t)),undef,undef,.pointer (some ⟨w.heap.size,0,none⟩),.pointer (some ⟨w.heap.size+1,0,none⟩),.string (B a),.pointer (some ⟨tb,0,none⟩),.pointer (some ⟨tb,0,none⟩),.pointer (some ⟨tb,0,none⟩),.pointer (some ⟨nb [],0,none⟩),.string (B (47 :: t)),.bool false,.bool false,.pointer (some ⟨nb [],0,none⟩),.bool false,.bool false,undef,.string (B (47 :: t)),.string (B t),.func (.func 58) #[] #[.pointer (some ⟨w.heap.size+1+1,0,none⟩)],.string (B a),undef,undef,undef,undef,undef,undef,undef,undef,undef],defers:=[] }) (fun a a' W W' hL h=>h) ?assign ?body ?done ?stop
 case init=>exact ⟨⟨_,by go_simp;rfl⟩,by simp [go_sem],by go_simp,by simp [go_sem],rfl,zzb,by simp⟩
 case assign =>
  intro l q a W K hi hs hK;have HK:=Lib.hid (hK { tmps:=#[.pointer (some ⟨tb,0,none⟩),.string (B (47 :: t)),undef,undef,.pointer (some ⟨w.heap.size,0,none⟩),.pointer (some ⟨w.heap.size+1,0,none⟩),.string (B a),.pointer (some ⟨tb,0,none⟩),.pointer (some ⟨tb,0,none⟩),.pointer (some ⟨tb,0,none⟩),.pointer (some ⟨nb [],0,none⟩),.string (B (47 :: t)),.bool false,.bool false,.pointer (some ⟨nb [],0,none⟩),.bool false,.bool false,undef,.string (B (47 :: t)),.string (B t),.func (.func 58) #[] #[.pointer (some ⟨w.heap.size+1+1,0,none⟩)],.string (B a),undef,undef,undef,undef,undef,undef,undef,undef,undef],defers:=[] } _ (KeepsFrom.refl _ _) (fun _ _=>rfl) hi rfl);clear hK;unfold encS at *
  gi_wp2
  exact HK.out
 case body =>
  rintro l q a a' W hs h1 rfl hlq;have hs':w.heap.size+3≤W.heap.size:=h1.s;have H1:=Lib.hid h1;obtain ⟨v,hv⟩:=h1.r;have hz:=h1.rf;have ha:=h1.a;have haf:=h1.af;have hk:=h1.k;obtain ⟨k,hkk⟩:=Option.isSome_iff_exists.1 hk;have HT:=Lib.hid (H.out.below h1.b);obtain ⟨n1,n2,n3,n4,n5,n6⟩:=HT.out.n q k hkk;have hal:a.length≤1073741824:=by have:=HPM.out a (hlq.subset (by simp));omega
  have hlk:=HT.out.look hk a hal
  haveI:Old W (w.heap.size):=⟨by omega⟩
  haveI:Old W (w.heap.size+1):=⟨by omega⟩
  haveI:Old W (nb q):=⟨n2⟩
  clear h1 hkk n1 n3
  cases hc:kd x (q++[a]) with
  | none =>
   have HLK:Hid (Fil.below x nb q a=none):=by show _=_;unfold Fil.below;rw [hc];rfl
   rw [HLK.out] at hlk;unfold ptrV at hlk
   gi_wp2
   have hS:=(Keeps.setCell (F:=fun k=>k=w.heap.size∨k=w.heap.size+1) W (a:=⟨w.heap.size+1,0,none⟩) (.inr rfl) (.pointer none)).trans (Keeps.setCell (F:=fun k=>k=w.heap.size∨k=w.heap.size+1) (W.setCell ⟨w.heap.size+1,0,none⟩ (.pointer none)) (a:=⟨w.heap.size,0,none⟩) (.inl rfl) (.pointer none));refine ⟨KeepsFrom.of_keeps hS (fun k hF _ hA=>by omega),rfl,⟨?_,hc,ze H1.out.b hS (fun k hk=>by omega),Nat.le_trans H1.out.s hS.size⟩⟩;exact World.cell?_setCell_same' _ _ _ (by rw [World.cell?_setCell_other _ _ _ _ (by simp),hv];rfl)
  | some k2 =>
   have HLK:Hid (Fil.below x nb q a=some (nb (q++[a]))):=by show _=_;unfold Fil.below;rw [hc];rfl
   rw [HLK.out] at hlk;unfold ptrV at hlk
   gi_wp2
   have hS:=Keeps.setCell (F:=fun k=>k=w.heap.size+1) W (a:=⟨w.heap.size+1,0,none⟩) rfl (.pointer (some ⟨nb (q++[a]),0,none⟩));have hb0:=hS.block w.heap.size (by omega) (by omega);refine ⟨KeepsFrom.of_keeps hS (fun k hF _ hA=>by omega),KeepG.of_keeps hS (fun k hk=>by have:=(HGK.out k hk).1;omega) (fun k hk e=>by have:=(HGK.out k hk).2;omega),⟨v,(World.cell?_of_block (w:=W) hb0).trans hv⟩,by rw [World.frozen?_setCell];exact hz,World.cell?_setCell_same' _ _ _ (by rw [ha];rfl),by rw [World.frozen?_setCell];exact haf,by rw [hc];rfl,ze H1.out.b hS (fun k hk=>by omega),Nat.le_trans H1.out.s hS.size⟩
 case done =>
  rintro D W hD h1 hK;have hD':w.heap.size+1+1+1≤D:=by simpa using hD
  obtain ⟨v,hv⟩:=h1.r;have hz:=h1.rf;have ha:=h1.a;have hs':=h1.s
  haveI:Old W (w.heap.size):=⟨by omega⟩
  haveI:Old W (w.heap.size+1):=⟨by omega⟩
  have HR:Hid (res = .pointer (some ⟨nb ps,0,none⟩)):=by show _=_;rw [HV.out,if_pos h1.k];rfl
  have H1:=Lib.hid h1;clear h1
  gi_wp2
  go_wp2;have hS:=Keeps.setCell (F:=fun k=>k=w.heap.size) W (a:=⟨w.heap.size,0,none⟩) rfl (.pointer (some ⟨nb ps,0,none⟩));have q0:(W.setCell ⟨w.heap.size,0,none⟩ (.pointer (some ⟨nb ps,0,none⟩))).cell? ⟨w.heap.size,0,none⟩=some (.pointer (some ⟨nb ps,0,none⟩)):=World.cell?_setCell_same' _ _ _ (by rw [hv];rfl);have hK':=(hS.block D (Array.getElem?_eq_some_iff.1 hK).1 (by omega)).trans hK;have hB2:=ze H1.out.b hS (fun k hk=>by omega);generalize W.setCell ⟨w.heap.size,0,none⟩ (.pointer (some ⟨nb ps,0,none⟩))=W2 at *;have hL:Lull (w.heap.size+1+1+1) W2 (W2.putObj D (.deferred none)):=Lull.of_grown (grownBy_putObj' _ D _) (fun r e=>by cases e;exact ⟨hD',_,hK',rfl⟩);have p0:=hL.cell q0;refine ⟨by simp,.inl ⟨_,_,rfl,run_takeDeferred hK',?_⟩⟩
  exact ⟨_,by simp [results,Tryz.results28,go_sem,p0];rfl,by rw [HR.out],hL.below hB2 (by omega) (Nat.le_refl _)⟩
 case stop =>
  rintro D c q W hD hpre ⟨rfl,hx⟩ hK;have hD':w.heap.size+1+1+1≤D:=by simpa using hD
  have hL:Lull (w.heap.size+1+1+1) W (W.putObj D (.deferred none)):=Lull.of_grown (grownBy_putObj' _ D _) (fun r e=>by cases e;exact ⟨hD',_,hK,rfl⟩);have p0:=hL.cell hx.r
  have HR:Hid (res = .pointer none):=by
   show _=_
   obtain ⟨l2,hl2⟩:=hpre
   have:¬ (kd x ps).isSome=true:=fun hk=>by
    rw [← hl2] at hk;have:=kd_up H.out.ok q _ l2 rfl hk;rw [hx.k] at this;cases this
   rw [HV.out,if_neg this];rfl
  have hB2:=hL.below hx.b (by omega) (Nat.le_refl _)
  gi_wp2
  refine ⟨by simp,.inl ⟨_,_,rfl,run_takeDeferred hK,?_⟩⟩;exact ⟨_,by simp [results,Tryz.results28,go_sem,p0];rfl,by rw [HR.out],hB2⟩
end Go.Proofs.YtjcdmjdofdnaoaaGreatDoor.Fil
