/-
  The walks of layer 26 (fields): the iterator over units. Conditions: few enough pieces (2^32), of at most 2^32 bytes each.
-/
import Derived.Test.YtfmecpnokefokaaGreatDoorExp20
import Derived.Test.YtfmecpnokefokaaGreatDoorExp22
import Derived.Test.YtfmecpnokefokaaGreatDoorProg
import Derived.Test.YtfmecpnokefokaaGreatDoorTailIn
set_option linter.unusedSimpArgs false
set_option linter.unusedVariables false
namespace Go.Proofs.YtfmecpnokefokaaGreatDoor.Ex
open Go.ChangeShapes Go.WideShapes Go.Deep Go.RowKit Cls Md Mc Pa Li Pat
theorem _root_.Go.Proofs.YtfmecpnokefokaaGreatDoor.j7l {p:Prop} (h:p):Go.RowKit.Hid p:=Go.Lib.hid h
theorem look_eq {xs:List Tab.Ent} (h:Tab.Rises xs):lookT xs=lookR xs:=by
 funext s
 unfold lookT lookR;rw [Tab.getE_eq h];by_cases h1:isNameB s=true
 ·by_cases h2:Tab.there xs s=true
  ·rw [if_pos ⟨h1,h2⟩,if_pos h1,if_pos h2]
   unfold Tab.valOf;rw [if_pos h2];unfold Tab.there at h2;rw [beq_iff_eq] at h2
   cases hx:xs[Tab.place xs s]? with
   | none=>rw [hx] at h2;cases h2
   | some x=>rfl
  ·rw [if_neg (fun k=>h2 k.2),if_pos h1,if_neg h2]
   rfl
 ·rw [if_neg (fun k=>h1 k.1),if_neg h1]
theorem zkt {xs:List Tab.Ent} {n:Nat} (h:∀ x∈xs,x.val.length<n) {s v:List UInt8} (hv:lookR xs s=some v):v.length<n:=by
 unfold lookR at hv
 split at hv
 ·cases he:Tab.getE xs s with
  | none=>rw [he] at hv;cases hv
  | some x =>
   rw [he] at hv;cases hv;unfold Tab.getE at he;exact h x (List.mem_of_find?_eq_some he)
 ·cases hv
theorem zp2 (w0:World) (b0 tb:Nat) (lv:Value) (kind:Int) (xs:List Tab.Ent) (hm:MaxL w0) (h:Tab.TabAt w0 b0 tb lv kind xs) (hr:Tab.Rises xs) (hx:xs.length≤1048576) {M:Nat} (hM0:0<M) (hM:M≤1048577) (hI:ItoaC w0 M) (hl:∀ x∈xs,x.val.length<M) :
  ∀ f,f≤30001 →
  (∀ (u:List UInt8) (W:World),Below w0.heap.size w0 W→u.length<f→Calls Tryz.prog 12 #[.pointer (some ⟨tb,0,none⟩),.string (B u)] W (PcsP (expG (lookR xs) f u) W)) ∧
  (∀ (u:List UInt8) (W:World),Below w0.heap.size w0 W→u.length<f→Calls Tryz.prog 16 #[.pointer (some ⟨tb,0,none⟩),.string (B u)] W (ResP (textG (lookR xs) f u) W)) ∧
  (∀ (u:List UInt8) (W:World),Below w0.heap.size w0 W→u.length<f→Calls Tryz.prog 17 #[.pointer (some ⟨tb,0,none⟩),.string (B u)] W (ResP (patG (lookR xs) f u) W)):=by
 have hg:=get_tab w0 b0 tb lv kind xs h hx;rw [look_eq hr] at hg;exact zj4 hm hg hM0 hM hI (fun b v hv=>zkt hl hv)
theorem setL_mem {xs:List Tab.Ent} {s v:List UInt8} {x:Tab.Ent} (h:x∈Tab.setL xs s v):x∈xs∨x=⟨s,v⟩:=by
 unfold Tab.setL at h
 split at h
 ·rcases List.mem_or_eq_of_mem_set h with h|h
  ·exact .inl h
  ·exact .inr h
 ·rcases List.mem_append.1 h with h|h
  ·exact .inl (List.mem_of_mem_take h)
  ·rcases List.mem_cons.1 h with h|h
   ·exact .inr h
   ·exact .inl (List.mem_of_mem_drop h)
theorem zm4 (kind:Int) (P:Tab.Ent→Prop):∀ (l xs:List Tab.Ent),(∀ x∈l,P x)→(∀ x∈xs,P x)→∀ x∈l.foldl (fun xs e=>Tab.setE kind xs e.name e.val) xs,P x
 | [],xs,_,h,x,hx=>h x hx
 | e :: r,xs,hl,h,x,hx=>by
  rw [List.foldl_cons] at hx;refine zm4 kind P r _ (fun y hy=>hl y (List.mem_cons_of_mem _ hy)) (fun y hy=>?_) x hx;unfold Tab.setE at hy
  split at hy
  ·rcases setL_mem hy with q|q
   ·exact h y q
   ·rw [q];exact hl e (List.mem_cons_self ..)
  ·exact h y hy
theorem ofL_val {l:List Tab.Ent} {n:Nat} (h:∀ x∈l,x.val.length<n):∀ x∈Tab.ofL 1 l,x.val.length<n:=zm4 1 (fun x=>x.val.length<n) l [] h (fun _ h=>by cases h)
open Go.ChangeShapes Go.WideShapes Go.Deep Go.RowKit Cls Md Mc Pa Li Pat Bd
set_option maxRecDepth 100000
theorem zff {w0:World} {vv:Value} {g:Look} (hg:GetR w0 vv g) (hgl:∀ b v,g b=some v→v.length≤1048576):∀ f,f≤30001 →
  (∀ (u:List UInt8) (W:World),Below w0.heap.size w0 W→u.length<f→Calls Tryz.prog 14 #[vv,.string (B u)] W (PcsP (expG g f u) W)) ∧
  (∀ (u:List UInt8) (W:World),Below w0.heap.size w0 W→u.length<f→Calls Tryz.prog 18 #[vv,.string (B u)] W (ResP (textG g f u) W)) ∧
  (∀ (u:List UInt8) (W:World),Below w0.heap.size w0 W→u.length<f→Calls Tryz.prog 19 #[vv,.string (B u)] W (ResP (patG g f u) W))
 | 0,_=>⟨fun _ _ _ h=>absurd h (Nat.not_lt_zero _),fun _ _ _ h=>absurd h (Nat.not_lt_zero _),fun _ _ _ h=>absurd h (Nat.not_lt_zero _)⟩
 | f+1,hf=>by
  obtain ⟨-,iT,iP⟩:=zff hg hgl f (by omega)
  have hp:∀ (u:List UInt8) (W:World),Below w0.heap.size w0 W→u.length<f+1→Calls Tryz.prog 14 #[vv,.string (B u)] W (PcsP (expG g (f+1) u) W):=fun u W hW hu=>by
   rw [zdu];exact zn2 u (by omega) (hg.below hW) hgl (fun h3 x X hX hx=>iT x X (zb hW hX) (by omega)) (fun h3 x X hX hx=>iP x X (zb hW hX) (by omega)) (fun _=>zl3 _ _ _) (fun _=>znx _ _ _)
  refine ⟨hp,fun u W hW hu=>?_,fun u W hW hu=>?_⟩
  ·exact zpl vv u W (hp u W hW hu) (zec _ _ _ (by omega)) (zcc _ _ _)
  ·exact zkh vv u W (hp u W hW hu) (zec _ _ _ (by omega)) (zcc _ _ _)
theorem zku (w0:World) (vv:Value) (xs:List Tab.Ent) (hv:Sl w0 Tab.Ent.cells 2 vv xs) (hx:xs.length≤1048576) (hl:∀ x∈xs,x.val.length<1048577):∀ f,f≤30001 →
  (∀ (u:List UInt8) (W:World),Below w0.heap.size w0 W→u.length<f→Calls Tryz.prog 14 #[vv,.string (B u)] W (PcsP (expG (lookR xs) f u) W)) ∧
  (∀ (u:List UInt8) (W:World),Below w0.heap.size w0 W→u.length<f→Calls Tryz.prog 18 #[vv,.string (B u)] W (ResP (textG (lookR xs) f u) W)) ∧
  (∀ (u:List UInt8) (W:World),Below w0.heap.size w0 W→u.length<f→Calls Tryz.prog 19 #[vv,.string (B u)] W (ResP (patG (lookR xs) f u) W)) :=
 zff (zl9 w0 vv xs hv hx) (fun b v h=>by have:=zkt hl h;omega)
end Go.Proofs.YtfmecpnokefokaaGreatDoor.Ex
namespace Go.Proofs.YtfmecpnokefokaaGreatDoor
open Go.ChangeShapes Go.WideShapes Go.ChangeAt Go.RowKit
set_option maxRecDepth 100000
structure Piece where
 ex:Bool
 q:Bool
 text:List UInt8
 deriving DecidableEq
def Piece.cells (x:Piece):List Value:=[.bool x.ex,.bool x.q,.string (B x.text)]
def Piece.Ok (x:Piece):Prop:=x.text.length≤9223372036854775807
theorem Piece.len (x:Piece):x.cells.length=3:=rfl
structure Un where
 b:UInt8
 none:Bool
 quoted:Bool
 parts:Bool
 deriving DecidableEq
def Un.val (u:Un):Value:=.agg #[.int .u8 u.b.toNat,.bool u.none,.bool u.quoted,.bool u.parts]
structure Fd where
 text:List UInt8
 pat:List UInt8
 deriving DecidableEq
def Fd.cells (x:Fd):List Value:=[.string (B x.text),.string (B x.pat)]
def headU (p:Piece):List Un:=if p.text=[]∧p.q=true then [⟨0,true,true,false⟩] else []
def byteU (p:Piece) (b:UInt8):Un:=⟨b,false,p.q,p.ex && !p.q⟩
def unitsP (p:Piece):List Un:=headU p++p.text.map (byteU p)
def unitsOf (l:List Piece):List Un:=l.flatMap unitsP
structure Mk where
 l:List Fd
 text:List UInt8
 pat:List UInt8
 begun:Bool
 mark:Bool
 deriving DecidableEq
def mk0:Mk:=⟨[],[],[],false,false⟩
def addM (m:Mk) (u:Un):Mk:=if u.none then { m with begun:=true,mark:=false } else { m with begun:=true,mark:=false,text:=m.text++[u.b],pat:=m.pat++((if u.quoted then [92] else [])++[u.b]) }
def endM (m:Mk):Mk:={ m with l:=m.l++[⟨m.text,m.pat⟩],text:=[],pat:=[],begun:=false }
def sepM (m:Mk) (white:Bool):Mk:=if m.begun then { endM m with mark:=white } else if white then m else if m.mark then { m with mark:=false } else endM m
def whiteB (b:UInt8):Bool:=b == 32 || b == 9 || b == 10
def stepM (sp:List UInt8) (m:Mk) (u:Un):Mk:=if u.none || !u.parts || !sp.contains u.b then addM m u else sepM m (whiteB u.b)
def foldM (sp:List UInt8) (l:List Un):Mk:=l.foldl (stepM sp) mk0
def outM (m:Mk):List Fd:=if m.begun then (endM m).l else m.l
def splitF (l:List Piece) (sp:List UInt8):List Fd:=outM (foldM sp (unitsOf l))
theorem zeg (sp:List UInt8) (l:List Un) (u:Un):foldM sp (l++[u])=stepM sp (foldM sp l) u:=by simp [foldM,List.foldl_append]
structure MkOk (m:Mk) (n:Nat):Prop where
 l:m.l.length≤n
 t:m.text.length≤n
 p:m.pat.length≤2*n
 e:m.begun=false→m.text=[]∧m.pat=[]
 a:∀ f∈m.l,f.text.length≤n∧f.pat.length≤2*n
theorem mk_ok (sp:List UInt8) (l:List Un):MkOk (foldM sp l) l.length:=by
 have step:∀ (m:Mk) (n:Nat) (u:Un),MkOk m n→MkOk (stepM sp m u) (n+1):=by
  intro m n u h
  have hadd:MkOk (addM m u) (n+1):=by
   unfold addM
   split
   ·exact ⟨by have:=h.l;simp;omega,by have:=h.t;simp;omega,by have:=h.p;simp;omega,by simp,fun f hf=>by have:=h.a f hf;omega⟩
   ·refine ⟨by have:=h.l;simp;omega,by have:=h.t;simp;omega,?_,by simp,fun f hf=>by have:=h.a f hf;omega⟩
    have:=h.p
    split <;> simp <;> omega
  have hend:MkOk (endM m) (n+1):=by
   unfold endM;refine ⟨by have:=h.l;simp;omega,by simp,by simp,by simp,fun f hf=>?_⟩;simp only [List.mem_append,List.mem_singleton] at hf;rcases hf with hf|rfl
   ·have:=h.a f hf;omega
   ·have:=h.t;have:=h.p;simp;omega
  unfold stepM
  split
  ·exact hadd
  ·unfold sepM
   split
   ·exact ⟨hend.l,hend.t,hend.p,fun _=>⟨rfl,rfl⟩,hend.a⟩
   ·split
    ·exact ⟨by have:=h.l;omega,by have:=h.t;omega,by have:=h.p;omega,h.e,fun f hf=>by have:=h.a f hf;omega⟩
    ·split
     ·exact ⟨by have:=h.l;simp;omega,by have:=h.t;simp;omega,by have:=h.p;simp;omega,h.e,fun f hf=>by have:=h.a f hf;omega⟩
     ·exact hend
 have:∀ (l:List Un) (m:Mk) (n:Nat),MkOk m n→MkOk (l.foldl (stepM sp) m) (n+l.length):=by
  intro l
  induction l with
  | nil=>intro m n h;exact h
  | cons u l ih =>
   intro m n h;have:=ih _ _ (step m n u h);simp only [List.foldl_cons,List.length_cons]
   rwa [show n+(l.length+1)=n+1+l.length by omega]
 have:=this l mk0 0 ⟨by simp [mk0],by simp [mk0],by simp [mk0],fun _=>⟨rfl,rfl⟩,by simp [mk0]⟩
 rwa [Nat.zero_add] at this
open Go.ChangeShapes Go.WideShapes Go.Deep Go.RowKit Go.Shelf
attribute [local go_sem] Oper.semAt_some
theorem zht {α : Type} {l:List α} {k:Nat} {x : α} (h:l[k]?=some x):l.take (k+1)=l.take k++[x]:=by
 obtain ⟨h1,rfl⟩:=List.getElem?_eq_some_iff.1 h;exact List.take_succ_eq_append_getElem h1
def encU (u:Un):Array Value:=#[u.val]
theorem zfg (l:List Piece) (k:Nat) (p:Piece) (h:l[k]?=some p):unitsOf (l.take (k+1))=unitsOf (l.take k)++unitsP p:=by
 obtain ⟨h1,rfl⟩:=List.getElem?_eq_some_iff.1 h;unfold unitsOf;rw [List.take_succ_eq_append_getElem h1,List.flatMap_append];simp only [List.flatMap_cons,List.flatMap_nil,List.append_nil]
theorem zdv (l:List Piece) (k:Nat):unitsOf (l.take k) <+: unitsOf l:=by
 refine ⟨unitsOf (l.drop k),?_⟩;unfold unitsOf;rw [← List.flatMap_append,List.take_append_drop]
def keepU (b1:Nat) (v:Value):World→World→Prop:=KeepT (fun k=>k=b1∨v.ownBlock=some k) (fun t=>t=35)
structure PBox (W:World) (pb:Nat) (p:Piece):Prop where
 ty:tyOf W pb=some 35
 c0:W.cell? ⟨pb,0,none⟩=some (.bool p.ex)
 c1:W.cell? ⟨pb,1,none⟩=some (.bool p.q)
 c2:W.cell? ⟨pb,2,none⟩=some (.string (B p.text))
theorem PBox.keep {W W':World} {pb b1:Nat} {p:Piece} {v:Value} (h:PBox W pb p) (hk:keepU b1 v W W'):PBox W' pb p:=by
 have hb:=hk.t pb _ h.ty rfl;exact ⟨(zi hb).trans h.ty,(World.cell?_of_block (w:=W) hb).trans h.c0,(World.cell?_of_block (w:=W) hb).trans h.c1,(World.cell?_of_block (w:=W) hb).trans h.c2⟩
theorem zfh (w:World) (g:GrowOf w) (b:Nat) (h:b<w.heap.size):(grow w g).heap[b]?=w.heap[b]?:=g.2.block b h
theorem PBox.grow {W:World} {pb:Nat} {p:Piece} (h:PBox W pb p) (g:GrowOf W):PBox (grow W g) pb p:=by
 have hb:=zfh W g pb (zaf h.ty);exact ⟨(zi hb).trans h.ty,(World.cell?_of_block (w:=W) hb).trans h.c0,(World.cell?_of_block (w:=W) hb).trans h.c1,(World.cell?_of_block (w:=W) hb).trans h.c2⟩
set_option maxHeartbeats 2000000 in
theorem units1 (n:Nat) (hn:1≤n) (lab b1:Nat) (v vk:Value) (l:List Piece) (hvk:l≠[]→vk=v) (hl:l.length≤4294967296) (hlt:∀ p∈l,p.text.length≤4294967296) (J Jx:List Un→World→Prop)
  (hY:∀ pre x W,J pre W→pre.length<(unitsOf l).length→YieldAt Fence.wide (n - 1) Tryz.prog lab #[x.val] W fun e W' =>
   (e = .returned (.bool true)∧J (pre++[x]) W'∧keepU b1 vk W W')∨(e = .returned (.bool false)∧Jx (pre++[x]) W'))
  (W:World) (hJ:∀ s A A',J s A→Below A.heap.size A A'→J s A') (h1:W.cell? ⟨b1,0,none⟩=some v) (hv:Sl W Piece.cells 3 v l) (h0:J [] W) :
  CallsIn Fence.wide n Tryz.prog 118 #[.func (.yield lab) #[] #[],.pointer (some ⟨b1,0,none⟩)] W fun e W'=>(∃ v,e = .returned v) ∧
   ((∃ ys,ys=unitsOf l∧J ys W')∨(∃ pre,pre <+: unitsOf l∧Jx pre W')):=by
 have HY:=j7l hY;have HJA:=j7l hJ;obtain ⟨A,c,rfl,hc1,hc2,hn0,hA⟩:=hv;have HA:=j7l hA;have HVK:=j7l hvk;clear hY hJ hA hn0 hvk;refine callsIn_of_wp Tryz.func118 rfl trivial ?_ rfl;simp only [Tryz.ntmps118,List.size_toArray,List.length_cons,List.length_nil,Nat.reduceAdd,Nat.reduceSub,Array.replicate_succ,Array.replicate_zero,List.push_toArray,List.append_toArray,List.nil_append,List.cons_append]
 gi_wp2
 gi_loopw [8] (fun i wr=>∃ k:Nat,k≤l.length∧i = .int .i64 k∧Hid (J (unitsOf (l.take k)) wr)∧Hid (∀ b,A=some b→wr.heap[b.block]?=W.heap[b.block]?)∧W.heap.size≤wr.heap.size) (fun i _=>l.length - (intOf i).toNat)
 case atStart=>exact ⟨0,by omega,rfl,h0,fun _ _=>rfl,Nat.le_refl _⟩
 case round =>
  clear h0 h1;obtain ⟨k,hk,rfl,HJ,HB,hsz⟩:=hrel;by_cases hltk:k<l.length
  ·obtain ⟨b,off,rfl,hb,hc⟩:=HA.out (by omega)
   have HV1:Hid (vk.ownBlock=some b):=by show _=_;rw [HVK.out (by intro e;rw [e] at hltk;simp at hltk)];rfl
   obtain ⟨p,hp⟩:=zae hltk;have hblk:wr.heap[b]?=W.heap[b]?:=HB.out _ rfl;have e0:wr.cell? ⟨b,off+k*3,none⟩=some (.bool p.ex):=(World.cell?_of_block (w:=W) hblk).trans (hc k _ hp 0 _ rfl);have e1:wr.cell? ⟨b,off+k*3+1,none⟩=some (.bool p.q):=(World.cell?_of_block (w:=W) hblk).trans (hc k _ hp 1 _ rfl);have e2:wr.cell? ⟨b,off+k*3+2,none⟩=some (.string (B p.text)):=(World.cell?_of_block (w:=W) hblk).trans (hc k _ hp 2 _ rfl);have hpt:=hlt p (List.mem_of_getElem? hp);have HS:=j7l (zfg l k p hp);have HP:=j7l (zdv l (k+1));clear hblk hc hp;obtain ⟨ex,q,text⟩:=p;simp only at e0 e1 e2 hpt;by_cases htn:text=[]
   ·subst htn
    have hHU:unitsP ⟨ex,q,[]⟩=if q then [⟨0,true,true,false⟩] else []:=by unfold unitsP headU;cases q <;> rfl
    have HHU:=j7l hHU;have HXV:Hid ((⟨0,true,true,false⟩:Un).val = .agg #[.int .u8 0,.bool true,.bool true,.bool false]):=rfl;have HJ0:∀ cs:Array Value,Hid (J (unitsOf (l.take k)) (wr.alloc (.cells cs 35))):=fun cs=>HJA.out _ _ _ HJ.out (za (Below.refl _ _) _);have HB0:∀ cs:Array Value,Hid ((wr.alloc (.cells cs 35)).heap[b]?=W.heap[b]?):=fun cs=>(zag _ _ _ (by omega)).trans (HB.out _ rfl);have HJ0:=j7l HJ0;have HB0:=j7l HB0;clear hHU HJ HB;cases q
    ·gi_wp2
     gi_loopw [28] (fun i wr=>i = .int .i64 0∧Hid (J (unitsOf (l.take (k+1))) wr)∧Hid (wr.heap[b]?=W.heap[b]?)∧W.heap.size≤wr.heap.size) (fun _ _=>0)
     case atStart=>exact ⟨rfl,by show J _ _;rw [HS.out,HHU.out];simpa using (HJ0.out _).out,HB0.out _,by simp;omega⟩
     case round =>
      clear HJ0 HB0;obtain ⟨rfl,HJ,HB,hsz1⟩:=hrel
      gi_wp2
      go_roundw
      case rel=>exact ⟨k+1,by omega,by go_num,HJ.out,fun b' e=>by cases e;exact HB.out,hsz1⟩
      case measure=>simp [intOf];omega
    ·have hlen:(unitsOf (l.take k)).length<(unitsOf l).length:=by
      have h1:=HP.out.length_le;rw [HS.out,HHU.out] at h1;simp at h1;omega
     obtain ⟨fn,tmps,assign,body,hy,hR⟩:=HY.out _ ⟨0,true,true,false⟩ _ (HJ0.out #[.bool ex,.bool true,.string (B [])]).out hlen;rw [HXV.out] at hy
     gi_wp2
     refine hR.mono ?_;rintro e W3 (⟨rfl,hJ3,hk3⟩|⟨rfl,hJx3⟩)
     ·have hb3:=(hk3.g b (.inr HV1.out)).trans (HB0.out _).out
      have HB3:=j7l hb3;have hs3:=hk3.size;simp only [World.size_alloc] at hs3;have c2:=(World.cell?_of_block (w:=_) (hk3.t wr.heap.size _ (zaa _ _ _) rfl)).trans (show World.cell? (wr.alloc (.cells #[.bool ex,.bool true,.string (B [])] 35)) ⟨wr.heap.size,2,none⟩=some (.string (B [])) by go_simp);have HJ3:=j7l hJ3;clear hJ3 hk3 hb3
      gi_wp2
      gi_loopw [28] (fun i wr=>i = .int .i64 0∧Hid (J (unitsOf (l.take (k+1))) wr)∧Hid (wr.heap[b]?=W.heap[b]?)∧W.heap.size≤wr.heap.size) (fun _ _=>0)
      case atStart=>exact ⟨rfl,by show J _ _;rw [HS.out,HHU.out];exact HJ3.out,HB3.out,by omega⟩
      case round =>
       clear HJ0 HB0;obtain ⟨rfl,HJ,HB,hsz1⟩:=hrel
       gi_wp2
       go_roundw
       case rel=>exact ⟨k+1,by omega,by go_num,HJ.out,fun b' e=>by cases e;exact HB.out,hsz1⟩
       case measure=>simp [intOf];omega
     ·have HJ3:=j7l hJx3
      clear hJx3
      gi_wp2
      refine bodyPost_ret (results_none rfl _ _ _) rfl ?_;refine ⟨⟨_,rfl⟩,.inr ⟨_,?_,HJ3.out⟩⟩;have h1:=HP.out;rw [HS.out,HHU.out] at h1;exact h1
   ·have ht1:(text == [])=false:=by simpa using htn
    have ht2:text.isEmpty=false:=by simpa using htn
    gi_wp2
    have hHU:unitsP ⟨ex,q,text⟩=text.map (byteU ⟨ex,q,text⟩):=by unfold unitsP headU;rw [if_neg (by simp [htn])];rfl
    have HHU:=j7l hHU;clear hHU htn ht1 ht2 e0 e1 e2
    obtain ⟨wo,hwo⟩:∃ wo,wo=wr.alloc (.cells #[.bool ex,.bool q,.string (B text)] 35):=⟨_,rfl⟩
    have HPB:Hid (PBox wo wr.heap.size ⟨ex,q,text⟩):=by rw [hwo];exact ⟨zaa _ _ _,by go_simp,by go_simp,by go_simp⟩
    have HJ0:Hid (J (unitsOf (l.take k)) wo):=by rw [hwo];exact HJA.out _ _ _ HJ.out (za (Below.refl _ _) _)
    have HB0:Hid (wo.heap[b]?=W.heap[b]?):=by rw [hwo];exact (zag _ _ _ (by omega)).trans (HB.out _ rfl)
    have hsz0:W.heap.size≤wo.heap.size:=by rw [hwo];simp;omega
    have hpb:wr.heap.size<wo.heap.size:=by rw [hwo];simp
    rw [← hwo];clear hwo;generalize wr.heap.size=pb at *
    gi_loopw [28] (fun i wr=>∃ j:Nat,j≤text.length∧i = .int .i64 j∧Hid (J (unitsOf (l.take k)++(text.take j).map (byteU ⟨ex,q,text⟩)) wr)∧Hid (PBox wr pb ⟨ex,q,text⟩)∧Hid (wr.heap[b]?=W.heap[b]?)∧W.heap.size≤wr.heap.size) (fun i _=>text.length - (intOf i).toNat)
    case atStart=>exact ⟨0,by omega,rfl,by show J _ _;simpa using HJ0.out,HPB.out,HB0.out,hsz0⟩
    case round =>
     clear HPB HJ0 HB0 hsz0 hpb HJ HB;obtain ⟨j,hj,rfl,HJ,HPB,HB,hsz1⟩:=hrel;have c0:=HPB.out.c0;have c1:=HPB.out.c1;have c2:=HPB.out.c2;by_cases hlj:j<text.length
     ·have hx:text[j]?=some text[j]:=List.getElem?_eq_getElem hlj
      have HT:=j7l (zht hx)
      have hlen:(unitsOf (l.take k)++(text.take j).map (byteU ⟨ex,q,text⟩)).length<(unitsOf l).length:=by
       have h1:=HP.out.length_le;rw [HS.out,HHU.out] at h1;simp only [List.length_append,List.length_map,List.length_take] at h1 ⊢;omega
      have HL:=j7l hlen;clear hx hlen
      haveI:Old wr pb:=⟨zaf HPB.out.ty⟩
      have hj0:(0:Int)≤(j:Int):=by omega
      have hj1:(j:Int)<(text.length:Int):=by omega
      obtain ⟨x,hx⟩:∃ x,x=byteU ⟨ex,q,text⟩ text[j]:=⟨_,rfl⟩
      have HXV:Hid (x.val = .agg #[.int .u8 text[j].toNat,.bool false,.bool q,.bool (ex && !q)]):=by show _=_;rw [hx];rfl
      have HT2:Hid ((text.take (j+1)).map (byteU ⟨ex,q,text⟩)=(text.take j).map (byteU ⟨ex,q,text⟩)++[x]):=by show _=_;rw [HT.out,List.map_append,hx];rfl
      clear hx;cases ex
      all_goals
       gi_wp2
       (refine zaj 15 (zbf) (by kernel_rfl) (by kernel_rfl) (by kernel_rfl) ?_;simp only [List.take_succ_cons,List.take_zero,List.drop_succ_cons,List.drop_zero];(repeat (go_big_quiet_step (fail)));refine wpQuiet_nil ?_;intro _ hw';obtain ⟨gq,hw''⟩:=hw';subst hw'')
       have HJg:=j7l (HJA.out _ _ _ HJ.out (zh wr gq));obtain ⟨fn,tmps,assign,body,hy,hR⟩:=HY.out _ x _ HJg.out HL.out;rw [HXV.out] at hy;simp only [Bool.false_and,Bool.true_and] at hy;have HPg:=j7l (HPB.out.grow gq)
       gi_wp2
       refine hR.mono ?_;rintro e W3 (⟨rfl,hJ3,hk3⟩|⟨rfl,hJx3⟩)
       ·have HP3:=j7l (HPg.out.keep hk3)
        have HJ3:=j7l hJ3;have hb3:=(hk3.g b (.inr HV1.out)).trans ((zfh wr gq b (by omega)).trans HB.out);have HB3:=j7l hb3;have hs3:=hk3.size;clear hJ3 hk3 hb3
        gi_wp2
        go_roundw
        case rel=>exact ⟨j+1,by omega,by go_num,by show J _ _;rw [HT2.out,← List.append_assoc];exact HJ3.out,HP3.out,HB3.out,by have:=le_grow wr gq _ hsz1;omega⟩
        case measure=>simp [intOf];omega
       ·have HJ3:=j7l hJx3
        clear hJx3
        gi_wp2
        refine bodyPost_ret (results_none rfl _ _ _) rfl ?_;refine ⟨⟨_,rfl⟩,.inr ⟨_,?_,HJ3.out⟩⟩;have h1:=HP.out;rw [HS.out,HHU.out] at h1;refine List.IsPrefix.trans ?_ h1;rw [List.append_assoc,List.prefix_append_right_inj];rw [← HT2.out];exact (List.take_prefix _ _).map _
     ·have hje:j=text.length:=by omega
      have h3:Hid (J (unitsOf (l.take (k+1))) wr):=by show J _ _;rw [HS.out,HHU.out];have:=HJ.out;rw [hje,List.take_length] at this;exact this
      clear hje HJ HPB c0 c1 c2
      gi_wp2
      go_roundw
      case rel=>exact ⟨k+1,by omega,by go_num,h3.out,fun b' e=>by cases e;exact HB.out,hsz1⟩
      case measure=>simp [intOf];omega
  ·have hkl:k=l.length:=by omega
   have h3:=HJ.out;rw [hkl,List.take_length] at h3;have H3:=j7l h3;clear h3 HJ hkl
   gi_wp2
   go_end0
   exact ⟨⟨_,rfl⟩,.inl ⟨_,rfl,H3.out⟩⟩
theorem zp3 (v:Value) (w:World) (A:Option Addr) (n c:Nat) (hv:v = .slice A n c) :
  Calls Tryz.prog 82 #[v] w fun e w'=>e = .returned (.func (.func 118) #[] #[.pointer (some ⟨w.heap.size,0,none⟩)])∧w'=w.alloc (.cells #[v] 25):=by
 subst hv;go_enter Tryz.func82,Tryz.ntmps82;go_wp2;go_ret;exact ⟨rfl,rfl⟩
def readV (v:Value) (l:List Piece):Value:=if l=[] then .slice none 0 0 else v
theorem readV_lt {w:World} {v:Value} {l:List Piece} (h:Sl w Piece.cells 3 v l):∀ k,(readV v l).ownBlock=some k→k<w.heap.size:=by
 intro k hk;unfold readV at hk
 split at hk
 ·cases hk
 ·next hl =>
  obtain ⟨A,c,rfl,h2,h3,hn,h4⟩:=h;obtain ⟨b,off,rfl,hb,_⟩:=h4 (List.length_pos_iff.2 hl);cases hk;exact hb
theorem zme (v:Value) (l:List Piece) (w:World) (hv:Sl w Piece.cells 3 v l) (hl:l.length≤4294967296) (hlt:∀ p∈l,p.text.length≤4294967296) :
  GivesK Tryz.prog 118 #[.pointer (some ⟨w.heap.size,0,none⟩)] encU (keepU w.heap.size (readV v l)) (unitsOf l) (w.alloc (.cells #[v] 25)):=by
 intro n hn lab J Jx W hW hJ _ hY h0;refine units1 n hn lab _ v (readV v l) l (fun h=>if_neg h) hl hlt J Jx hY W (fun s A A' h hb=>hJ s A A' none h (zbl hb none) (fun r e=>by cases e)) ?_ (hv.below (zb (za (Below.refl _ _) _) hW)) h0;rw [hW.cell (by simp)];simp [go_sem]
end Go.Proofs.YtfmecpnokefokaaGreatDoor
