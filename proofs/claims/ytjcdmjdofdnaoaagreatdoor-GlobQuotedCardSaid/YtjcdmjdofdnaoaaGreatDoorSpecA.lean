/-
  The walks of layer 20 (spec), in part: a spec in memory, act; maps from options to fields and to numbers. Conditions: specs of at most 2^20 actions, texts of at most 2^30 bytes.
-/
import Derived.Test.YtjcdmjdofdnaoaaGreatDoorMachC
import Derived.Test.YtjcdmjdofdnaoaaGreatDoorLitV
import Derived.Test.YtjcdmjdofdnaoaaGreatDoorIterB
import Derived.Test.YtjcdmjdofdnaoaaGreatDoorShelfB
import Derived.Test.YtjcdmjdofdnaoaaGreatDoorHist
import Derived.Test.YtjcdmjdofdnaoaaGreatDoorMachA
import Derived.Test.YtjcdmjdofdnaoaaGreatDoorParts2
import Derived.Test.YtjcdmjdofdnaoaaGreatDoorModA
import Derived.Maps.OwnSet
import Derived.Maps.Views
import Derived.StringKeys
set_option linter.unusedSimpArgs false
set_option linter.unusedVariables false
namespace Go.Proofs.YtjcdmjdofdnaoaaGreatDoor.Quo
open Go.ChangeShapes Go.WideShapes Go.Deep Go.RowKit Cls Md Mc _root_.Go.Proofs.YtjcdmjdofdnaoaaGreatDoor.Pa Li Go.Shelf
attribute [local go_sem] Oper.semAt_some
set_option maxRecDepth 100000
def wordsF (s:List UInt8):Nat→Nat→List (Nat×Nat)
 | 0,_=>[]
 | f+1,a=>if a<s.length then (a,wendN s a) :: (if wendN s a=a then [] else wordsF s f (wendN s a+spanN blankB (s.drop (wendN s a)))) else []
def wordsL (s:List UInt8):List (Nat×Nat):=wordsF s (s.length+1) (spanN blankB (s.drop 0))
def encW (x:Nat×Nat):Array Value:=#[.int .i64 x.1,.int .i64 x.2]
@[go_sem] theorem encW_eq (x:Nat×Nat):encW x = #[.int .i64 (x.1:Nat),.int .i64 (x.2:Nat)]:=rfl
def chkN (s:List UInt8) (a e:Nat):Int :=
 if subT s a e=[] then 4 else if (subT s a e).getD 0 0=35 then 4 else if e<s.length∧clsB (s.getD e 0)≠1 then 4
 else if closL (run (subT s a e)).l≠[] then 9 else if (valueL (subT s a e)).2=false then 8 else 0
attribute [local go_sem] Oper.semAt_some
def valT (s:List UInt8) (x:Nat×Nat):List UInt8:=(valueL (subT s x.1 x.2)).1
def splitW (s:List UInt8):List (Nat×Nat)→List (List UInt8)→List (List UInt8)×Nat×Int
 | [],out=>(out,0,0)
 | x :: r,out=>if chkN s x.1 x.2≠0 then ([],x.1,chkN s x.1 x.2) else splitW s r (out++[valT s x])
def splitL (s:List UInt8):List (List UInt8)×Nat×Int:=splitW s (wordsL s) []
theorem BoxN.lull {A:Nat} {W W':World} {b:Nat} {u:Value} {cs:List Value} (h:BoxN W b (u :: cs)) (hL:Lull A W W'):BoxN W' b (u :: cs):=h.block (hL.block (h.c 0 _ rfl)) hL.size
structure SpI (s:List UInt8) (w:World) (A:Nat) (pre:List (Nat×Nat)) (v:Value) (W:World):Prop where
 o:BoxOwn W A (w.heap.size+1) 1 v pre.length ((pre.map (valT s)).flatMap strC)
 z:pre.length=0→v = .slice none 0 0
 bs:BoxN W w.heap.size [.string (B s)]
 b2:BoxN W (w.heap.size+1+1) [.int .i64 0]
 b3:BoxN W (w.heap.size+1+1+1) [.int .i64 0]
 ok:∀ x∈pre,chkN s x.1 x.2=0
 b:Below w.heap.size w W
 sz:A≤W.heap.size
structure SpX (s:List UInt8) (w:World) (A:Nat) (pre:List (Nat×Nat)) (W:World):Prop where
 ex:∃ q x,pre=q++[x]∧(∀ y∈q,chkN s y.1 y.2=0)∧chkN s x.1 x.2≠0∧BoxN W (w.heap.size+1+1) [.int .i64 (x.1:Nat)]∧BoxN W (w.heap.size+1+1+1) [.int .i64 (chkN s x.1 x.2)]
 b1:W.cell? ⟨w.heap.size+1,0,none⟩=some (.slice none 0 0)
 b:Below w.heap.size w W
 sz:A≤W.heap.size
section
variable {s : List UInt8} {w W W' : World} {A B : Nat} {pre : List (Nat × Nat)} {v : Value}
theorem SpI.lull (h:SpI s w A pre v W) (hL:Lull B W W') (hB:w.heap.size≤B):SpI s w A pre v W' :=
 ⟨h.o.lull hL,h.z,BoxN.lull h.bs hL,BoxN.lull h.b2 hL,BoxN.lull h.b3 hL,h.ok,hL.below h.b hB (Nat.le_refl _),Nat.le_trans h.sz hL.size⟩
theorem SpI.below (h:SpI s w A pre v W) (hb:Below W.heap.size W W'):SpI s w A pre v W' :=
 ⟨h.o.below hb,h.z,h.bs.below hb,h.b2.below hb,h.b3.below hb,h.ok,zb h.b hb,Nat.le_trans h.sz hb.size⟩
theorem SpI.keeps {b:Nat} (h:SpI s w A pre v W) (hk:Keeps (fun k=>k=b) W W') (h1:w.heap.size+1+1+1<b) (h2:b<A) (hv:∀ k,v.ownBlock=some k→k≠b):SpI s w A pre v W':=by
 have hh:W'.heap[w.heap.size+1]?=W.heap[w.heap.size+1]?:=hk.block _ h.o.lt (by omega);exact ⟨⟨Nat.lt_of_lt_of_le h.o.lt hk.size,(World.cell?_of_block (w:=W) hh).trans h.o.c,(World.frozen?_of_block (w:=W) hh).trans h.o.f,h.o.own.keeps hk (fun k e _=>hv k e),h.o.ne⟩,h.z,h.bs.keeps hk (by omega),h.b2.keeps hk (by omega),h.b3.keeps hk (by omega),h.ok,ze h.b hk (fun k e=>by omega),Nat.le_trans h.sz hk.size⟩
theorem SpX.lull (h:SpX s w A pre W) (hL:Lull B W W') (hB:w.heap.size≤B):SpX s w A pre W':=by
 obtain ⟨q,x,e,h1,h2,h3,h4⟩:=h.ex;exact ⟨⟨q,x,e,h1,h2,BoxN.lull h3 hL,BoxN.lull h4 hL⟩,hL.cell h.b1,hL.below h.b hB (Nat.le_refl _),Nat.le_trans h.sz hL.size⟩
theorem SpX.keeps {b:Nat} (h:SpX s w A pre W) (hk:Keeps (fun k=>k=b) W W') (h1:w.heap.size+1+1+1<b) (h2:b<A):SpX s w A pre W':=by
 obtain ⟨q,x,e,g1,g2,g3,g4⟩:=h.ex;exact ⟨⟨q,x,e,g1,g2,g3.keeps hk (by omega),g4.keeps hk (by omega)⟩,(World.cell?_of_block (w:=W) (hk.block _ (World.block_lt_of_cell? W _ h.b1) (by show ¬ w.heap.size+1=b;omega))).trans h.b1,ze h.b hk (fun k e=>by omega),Nat.le_trans h.sz hk.size⟩
end
end Go.Proofs.YtjcdmjdofdnaoaaGreatDoor.Quo
namespace Go.Proofs.YtjcdmjdofdnaoaaGreatDoor.Spc
open Go.ChangeShapes Go.WideShapes Go.Deep Go.RowKit Mc _root_.Go.Proofs.YtjcdmjdofdnaoaaGreatDoor.Pa
set_option maxRecDepth 100000
structure Sp where
 a:List Int
 w:List (List UInt8)
 g:List UInt8
 x:List UInt8
 p:List UInt8
 s:List UInt8
def sp0:Sp:=⟨[],[],[],[],[],[]⟩
def actN:List (List UInt8):=[[],[102,105,108,101,115],[100,105,114,115],[99,111,109,109,97,110,100,115],[118,97,114,115],[97,108,105,97,115,101,115],[102,117,110,99,115],[98,117,105,108,116,105,110,115]]
structure SpAt (w:World) (A sb:Nat) (va vw:Value) (x:Sp):Prop where
 bx:BoxN w sb [va,vw,.string (B x.g),.string (B x.x),.string (B x.p),.string (B x.s)]
 oa:Own w A 1 va x.a.length (x.a.flatMap numC)
 ow:Own w A 1 vw x.w.length (x.w.flatMap strC)
 sa:∀ k,va.ownBlock=some k→A≤k
 sw:∀ k,vw.ownBlock=some k→A≤k
 ne:∀ k,va.ownBlock=some k→vw.ownBlock≠some k
 la:sb<A
 z:x.a=[]→va = .slice none 0 0
section
variable {w w' : World} {A sb : Nat} {va vw : Value} {x : Sp}
theorem SpAt.below (h:SpAt w A sb va vw x) (hb:Below w.heap.size w w'):SpAt w' A sb va vw x :=
 ⟨h.bx.below hb,h.oa.below hb,h.ow.below hb,h.sa,h.sw,h.ne,h.la,h.z⟩
theorem SpAt.keeps {F:Nat→Prop} (h:SpAt w A sb va vw x) (hk:Keeps F w w') (h1:¬ F sb) (h2:∀ k,va.ownBlock=some k→¬ F k) (h3:∀ k,vw.ownBlock=some k→¬ F k):SpAt w' A sb va vw x :=
 ⟨h.bx.keeps hk h1,h.oa.keeps hk (fun k e _=>h2 k e),h.ow.keeps hk (fun k e _=>h3 k e),h.sa,h.sw,h.ne,h.la,h.z⟩
end
def actK (name:List UInt8):Nat:=(actN.drop 1).idxOf name+1
def insA (l:List Int) (a:Int):List Int:=l.take (l.countP (· < a))++a :: l.drop (l.countP (· < a))
def actL (l:List Int) (name:List UInt8):Int×List Int:=if actK name=8 then (8,l) else if l.contains (actK name:Int)=true then (6,l) else (0,insA l (actK name))
open Go.ChangeShapes Go.WideShapes Go.Deep Go.RowKit Go.MapKept Go.WideMaps Go.ChangeMaps Mc _root_.Go.Proofs.YtjcdmjdofdnaoaaGreatDoor.Pa Quo
def ptrR:Value→Option (DataW Unit×List MemPlace)
 | .pointer none=>some (.lit (.bool false),[])
 | .pointer (some ⟨b,o,none⟩)=>if o<8 then some (.lit (.int .i64 ((b*8+o:Nat):Int)),[]) else none
 | _=>none
def ptrD:Option (Nat×Nat)→DataW Unit
 | none=>.lit (.bool false)
 | some (b,o)=>.lit (.int .i64 ((b*8+o:Nat):Int))
def ptrV:Option (Nat×Nat)→Value
 | none=>.pointer none
 | some (b,o)=>.pointer (some ⟨b,o,none⟩)
theorem ptrR_V (b o:Nat) (h:o<8):ptrR (ptrV (some (b,o)))=some (ptrD (some (b,o)),[]):=by unfold ptrV ptrR;exact if_pos h
theorem ptrR_inv {v:Value} {q:Option (Nat×Nat)} {ps:List MemPlace} (hq:∀ b o,q=some (b,o)→o<8) (h:ptrR v=some (ptrD q,ps)):v=ptrV q:=by
 unfold ptrR at h
 split at h
 ·cases q with
  | none=>rfl
  | some q=>obtain ⟨b,o⟩:=q;simp [ptrD] at h
 ·split at h
  ·cases q with
   | none=>simp [ptrD] at h
   | some q =>
    obtain ⟨b,o⟩:=q;have h1:=hq b o rfl
    rename_i b' o' h2
    simp only [ptrD,Option.some.injEq,Prod.mk.injEq,DataW.lit.injEq,Lit.int.injEq,true_and] at h;have h3:=Int.ofNat_inj.1 h.1;have h4:b'=b∧o'=o:=by omega
    rw [h4.1,h4.2];rfl
  ·cases h
 ·cases h
theorem keyedS:Maps.Keyed Tryz.prog 9:=Maps.string_keyed Tryz.underlying9
theorem keyS (a:List UInt8) (h:a.length≤1073741824):keyOf Tryz.prog 9 (.string (B a))=some (.string a):=by
 rw [keyOf_string_mk Tryz.underlying9 (by rw [B_size];unfold maxLen;omega),B_data]
theorem keyLit (a:List UInt8):WideAt.IsKeyLit (.string a):=by first|trivial|simp [WideAt.IsKeyLit]
theorem zeroI (w:World):(zeroValue 3).run Tryz.prog w = .ok (.int .i64 0) w:=by kernel_rfl
theorem size_same {w:World} {P:Program} {k:TypeId} {R:Value→Option (DataW Unit×List MemPlace)} {b n:Nat} {D:DataW Unit} (h:w.ownsMap P k R b n D):w.ownsMap P k R b (Maps.size D) D:=by
 obtain ⟨es,ck,h1,h2,h3,rfl⟩:=h;exact ⟨es,ck,h1,h2,by simp [Maps.size,length_sorted],rfl⟩
structure PtrAt (w:World) (r:Nat) (g:List UInt8→Option (Nat×Nat)) (c:Nat):Prop where
 m:∃ D,w.ownsMap Tryz.prog 9 ptrR r (Maps.size D) D∧Maps.size D≤c∧∀ a,D.atKey (.string a) (ptrD none)=ptrD (g a)
 o:∀ a b o,g a=some (b,o)→o<8
theorem PtrAt.lt {w:World} {r c:Nat} {g:List UInt8→Option (Nat×Nat)} (h:PtrAt w r g c):r<w.heap.size:=by obtain ⟨D,h1,_⟩:=h.m;exact h1.lt
theorem PtrAt.new (w:World):PtrAt (w.alloc (.map #[] 0)) w.heap.size (fun _=>none) 0 :=
 ⟨⟨.map [],World.ownsMap_made w Tryz.prog 9 ptrR,Nat.le_refl _,fun a=>rfl⟩,fun _ _ _ h=>by cases h⟩
def numR:Value→Option (DataW Unit×List MemPlace)
 | .int .i64 z=>some (.lit (.int .i64 z),[])
 | _=>none
theorem numR_inv {v:Value} {z:Int} {ps:List MemPlace} (h:numR v=some (.lit (.int .i64 z),ps)):v = .int .i64 z:=by
 unfold numR at h
 split at h
 ·simp at h
  rw [h.1]
 ·cases h
def seenG (S:List (List UInt8)) (a:List UInt8):Int:=if a∈S then 1 else 0
structure SeenAt (w:World) (r:Nat) (S:List (List UInt8)):Prop where
 m:∃ D,w.ownsMap Tryz.prog 9 numR r (Maps.size D) D∧Maps.size D≤S.length∧∀ a,D.atKey (.string a) (.lit (.int .i64 0)) = .lit (.int .i64 (seenG S a))
theorem SeenAt.lt {w:World} {r:Nat} {S:List (List UInt8)} (h:SeenAt w r S):r<w.heap.size:=by obtain ⟨D,h1,_⟩:=h.m;exact h1.lt
theorem SeenAt.block {w w':World} {r:Nat} {S:List (List UInt8)} (h:SeenAt w r S) (hb:w'.heap[r]?=w.heap[r]?):SeenAt w' r S:=by
 obtain ⟨D,⟨es,ck,k1,k2⟩,h2⟩:=h.m;exact ⟨⟨D,⟨es,ck,hb.trans k1,k2⟩,h2⟩⟩
theorem SeenAt.keeps {F:Nat→Prop} {w w':World} {r:Nat} {S:List (List UInt8)} (h:SeenAt w r S) (hk:Keeps F w w') (hF:¬ F r):SeenAt w' r S:=h.block (hk.block r h.lt hF)
theorem SeenAt.below {w w':World} {r:Nat} {S:List (List UInt8)} (h:SeenAt w r S) (hb:Below w.heap.size w w'):SeenAt w' r S:=h.block (hb.block r h.lt)
theorem SeenAt.new (w:World):SeenAt (w.alloc (.map #[] 0)) w.heap.size [] :=
 ⟨⟨.map [],World.ownsMap_made w Tryz.prog 9 numR,Nat.le_refl _,fun a=>rfl⟩⟩
theorem keeps_turned {w w':World} {r:Nat} (h:w.mapTurned w' r):Keeps (fun k=>k=r) w w':=by
 have hg:=h.grown;refine ⟨hg.os,hg.tape,hg.output,hg.size,fun k hk hF=>hg.block k hk (fun e=>hF (Option.some.inj e)),fun k hk=>?_⟩;by_cases e:k=r
 ·subst e
  obtain ⟨es,ck,es',ck',h1,rfl⟩:=h;unfold tyOf;rw [h1,heap_setBlock_same h1]
 ·exact zf (hg.block k hk (fun q=>e (Option.some.inj q)))
section
variable {P : Program} {ops : Array Oper} {o : Oper} {a : Act} {w : World} {K : Act → World → Prop} {Q : Exit → Act → World → Prop} {E : Prop} {Post : World → Prop}
end
end Go.Proofs.YtjcdmjdofdnaoaaGreatDoor.Spc
