/-
  Plain words for texts as lists of bytes, and small laws by which the walk reads them. No program in sight.
-/
import Derived.WalkKit
import Derived.WalkLawsBesides
import Derived.WalkSpells
import Derived.BigQuiet
import Derived.Outline
import Derived.Lib.Hide
import Derived.Deep.DeepCutAuto
import Derived.Deep.CutBlock
import Derived.Deep.LoopGhost
set_option linter.unusedSimpArgs false
set_option linter.unusedVariables false
namespace Go.Proofs.YtjcdmjdofdnaoaaGreatDoor
open Go.RowKit
def B (l:List UInt8):ByteArray:=⟨l.toArray⟩
@[go_sem] theorem mk_B (l:List UInt8):ByteArray.mk l.toArray=B l:=rfl
theorem B_data (l:List UInt8):(B l).data.toList=l:=by simp [B]
@[go_sem] theorem B_size (l:List UInt8):(B l).size=l.length:=by simp [B,ByteArray.size]
@[go_sem] theorem B_toList (l:List UInt8):(B l).toList=l:=by simp [B]
theorem B_all (s:ByteArray):∃ l,s=B l:=⟨s.data.toList,by cases s;simp [B]⟩
@[go_sem] theorem B_extract (l:List UInt8) (i j:Nat):(B l).extract i j=B ((l.take j).drop i):=by
 apply ByteArray.ext;simp [B,ByteArray.data_extract,List.drop_take]
@[go_sem] theorem B_append (a b:List UInt8):B a++B b=B (a++b):=by
 apply ByteArray.ext;simp [B]
@[go_sem] theorem B_get (l:List UInt8) (i:Nat) (h:i<(B l).size):(B l)[i]=l[i]'(by rw [B_size] at h;exact h):=by
 rfl
def Drew (w w':World):Prop:=∃ m:Nat,w'=w.drewN m
theorem Drew.refl (w:World):Drew w w:=⟨0,rfl⟩
theorem Drew.more {w w':World} (h:Drew w w') (n:Nat):Drew w (w'.drewN n):=by
 obtain ⟨m,rfl⟩:=h;exact ⟨m+n,World.drewN_drewN _ _ _⟩
theorem Drew.one {w w':World} (h:Drew w w'):Drew w w'.drew:=h.more 1
theorem Drew.below {n:Nat} {w0 w w':World} (h:Below n w0 w) (k:Drew w w'):Below n w0 w':=by
 obtain ⟨m,rfl⟩:=k;exact h.trans ⟨rfl,rfl,rfl,Nat.le_refl _,fun _ _=>rfl⟩
def GrowOf (w:World):={ w':World // Below w.heap.size w w' }
def grow (w:World) (g:GrowOf w):World:=g.1
instance (w:World):Nonempty (GrowOf w):=⟨⟨w,Below.refl _ _⟩⟩
theorem zh (w:World) (g:GrowOf w):Below w.heap.size w (grow w g):=g.2
theorem zar {w w':World} (h:Below w.heap.size w w'):∃ g:GrowOf w,w'=grow w g:=⟨⟨w',h⟩,rfl⟩
class Old (w:World) (b:Nat):Prop where
 lt:b<w.heap.size
instance (w:World) (x:Obj):Old (w.alloc x) w.heap.size:=⟨by simp⟩
instance (w:World) (x y:Obj):Old ((w.alloc x).alloc y) (w.heap.size+1):=⟨by simp⟩
instance (w:World) (x y z:Obj):Old (((w.alloc x).alloc y).alloc z) (w.heap.size+1+1):=⟨by simp⟩
instance (w:World) (x y z u:Obj):Old ((((w.alloc x).alloc y).alloc z).alloc u) (w.heap.size+1+1+1):=⟨by simp⟩
instance (w:World) (x y z u v:Obj):Old (((((w.alloc x).alloc y).alloc z).alloc u).alloc v) (w.heap.size+1+1+1+1):=⟨by simp⟩
instance (w:World) (x:Obj) (b:Nat) [h:Old w b]:Old (w.alloc x) b:=⟨by have:=h.lt;simp;omega⟩
instance (w:World) (g:GrowOf w) (b:Nat) [h:Old w b]:Old (grow w g) b:=⟨Nat.lt_of_lt_of_le h.lt g.2.size⟩
instance (w:World) (b:Nat) [h:Old w b]:Old w.drew b:=⟨h.lt⟩
instance (w:World) (n b:Nat) [h:Old w b]:Old (w.drewN n) b:=⟨h.lt⟩
instance (w:World) (a:Addr) (v:Value) (b:Nat) [h:Old w b]:Old (w.setCell a v) b:=⟨by have:=h.lt;simpa [World.setCell] using this⟩
@[go_sem] theorem old_lt (w:World) (b:Nat) [h:Old w b]:b<w.heap.size:=h.lt
@[go_sem] theorem znq (w:World) (g:GrowOf w) (b o:Nat) (p:Option Nat) [h:Old w b]:(grow w g).cell? ⟨b,o,p⟩=w.cell? ⟨b,o,p⟩:=g.2.cell (p:=⟨b,o,p⟩) h.lt
@[go_sem] theorem frozen_grow (w:World) (g:GrowOf w) (b o:Nat) (p:Option Nat) [h:Old w b]:(grow w g).frozen? ⟨b,o,p⟩=w.frozen? ⟨b,o,p⟩:=g.2.frozen (p:=⟨b,o,p⟩) h.lt
@[go_sem] theorem lt_grow (w:World) (g:GrowOf w) (b:Nat) (h:b<w.heap.size):b<(grow w g).heap.size:=Nat.lt_of_lt_of_le h g.2.size
@[go_sem] theorem le_grow (w:World) (g:GrowOf w) (b:Nat) (h:b≤w.heap.size):b≤(grow w g).heap.size:=Nat.le_trans h g.2.size
def growTrans {w:World} (g:GrowOf w) (k:GrowOf (grow w g)):GrowOf w:=⟨k.1,g.2.trans (k.2.mono g.2.size)⟩
@[go_sem] theorem grow_grow (w:World) (g:GrowOf w) (k:GrowOf (grow w g)):grow (grow w g) k=grow w (growTrans g k):=rfl
theorem zbi (w:World) (n:Nat):∃ g:GrowOf w,w.drewN n=grow w g:=⟨⟨w.drewN n,Drew.below (Below.refl _ _) ⟨n,rfl⟩⟩,rfl⟩
theorem zq {P:Program} {id:Nat} {Q:Exit→Act→World→Prop} {a:Act} {w:World} {l:List Oper} (hm:P.follows .mixedOrders=true) (hB:Region.lexB .any l.toArray=true)
  (h:wpQuiet P l.toArray (fun w'=>∃ g:GrowOf w,w'=grow w g) (fun a'=>∀ w',(∃ g:GrowOf w,w'=grow w g)→Q .normal a' w') l a):(Code.region id l.toArray true).wp P Q a w :=
 wp_region_quiet (C:=fun w'=>∃ g:GrowOf w,w'=grow w g) hm hB (zbi w 1) (by simpa using h)
theorem zda {P:Program} {f:FuncId} {args:Array Value} {w:World} {g:GrowOf w} {v:Value}
  (h:Calls P f args (grow w g) fun e w'=>e = .returned v∧Below (grow w g).heap.size (grow w g) w'):Calls P f args (grow w g) fun e w''=>e = .returned v∧∃ g':GrowOf w,w''=grow w g' :=
 h.mono fun _ _ ⟨he,hb⟩=>⟨he,growTrans g ⟨_,hb⟩,rfl⟩
theorem zhb {P:Program} {f:FuncId} {args:Array Value} {w:World} {g:GrowOf w} {v:Value}
  (h:Calls P f args (grow w g) fun e w'=>e = .returned v∧grow w g=w'):Calls P f args (grow w g) fun e w''=>e = .returned v∧∃ g':GrowOf w,w''=grow w g' :=
 h.mono fun _ _ ⟨he,hm⟩=>⟨he,g,hm.symm⟩
theorem no {p:Prop} [Decidable p] (h:¬ p):decide p=false:=decide_eq_false h
theorem yes {p:Prop} [Decidable p] (h:p):decide p=true:=decide_eq_true h
theorem za {w w':World} (h:Below w.heap.size w w') (o:Obj):Below w.heap.size w (w'.alloc o):=h.alloc h.size o
theorem zj {w w':World} (h:Below w.heap.size w w') (g:GrowOf w'):Below w.heap.size w (grow w' g):=h.trans (g.2.mono h.size)
theorem zg {w w':World} (h:Below w.heap.size w w'):Below w.heap.size w w'.drew:=h.drew
theorem zad {w w':World} (h:Below w.heap.size w w') (n:Nat):Below w.heap.size w (w'.drewN n):=Drew.below h ⟨n,rfl⟩
theorem zab {w w':World} (h:Below w.heap.size w w') {a:Addr} (ha:w.heap.size≤a.block) (v:Value):Below w.heap.size w (w'.setCell a v):=h.setCell ha v
theorem znr (w w':World) (h:Below w.heap.size w w') (a:Addr) (v:Value):Below (w.setCell a v).heap.size (w.setCell a v) (w'.setCell a v):=by
 refine ⟨h.os,h.tape,h.output,by simpa [World.setCell] using h.size,fun k hk=>?_⟩;have hk':k<w.heap.size:=by simpa [World.setCell] using hk
 have:=h.block k hk';simp only [World.setCell,Array.getElem?_modify,this]
def growSet {w:World} (g:GrowOf w) (a:Addr) (v:Value):GrowOf (w.setCell a v):=⟨(grow w g).setCell a v,znr w _ g.2 _ v⟩
def growDrewN {w:World} (g:GrowOf w) (n:Nat):GrowOf w:=⟨(grow w g).drewN n,zad g.2 n⟩
def growDrew {w:World} (g:GrowOf w):GrowOf w:=⟨(grow w g).drew,zg g.2⟩
def drewNGrow {w:World} {n:Nat} (g:GrowOf (w.drewN n)):GrowOf w:=⟨grow (w.drewN n) g,(zad (Below.refl _ _) n).trans g.2⟩
def drewGrow {w:World} (g:GrowOf w.drew):GrowOf w:=⟨grow w.drew g,(zg (Below.refl _ _)).trans g.2⟩
@[go_sem] theorem grow_setCell (w:World) (g:GrowOf w) (b o:Nat) (p:Option Nat) (v:Value) [_h:Old w b]:(grow w g).setCell ⟨b,o,p⟩ v=grow (w.setCell ⟨b,o,p⟩ v) (growSet g ⟨b,o,p⟩ v):=rfl
@[go_sem] theorem zqc (w:World) (g:GrowOf w) (n:Nat):(grow w g).drewN n=grow w (growDrewN g n):=rfl
@[go_sem] theorem grow_then_drew (w:World) (g:GrowOf w):(grow w g).drew=grow w (growDrew g):=rfl
@[go_sem] theorem zqd (w:World) (n:Nat) (g:GrowOf (w.drewN n)):grow (w.drewN n) g=grow w (drewNGrow g):=rfl
@[go_sem] theorem drew_then_grow (w:World) (g:GrowOf w.drew):grow w.drew g=grow w (drewGrow g):=rfl
theorem zu (w:World) (x:Obj) (b:Nat) (h:b<w.heap.size):(w.alloc x).heap[b]?=w.heap[b]?:=Below.heap_alloc w x b h
@[go_sem] theorem zh7 (w:World) (x:Obj) (b o:Nat) (p:Option Nat) [h:Old w b]:(w.alloc x).cell? ⟨b,o,p⟩=w.cell? ⟨b,o,p⟩:=World.cell?_of_block (w:=w) (zu w x b h.lt)
@[go_sem] theorem zqe (w:World) (x:Obj) (b o:Nat) (p:Option Nat) [h:Old w b]:(w.alloc x).frozen? ⟨b,o,p⟩=w.frozen? ⟨b,o,p⟩:=World.frozen?_of_block (w:=w) (zu w x b h.lt)
@[go_sem] theorem zfo (w:World) (x:Obj) (b o:Nat) (v:Value) [h:Old w b]:(w.alloc x).setCell ⟨b,o,none⟩ v=(w.setCell ⟨b,o,none⟩ v).alloc x:=World.setCell_alloc_past x b o v h.lt
theorem B_inj {a b:List UInt8} (h:B a=B b):a=b:=by
 have:=congrArg (fun s=>s.data.toList) h
 simpa [B_data] using this
theorem zzb {n:Nat} {w w':World} (h:Below n w w':=by (repeat (first|exact Below.refl _ _|assumption|with_reducible (first|refine za ?_ _|refine zj ?_ _|refine zad ?_ _|refine zg ?_|refine zab ?_ (by first|(dsimp only;omega)|(simp;done)|(simp;omega)) _)))):Below n w w':=h
theorem zzr {n:Nat} {w w':World} (h:Below n w w':=by (repeat with_reducible (first|exact Below.refl _ _|assumption|refine za ?_ _|refine zj ?_ _|refine zad ?_ _|refine zg ?_|refine zab ?_ (by first|(dsimp only;omega)|(simp;done)|(simp;omega)) _))):Below n w w':=h
theorem zzt {α:Type} (l:List α) (i:Nat) (a:α):l.toArray.setIfInBounds i a=(l.set i a).toArray:=by simp
theorem zzz {α:Type} (l:List α) (a b:α):(a::l).set 0 b=b::l:=rfl
theorem zzs {α:Type} (l:List α) (a b:α) (n:Nat):(a::l).set (n+1) b=a::l.set n b:=rfl
end Go.Proofs.YtjcdmjdofdnaoaaGreatDoor
