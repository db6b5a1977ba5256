/-
  Loops over iterators that hold memory of their own between their rounds, and that may loop over other iterators and hand the rounds down: the caller tells which blocks its rounds write (a set that turns as its slices grow). No program in sight.
-/
import Derived.Test.YtjcdmjdofdnaoaaGreatDoorExp4
import Derived.Test.YtjcdmjdofdnaoaaGreatDoorExp7
import Derived.Test.YtjcdmjdofdnaoaaGreatDoorIterB
set_option linter.unusedSimpArgs false
set_option linter.unusedVariables false
namespace Go.Proofs.YtjcdmjdofdnaoaaGreatDoor.Ex
open Go.ChangeShapes Go.WideShapes Go.Deep Go.RowKit Cls Md Mc _root_.Go.Proofs.YtjcdmjdofdnaoaaGreatDoor.Pa Li Pat
set_option maxRecDepth 100000
theorem _root_.Go.Proofs.YtjcdmjdofdnaoaaGreatDoor.j7w {p:Prop} (h:p):Go.RowKit.Hid p:=Go.Lib.hid h
def WordC (w0:World) (vv:Value) (f:Nat) (T:List UInt8→Res) (m:Nat):Prop:=∀ (u:List UInt8) (W:World),Below w0.heap.size w0 W→u.length≤m→Calls Tryz.prog f #[vv,.string (B u)] W (ResP (T u) W)
theorem WordC.below {w0 w1:World} {vv:Value} {f:Nat} {T:List UInt8→Res} {m:Nat} (h:WordC w0 vv f T m) (hb:Below w0.heap.size w0 w1):WordC w1 vv f T m:=fun u W hW hu=>h u W (zb hb hW) hu
set_option maxHeartbeats 3200000 in
theorem one_any {w0:World} {vv:Value} {g:Look} {T P:List UInt8→Res} (p:Pc) (hx:ExOk p.tx) (hm:MaxL w0) (hg:GetC w0 vv g) {M:Nat} (hM0:0<M) (hM:M≤1048577) (hI:ItoaC w0 M) (hgl:∀ a v,g a=some v→v.length<M) (hs:p.tx.length≤30000)
  (hT:WordC w0 vv 162 T (p.tx.length - 3)) (hP:WordC w0 vv 163 P (p.tx.length - 3)) (hPl:∀ u,(P u).1.length≤2097152) :
  Calls Tryz.prog 104 #[vv,pcV p] w0 (ResP (oneG T P g p) w0):=by
 obtain ⟨ex,qu,tx⟩:=p;unfold pcV;dsimp only at hx hs hT hP ⊢;have HO:=j7w fun W=>open_any ⟨ex,qu,tx⟩ W (by dsimp only;omega);dsimp only at HO;have HB:=j7w (za (Below.refl w0.heap.size w0) (.cells #[.bool ex,.bool qu,.string (B tx)] 138));by_cases ho:openG ⟨ex,qu,tx⟩=true
 ·have HR:=j7w (show oneG T P g ⟨ex,qu,tx⟩=([],9) by unfold oneG;rw [if_pos ho])
  rw [ho] at HO;generalize oneG T P g ⟨ex,qu,tx⟩=R at *;clear ho hx;go_enter Tryz.func104,Tryz.ntmps104
  go_wp2_with (go_at_call 131;refine (HO.out _).mono ?_;rintro e w1 ⟨rfl,hb⟩;have HB2:=j7w (zb HB.out hb);clear hb)
  go_ret2;exact ⟨by rw [HR.out];rfl,HB2.out⟩
 have ho2:openG ⟨ex,qu,tx⟩=false:=by simpa using ho
 have HE:=j7w (show oneG T P g ⟨ex,qu,tx⟩=if tx.take 2=[36,123] then braG T P g ((tx.take (tx.length - 1)).drop 2) qu else if tx.take 2=[36,40]∨tx.head?=some 96 then ([],8) else ((g (tx.drop 1)).getD [],0) by unfold oneG;rw [if_neg ho]);have HQ:=j7w ho2;rw [ho2] at HO;generalize oneG T P g ⟨ex,qu,tx⟩=R at *;clear ho ho2;have box:=j7w (BoxN.new w0 [.bool ex,.bool qu,.string (B tx)] 138);have prefixes:∀ (p:List UInt8) (v:Bool),Lib.hasPrefix tx p=v→∀ W:World,Calls Tryz.prog 35 #[.string (B tx),.string (B p)] W fun e w'=>e = .returned (.bool v)∧W=w':=fun p v h W=>h ▸ zig tx p W;have HH:=j7w prefixes;clear prefixes;rcases hx with ⟨r,rfl⟩|⟨c,r,rfl⟩
 ·have HP1:Hid (∀ W:World,Calls Tryz.prog 35 #[.string (B (96 :: r)),.string { data:=#[36,123] }] W fun e w'=>e = .returned (.bool false)∧W=w'):=j7w (HH.out [36,123] false rfl)
  have HP2:Hid (∀ W:World,Calls Tryz.prog 35 #[.string (B (96 :: r)),.string { data:=#[36,40] }] W fun e w'=>e = .returned (.bool false)∧W=w'):=j7w (HH.out [36,40] false rfl);have HP3:Hid (∀ W:World,Calls Tryz.prog 35 #[.string (B (96 :: r)),.string { data:=#[96] }] W fun e w'=>e = .returned (.bool true)∧W=w'):=j7w (HH.out [96] true (by simp [Lib.hasPrefix,List.isPrefixOf]))
  have HR:=j7w (show R=([],8) by
   rw [HE.out,if_neg (by simp),if_pos (.inr rfl)])
  clear HH HE HQ;go_enter Tryz.func104,Tryz.ntmps104
  go_wp2_with (first
   | (go_at_call 131;with_reducible refine (HO.out _).mono ?_;rintro e w1 ⟨rfl,hb⟩;have HB2:=j7w (zb HB.out hb);have hc2:=(box.out.below hb).c 2 _ rfl;clear hb)
   | (go_at_call 35;refine (HP1.out _).mono ?_;rintro e w2 ⟨rfl,rfl⟩)
   | (go_at_call 35;refine (HP2.out _).mono ?_;rintro e w2 ⟨rfl,rfl⟩)
   | (go_at_call 35;refine (HP3.out _).mono ?_;rintro e w2 ⟨rfl,rfl⟩))
  go_ret2;exact ⟨by rw [HR.out];rfl,HB2.out⟩
 ·by_cases h1:c=123
  ·subst h1
   have HP1:Hid (∀ W:World,Calls Tryz.prog 35 #[.string (B (36 :: 123 :: r)),.string { data:=#[36,123] }] W fun e w'=>e = .returned (.bool true)∧W=w'):=j7w (HH.out [36,123] true (by simp [Lib.hasPrefix,List.isPrefixOf]))
   have h3:3≤(36 :: 123 :: r).length:=by
    cases r with
    | nil =>
     have this:=HQ.out;clear HB box HO HP1 HE HQ HH
     revert this;cases ex <;> cases qu <;> decide
    | cons a r=>simp
   have HR:=j7w (show R=braG T P g (((36 :: 123 :: r).take ((36 :: 123 :: r).length - 1)).drop 2) qu by
    rw [HE.out,if_pos (by simp)])
   clear HH HE HQ;generalize 36 :: 123 :: r=tx at *;have hsl:(((tx.take (tx.length - 1)).drop 2)).length=tx.length - 3:=by rw [List.length_drop,List.length_take];omega
   have HBR:=j7w fun (W:World) (hW:Below w0.heap.size w0 W)=>zma ((tx.take (tx.length - 1)).drop 2) qu (hm.below hW) (hg.below hW) hM0 hM (hI.below hW) hgl (by omega) (fun u X hX hu=>hT u X (zb hW hX) (by omega)) (fun u X hX hu=>hP u X (zb hW hX) (by omega)) hPl;have jw:IntKind.i64.wrap ((tx.length:Int) - 1)=((tx.length - 1:Nat):Int):=by rw [IntWalk.i64_in _ (by omega)];omega
   have j0:(2:Int)≤((tx.length - 1:Nat):Int):=by omega
   have j1:((tx.length - 1:Nat):Int)≤(tx.length:Int):=by omega
   have j2:tx.length - 1≤tx.length:=by omega
   unfold ResP at HBR;generalize braG T P g ((tx.take (tx.length - 1)).drop 2) qu=RB at *;clear hT hP hPl hg hgl hm hsl;go_enter Tryz.func104,Tryz.ntmps104
   go_wp2_with (first
    | (go_at_call 131;with_reducible refine (HO.out _).mono ?_;rintro e w1 ⟨rfl,hb⟩;have HB2:=j7w (zb HB.out hb);have hc1:w1.cell? ⟨w0.heap.size,1,none⟩=some (.bool qu):=(box.out.below hb).c 1 _ rfl;have hc2:w1.cell? ⟨w0.heap.size,2,none⟩=some (.string (B tx)):=(box.out.below hb).c 2 _ rfl;clear hb)
    | (go_at_call 35;refine (HP1.out _).mono ?_;rintro e w2 ⟨rfl,rfl⟩))
   haveI:Old w1 w0.heap.size:=⟨World.block_lt_of_cell? _ _ hc2⟩
   (refine zq (by kernel_rfl) (by kernel_rfl) ?_;(repeat (go_big_quiet_step ((go_at_call 132;exact zda (HBR.out _ (zj HB2.out _))))));refine wpQuiet_nil ?_;intro _ hw';obtain ⟨gq,hw''⟩:=hw';subst hw'')
   go_wp2_with fail;go_ret2;exact ⟨by rw [HR.out];rfl,zj HB2.out gq⟩
  by_cases h2:c=40
  ·subst h2
   have HP1:Hid (∀ W:World,Calls Tryz.prog 35 #[.string (B (36 :: 40 :: r)),.string { data:=#[36,123] }] W fun e w'=>e = .returned (.bool false)∧W=w'):=j7w (HH.out [36,123] false (by simp [Lib.hasPrefix,List.isPrefixOf]));have HP2:Hid (∀ W:World,Calls Tryz.prog 35 #[.string (B (36 :: 40 :: r)),.string { data:=#[36,40] }] W fun e w'=>e = .returned (.bool true)∧W=w'):=j7w (HH.out [36,40] true (by simp [Lib.hasPrefix,List.isPrefixOf]))
   have HR:=j7w (show R=([],8) by
    rw [HE.out,if_neg (by simp),if_pos (.inl rfl)])
   clear HH HE HQ;go_enter Tryz.func104,Tryz.ntmps104
   go_wp2_with (first
    | (go_at_call 131;with_reducible refine (HO.out _).mono ?_;rintro e w1 ⟨rfl,hb⟩;have HB2:=j7w (zb HB.out hb);have hc2:=(box.out.below hb).c 2 _ rfl;clear hb)
    | (go_at_call 35;refine (HP1.out _).mono ?_;rintro e w2 ⟨rfl,rfl⟩)
    | (go_at_call 35;refine (HP2.out _).mono ?_;rintro e w2 ⟨rfl,rfl⟩))
   go_ret2;exact ⟨by rw [HR.out];rfl,HB2.out⟩
  have HP1:Hid (∀ W:World,Calls Tryz.prog 35 #[.string (B (36 :: c :: r)),.string { data:=#[36,123] }] W fun e w'=>e = .returned (.bool false)∧W=w'):=j7w (HH.out [36,123] false (by simp [Lib.hasPrefix,List.isPrefixOf,Ne.symm h1]));have HP2:Hid (∀ W:World,Calls Tryz.prog 35 #[.string (B (36 :: c :: r)),.string { data:=#[36,40] }] W fun e w'=>e = .returned (.bool false)∧W=w'):=j7w (HH.out [36,40] false (by simp [Lib.hasPrefix,List.isPrefixOf,Ne.symm h2]));have HP3:Hid (∀ W:World,Calls Tryz.prog 35 #[.string (B (36 :: c :: r)),.string { data:=#[96] }] W fun e w'=>e = .returned (.bool false)∧W=w'):=j7w (HH.out [96] false (by simp [Lib.hasPrefix,List.isPrefixOf]))
  have HR:=j7w (show R=((g (c :: r)).getD [],0) by
   rw [HE.out,if_neg (by simp [h1]),if_neg (by simp [h2])];rfl)
  have HG1:=j7w fun W (hW:Below w0.heap.size w0 W)=>hg (c :: r) W hW (by simp at hs ⊢;omega);have hlen:=hgl (c :: r);clear HH HE HQ hT hP hPl hg hgl hm h1 h2;generalize g (c :: r)=gv at *;go_enter Tryz.func104,Tryz.ntmps104
  go_wp2_with (first
   | (go_at_call 131;with_reducible refine (HO.out _).mono ?_;rintro e w1 ⟨rfl,hb⟩;have HB2:=j7w (zb HB.out hb);have hc2:=(box.out.below hb).c 2 _ rfl;clear hb)
   | (go_at_call 35;refine (HP1.out _).mono ?_;rintro e w2 ⟨rfl,rfl⟩)
   | (go_at_call 35;refine (HP2.out _).mono ?_;rintro e w2 ⟨rfl,rfl⟩)
   | (go_at_call 35;refine (HP3.out _).mono ?_;rintro e w2 ⟨rfl,rfl⟩)
   | (go_at_call 133;refine (HG1.out _ HB2.out).mono ?_;rintro e w3 ⟨rfl,hb⟩;have HB3:=j7w (zb HB2.out hb);clear hb))
  go_ret2;exact ⟨by rw [HR.out];rfl,HB3.out⟩
end Go.Proofs.YtjcdmjdofdnaoaaGreatDoor.Ex
namespace Go.Proofs.YtjcdmjdofdnaoaaGreatDoor.Li
open Cls Md Mc _root_.Go.Proofs.YtjcdmjdofdnaoaaGreatDoor.Pa
theorem zmr {s:List UInt8} (hs:s.length≤30000) {q:Pc} (hq:q∈piecesL s):q.tx.length≤1000000000:=by
 obtain ⟨a,b,e⟩:=List.append_of_mem hq;have:=zor s hs (List.prefix_refl _);rw [e,zbe,zcj,List.length_append,List.length_append] at this;omega
end Go.Proofs.YtjcdmjdofdnaoaaGreatDoor.Li
namespace Go.Proofs.YtjcdmjdofdnaoaaGreatDoor.Ex
open Cls Md Mc _root_.Go.Proofs.YtjcdmjdofdnaoaaGreatDoor.Pa Li Pat
end Go.Proofs.YtjcdmjdofdnaoaaGreatDoor.Ex
namespace Go.Proofs.YtjcdmjdofdnaoaaGreatDoor
open Go.ChangeShapes Go.WideShapes Go.Deep Go.RowKit
structure KcQ (N:Nat) (F F':Nat→Prop) (W W':World):Prop where
 low:Below N W W'
 cells:∀ k o,W.heap[k]?=some o→o.isCells=true→¬ F k→W'.heap[k]?=some o
 new:∀ k,F' k→F k∨W.heap.size≤k
structure KpQ (A N:Nat) (F F':Nat→Prop) (W W':World):Prop extends KcQ N F F' W W' where
 recs:KeepsFrom A W W'
theorem z8 {W:World} {k:Nat} {o:Obj} (h:W.heap[k]?=some o):k<W.heap.size:=(Array.getElem?_eq_some_iff.1 h).1
theorem KcQ.refl (N:Nat) (F:Nat→Prop) (W:World):KcQ N F F W W:=⟨Below.refl _ _,fun _ _ h _ _=>h,fun _ h=>.inl h⟩
theorem KcQ.trans {N:Nat} {F F' F'':Nat→Prop} {X Y Z:World} (h:KcQ N F F' X Y) (k:KcQ N F' F'' Y Z):KcQ N F F'' X Z :=
 ⟨h.low.trans k.low,fun j o hj ho hf=>k.cells j o (h.cells j o hj ho hf) ho (fun e=>by
  rcases h.new j e with e|e
  ·exact hf e
  ·have:=z8 hj;omega),fun j hj=>by
  rcases k.new j hj with e|e
  ·exact h.new j e
  ·exact .inr (Nat.le_trans h.low.size e)⟩
theorem KpQ.refl (A N:Nat) (F:Nat→Prop) (W:World):KpQ A N F F W W:=⟨KcQ.refl N F W,KeepsFrom.refl _ _⟩
theorem KpQ.trans {A N:Nat} {F F' F'':Nat→Prop} {X Y Z:World} (h:KpQ A N F F' X Y) (k:KpQ A N F' F'' Y Z):KpQ A N F F'' X Z:=⟨h.toKcQ.trans k.toKcQ,h.recs.trans k.recs⟩
theorem Lull.mono {B B':Nat} {W W':World} (h:Lull B W W') (hb:B'≤B):Lull B' W W':=⟨h.os,h.tape,h.output,h.size,fun k h1 h2=>h.low k h1 (by omega),h.cells⟩
theorem Lull.trans {B:Nat} {X Y Z:World} (h:Lull B X Y) (k:Lull B Y Z):Lull B X Z :=
 ⟨k.os.trans h.os,k.tape.trans h.tape,k.output.trans h.output,Nat.le_trans h.size k.size,fun j h1 h2=>(k.low j (Nat.lt_of_lt_of_le h1 h.size) h2).trans (h.low j h1 h2),fun j o h1 h2=>k.cells j o (h.cells j o h1 h2) h2⟩
theorem Lull.of_below {B:Nat} {W W':World} (h:Below W.heap.size W W'):Lull B W W' :=
 ⟨h.os,h.tape,h.output,h.size,fun k h1 _=>h.block k h1,fun k o h1 _=>(h.block k (z8 h1)).trans h1⟩
structure LullQ (B:Nat) (F:Nat→Prop) (W W':World):Prop where
 os:W'.os=W.os
 tape:W'.tape=W.tape
 output:W'.output=W.output
 size:W.heap.size≤W'.heap.size
 low:∀ k,k<W.heap.size→k<B→W'.heap[k]?=W.heap[k]?
 cells:∀ k o,W.heap[k]?=some o→o.isCells=true→F k→W'.heap[k]?=some o
theorem Lull.q {B:Nat} {F:Nat→Prop} {W W':World} (h:Lull B W W'):LullQ B F W W':=⟨h.os,h.tape,h.output,h.size,h.low,fun k o h1 h2 _=>h.cells k o h1 h2⟩
theorem LullQ.mono {B B':Nat} {F F':Nat→Prop} {W W':World} (h:LullQ B F W W') (hb:B'≤B) (hF:∀ k,F' k→F k):LullQ B' F' W W':=⟨h.os,h.tape,h.output,h.size,fun k h1 h2=>h.low k h1 (by omega),fun k o h1 h2 h3=>h.cells k o h1 h2 (hF k h3)⟩
theorem LullQ.below {B N:Nat} {F:Nat→Prop} {w W W':World} (h:LullQ B F W W') (hb:Below N w W) (hN:N≤B) (hw:N≤w.heap.size):Below N w W' :=
 hb.trans ⟨h.os,h.tape,h.output,h.size,fun k hk=>h.low k (by have:=hb.size;omega) (by omega)⟩
theorem LullQ.cell {B b o:Nat} {F:Nat→Prop} {W W':World} {v:Value} (h:LullQ B F W W') (hc:W.cell? ⟨b,o,none⟩=some v) (hb:b<B):W'.cell? ⟨b,o,none⟩=some v :=
 (World.cell?_of_block (w:=W) (h.low b (World.block_lt_of_cell? W _ hc) hb)).trans hc
theorem LullQ.setCell {B b:Nat} {F:Nat→Prop} (W:World) (hb:B≤b) (hF:¬ F b) (v:Value):LullQ B F W (W.setCell ⟨b,0,none⟩ v):=by
 have hS:=Keeps.setCell (F:=fun k=>k=b) W (a:=⟨b,0,none⟩) rfl v;exact ⟨hS.os,hS.tape,hS.output,hS.size,fun k h1 h2=>hS.block k h1 (by omega),fun k o h1 h2 h3=>(hS.block k (z8 h1) (fun e=>hF (e ▸ h3))).trans h1⟩
theorem LullQ.of_below {B:Nat} {F:Nat→Prop} {W W':World} (h:Below W.heap.size W W'):LullQ B F W W':=(Lull.of_below h).q
theorem KpQ.lull {A N B:Nat} {F F' G:Nat→Prop} {W0 W W':World} (h:KpQ A N F F' W0 W) (hL:LullQ B G W W') (hB:W0.heap.size≤B) (hN:N≤W0.heap.size):KpQ A N F F' W0 W' :=
 ⟨⟨hL.below h.low (by omega) hN,fun k o hk ho hf=>by
  have h1:=h.cells k o hk ho hf
  exact (hL.low k (z8 h1) (by have:=z8 hk;omega)).trans h1,h.new⟩,⟨Nat.le_trans h.low.size hL.size,fun k o hA hk ho=>by
  have h1:=h.recs.same k o hA hk ho;have h2:=z8 hk
  exact (hL.low k (z8 h1) (by omega)).trans h1⟩⟩
theorem KcQ.of_below {N:Nat} {F:Nat→Prop} {W W':World} (h:Below W.heap.size W W') (hN:N≤W.heap.size):KcQ N F F W W' :=
 ⟨h.mono hN,fun k o hk _ _=>(h.block k (z8 hk)).trans hk,fun _ h=>.inl h⟩
theorem KpQ.of_below {A N:Nat} {F:Nat→Prop} {W W':World} (h:Below W.heap.size W W') (hN:N≤W.heap.size):KpQ A N F F W W' :=
 ⟨KcQ.of_below h hN,⟨h.size,fun k o _ hk _=>(h.block k (z8 hk)).trans hk⟩⟩
theorem zcu {A:Nat} {W W':World} (h:Below W.heap.size W W'):KeepsFrom A W W':=⟨h.size,fun k o _ hk _=>(h.block k (z8 hk)).trans hk⟩
theorem KcQ.cell {N:Nat} {F F':Nat→Prop} {W W':World} (h:KcQ N F F' W W') {b o:Nat} {v:Value} (hc:W.cell? ⟨b,o,none⟩=some v) (hF:¬ F b):W'.cell? ⟨b,o,none⟩=some v:=by
 obtain ⟨x,h1,h2⟩:=zam hc;exact (World.cell?_of_block (w:=W) ((h.cells b x h1 h2 hF).trans h1.symm)).trans hc
def GivesQ (P:Program) {α : Type} (gf:Nat) (lb:Array Value) (encs : α → Array Value) (G:Nat→Prop) (N:Nat) (xs:List α) (w:World):Prop :=
 ∀ n,1≤n→∀ (l:Nat) (J Jx:List α → (Nat→Prop)→World→Prop) (W:World),Below w.heap.size w W →
  (∀ s F A C,LullQ W.heap.size F A C→J s F A→J s F C)→(∀ s F A C,LullQ W.heap.size F A C→Jx s F A→Jx s F C)→(∀ s F A,J s F A→∀ k,F k→k<A.heap.size) →
  (∀ m pre x F W1,J pre F W1→pre++[x] <+: xs→YieldAt Fence.wide m P l (encs x) W1 fun e W'=>∃ F',KpQ W.heap.size N F F' W1 W'∧((e = .returned (.bool true)∧J (pre++[x]) F' W')∨(e = .returned (.bool false)∧Jx (pre++[x]) F' W'))) →
  ∀ F,(∀ k,F k→¬ G k)→J [] F W→CallsIn Fence.wide n P gf (#[.func (.yield l) #[] #[]]++lb) W fun e W'=>(∃ v,e = .returned v)∧∃ F',J xs F' W'∨∃ p,p <+: xs∧Jx p F' W'
theorem GivesQ.below {P:Program} {α : Type} {gf:Nat} {lb:Array Value} {encs : α → Array Value} {G:Nat→Prop} {N:Nat} {xs:List α} {w w':World} (h:GivesQ P gf lb encs G N xs w) (hb:Below w.heap.size w w'):GivesQ P gf lb encs G N xs w' :=
 fun n hn l J Jx W hW=>h n hn l J Jx W (hb.trans (hW.mono hb.size))
def ownPostQ {α : Type} (B N:Nat) (F:Nat→Prop) (I:List α → (Nat→Prop)→World→Prop) (Ix:Code→List α → (Nat→Prop)→World→Prop) (xs:List α) (W:World):Exit→Act→World→Prop
 | .normal,_,W'=>∃ F',KeepsFrom B W W'∧KcQ N F F' W W'∧I xs F' W'
 | .ret,_,W'=>∃ F',KeepsFrom B W W'∧KcQ N F F' W W'∧Ix .ret xs F' W'
 | .exit id,_,W'=>∃ F',KeepsFrom B W W'∧KcQ N F F' W W'∧Ix (.exit id) xs F' W'
 | .goto t,_,W'=>∃ F',KeepsFrom B W W'∧KcQ N F F' W W'∧Ix (.goto t) xs F' W'
 | .panic _,_,_=>False
 | .outgrown,_,_=>False
theorem zae {m m':Nat} {P:Program} {l:Nat} {f:FuncId} {tmps:Array Value} {assign body:Code} {w:World} {R:Ending→World→Prop}
  (h:RoundIn Fence.wide m P l f tmps assign body w R):RoundIn Fence.wide m' P l f tmps assign body w R:=⟨h.1,fun c cs _=>h.2 c cs (fun d hd=>by cases hd)⟩
theorem zff {m m':Nat} {P:Program} {l:Nat} {args:Array Value} {W:World} {R:Ending→World→Prop} (h:YieldAt Fence.wide m P l args W R):YieldAt Fence.wide m' P l args W R:=by
 obtain ⟨fn,tmps,assign,body,hy,hR⟩:=h;exact ⟨fn,tmps,assign,body,hy,zae hR⟩
section
variable {P : Program} {α : Type} {n : Nat}
theorem zon {N:Nat} {W:World} {l:Nat} {o:Obj} (hl:N≤l):Below N W (W.putObj l o) :=
 ⟨(grownBy_putObj' W l o).os,(grownBy_putObj' W l o).tape,(grownBy_putObj' W l o).output,(grownBy_putObj' W l o).size,fun k hk=>World.putObj_heap_other (by omega)⟩
theorem KcQ.put {N d:Nat} {F F':Nat→Prop} {X W:World} {r r':Loop} (h:KcQ N F F' X W) (hr:Rec W d r) (hN:N≤d):KcQ N F F' X (W.putObj (d+1) (.loop r')) :=
 ⟨h.low.trans (zon (by omega)),fun k o hk ho hf=>(by
  have h1:=h.cells k o hk ho hf;refine (World.putObj_heap_other (fun e=>?_)).trans h1;subst e;rw [hr.l] at h1;cases h1
  cases ho),h.new⟩
theorem za7 {A d:Nat} {X W:World} {r':Loop} (h:KeepsFrom A X W) (hA:d+1<A):KeepsFrom A X (W.putObj (d+1) (.loop r')) :=
 ⟨Nat.le_trans h.size (grownBy_putObj' W (d+1) (.loop r')).size,fun k o hk h1 h2=>(World.putObj_heap_other (by omega)).trans (h.same k o hk h1 h2)⟩
theorem zak {A A':Nat} {X W:World} (h:KeepsFrom A X W) (hA:A≤A'):KeepsFrom A' X W:=⟨h.size,fun k o hk=>h.same k o (by omega)⟩
theorem Rec.lull2 {W W':World} {F:Nat→Prop} {d:Nat} {r:Loop} (h:Rec W d r) (hL:LullQ (d+2) F W W'):Rec W' d r :=
 ⟨(hL.low _ h.lt (by omega)).trans h.l,(hL.low _ (Nat.lt_of_succ_lt h.lt) (by omega)).trans h.d⟩
theorem zge {g:Operand} {ps:Array Tmp} {assign body:Code} {Q:Exit→Act→World→Prop} {a:Act} {w:World} (h2:2≤n) {gf:Nat} {lb:Array Value} (hg:a.eval g = .func (.func gf) #[] lb) (eg:∀ args w,(callFunc gf args).run P w = .ok (.enter gf args) w)
  {encs : α → Array Value} {G:Nat→Prop} {N:Nat} {xs:List α} (hseq:GivesQ P gf lb encs G N xs w) (hN:N≤w.heap.size) (hps:∀ x,(encs x).size=ps.size)
  (I:List α → (Nat→Prop)→World→Prop) (Ix:Code→List α → (Nat→Prop)→World→Prop) (hI:∀ s F W W',LullQ w.heap.size F W W'→I s F W→I s F W') (hIx:∀ c s F W W',LullQ w.heap.size F W W'→Ix c s F W→Ix c s F W')
  (hF:∀ s F W,I s F W→∀ k,F k→k<W.heap.size) (F0:Nat→Prop) (hG:∀ k,F0 k→¬ G k) (h0:I [] F0 w)
  (Ax : α → Act→World→Prop) (hAx:∀ x a' W W',Lull w.heap.size W W'→Ax x a' W→Ax x a' W')
  (hassign:∀ (l:Nat) (pre:List α) (x : α) (F:Nat→Prop) (W:World) (K:Act→World→Prop),I pre F W→w.heap.size≤W.heap.size→(∀ a' W',KeepsFrom w.heap.size W W'→KcQ N F F W W'→I pre F W'→Ax x a' W'→K a' W') →
   assign.wpIn (Fence.wide.inRound l) (n - 1 - 1) P (Exit.then K (fun _ _ _=>False)) { tmps:=(ps.zip (encs x)).foldl (fun t (p,v)=>t.setIfInBounds p v) a.tmps,defers:=[] } W)
  (hbody:∀ (l:Nat) (pre:List α) (x : α) (F:Nat→Prop) (a':Act) (W:World),w.heap.size≤W.heap.size→I pre F W→Ax x a' W→pre++[x] <+: xs→body.wpIn (Fence.wide.inRound l) (n - 1 - 1) P (ownPostQ w.heap.size N F I Ix (pre++[x]) W) a' W)
  (hdone:∀ (D:Nat) (F:Nat→Prop) (W:World),w.heap.size≤D→I xs F W→W.heap[D]?=some (.deferred (some []))→Q .normal { a with defers:={ target:=.collected D,args:=#[] } :: a.defers } W)
  (hstop:∀ (D:Nat) (c:Code) (pre:List α) (F:Nat→Prop) (W:World),w.heap.size≤D→pre <+: xs→Ix c pre F W→W.heap[D]?=some (.deferred (some []))→c.wpIn Fence.wide n P Q { a with defers:={ target:=.collected D,args:=#[] } :: a.defers } W) :
  (Code.rangeFunc g ps assign body).wpIn Fence.wide n P Q a w:=by
 refine wpIn_rangeFunc fun fn hfn=>?_
 obtain ⟨d,hd⟩:∃ d,d=w.heap.size:=⟨_,rfl⟩
 obtain ⟨W1,hW1⟩:∃ W1,W1=(w.alloc (.deferred (some []))).alloc (.loop (recOf fn a.tmps ps assign body d .ready none)):=⟨_,rfl⟩
 have hR1:Rec W1 d (recOf fn a.tmps ps assign body d .ready none):=by
  rw [hW1,hd];exact ⟨by have:=heap_alloc_new (w.alloc (.deferred (some []))) (.loop (recOf fn a.tmps ps assign body w.heap.size .ready none));rwa [World.size_alloc] at this,(zu _ _ _ (by simp)).trans (heap_alloc_new w _)⟩
 have hs1:W1.heap.size=d+2:=by rw [hW1,hd];simp
 have hB1:Below w.heap.size w W1:=by rw [hW1];exact za (za (Below.refl _ _) _) _
 have hI1:I [] F0 W1:=by rw [hW1];exact hI _ _ _ _ (Lull.of_grown (World.grownBy_alloc _ _ none) (fun r e=>by cases e)).q (hI _ _ _ _ (Lull.of_grown (World.grownBy_alloc w _ none) (fun r e=>by cases e)).q h0)
 have hrun:(Instr.enterLoop fn a.tmps ps assign body Fence.wide.round).run P w = .ok (d+1,[{ target:=.collected d,args:=#[] }]) W1:=by
  rw [hW1,hd];exact run_enterLoop_outer fn a.tmps ps assign body
 clear hW1;rw [← hd] at hI hIx hAx hassign hbody hdone hstop hN;refine ⟨d+1,[{ target:=.collected d,args:=#[] }],W1,{ target:=.fn (.func gf) lb,args:=#[.func (.yield (d+1)) #[] #[]] },W1,gf,#[.func (.yield (d+1)) #[] #[]]++lb,W1,hrun,?_,?_,?_,fun _=>by omega,?_⟩
 ·simp only [resolve,hg];simp [go_sem]
 ·exact fun f' hf'=>by simp [Target.leads] at hf';subst hf';trivial
 ·simp [invoke,go_sem,eg]
 ·refine (hseq (n - 1) (by omega) (d+1) (fun pre F W=>I pre F W∧Rec W d (recOf fn a.tmps ps assign body d .ready none)) (fun pre F W=>∃ c,Ix c pre F W∧Rec W d (recOf fn a.tmps ps assign body d .done (some c))) W1 hB1
   (fun s F A C hk hs=>by
    rw [hs1] at hk
    exact ⟨hI s F A C (hk.mono (by omega) (fun _ q=>q)) hs.1,hs.2.lull2 hk⟩)
   (fun s F A C hk ⟨c,hs⟩=>by
    rw [hs1] at hk
    exact ⟨c,hIx c s F A C (hk.mono (by omega) (fun _ q=>q)) hs.1,hs.2.lull2 hk⟩) (fun s F A hs=>hF s F A hs.1) (fun m pre x F W hj hlen=>?_) F0 hG ⟨hI1,hR1⟩).mono fun e W2 hp=>?_
  ·obtain ⟨hi,hr⟩:=hj
   rw [hs1];refine zff (m:=n - 1 - 1) ⟨fn,_,assign,body,run_yield (P:=P) (args:=encs x) hr.l (hps x),roundIn_of_wpIn hfn (hassign _ pre x F W _ hi (by have:=hr.lt;omega) fun a' Wa k1 k2 hia hax=>?_)⟩;have hra:=hr.from k1 (Nat.le_refl _);have hrb:=hra.put (recOf fn a.tmps ps assign body d .busy none);have kc:=k2.put (r':=recOf fn a.tmps ps assign body d .busy none) hra hN;have kr:=za7 (A:=d+2) (d:=d) (r':=recOf fn a.tmps ps assign body d .busy none) (zak k1 (A':=d+2) (by omega)) (by omega)
   have fin:∀ {F':Nat→Prop} {W3:World} (r':Loop),KeepsFrom d (Wa.putObj (d+1) (.loop (recOf fn a.tmps ps assign body d .busy none))) W3→KcQ N F F' (Wa.putObj (d+1) (.loop (recOf fn a.tmps ps assign body d .busy none))) W3→KpQ (d+2) N F F' W (W3.putObj (d+1) (.loop r')):=fun r' q1 q2 =>
    ⟨(kc.trans q2).put (hrb.from q1 (Nat.le_refl _)) hN,za7 (A:=d+2) (d:=d) (kr.trans (zak q1 (A':=d+2) (by omega))) (by omega)⟩
   refine ⟨_,run_beginRound hra.l rfl,wpIn_mono (hbody _ pre x F a' _ (by have:=hrb.lt;exact Nat.le_of_lt (Nat.lt_of_succ_lt this)) (hI _ _ _ _ (hra.lull _ (Nat.le_refl _)).q hia) (hAx _ _ _ _ (hra.lull _ (Nat.le_refl _)) hax) hlen) fun e a3 W3 hq=>?_⟩
   cases e with
   | normal =>
    obtain ⟨F',q1,q2,q3⟩:=hq;have h3:=hrb.from q1 (Nat.le_refl _);exact ⟨_,_,run_endRound (P:=P) none h3.l,F',fin _ q1 q2,.inl ⟨rfl,hI _ _ _ _ (h3.lull _ (Nat.le_refl _)).q q3,h3.put _⟩⟩
   | ret =>
    obtain ⟨F',q1,q2,q3⟩:=hq;have h3:=hrb.from q1 (Nat.le_refl _);exact ⟨_,_,run_endRound (P:=P) (some _) h3.l,F',fin _ q1 q2,.inr ⟨rfl,_,hIx _ _ _ _ _ (h3.lull _ (Nat.le_refl _)).q q3,h3.put _⟩⟩
   | exit id =>
    obtain ⟨F',q1,q2,q3⟩:=hq;have h3:=hrb.from q1 (Nat.le_refl _);exact ⟨_,_,run_endRound (P:=P) (some _) h3.l,F',fin _ q1 q2,.inr ⟨rfl,_,hIx _ _ _ _ _ (h3.lull _ (Nat.le_refl _)).q q3,h3.put _⟩⟩
   | goto t =>
    obtain ⟨F',q1,q2,q3⟩:=hq;have h3:=hrb.from q1 (Nat.le_refl _);exact ⟨_,_,run_endRound (P:=P) (some _) h3.l,F',fin _ q1 q2,.inr ⟨rfl,_,hIx _ _ _ _ _ (h3.lull _ (Nat.le_refl _)).q q3,h3.put _⟩⟩
   | panic c=>exact hq.elim
   | outgrown=>exact hq.elim
  ·obtain ⟨⟨v,rfl⟩,F',hp⟩:=hp
   rcases hp with ⟨hi,hr⟩|⟨p,hp,c,hx,hr⟩
   ·exact ⟨none,_,run_endLoop (P:=P) hr.l (by simp [recOf]),hdone d F' _ (Nat.le_refl _) (hI _ _ _ _ (hr.lull _ (Nat.le_refl _)).q hi) (hr.put _).d⟩
   ·exact ⟨some c,_,run_endLoop (P:=P) hr.l (by simp [recOf]),hstop d c p F' _ (Nat.le_refl _) hp (hIx c _ _ _ _ (hr.lull _ (Nat.le_refl _)).q hx) (hr.put _).d⟩
end
end Go.Proofs.YtjcdmjdofdnaoaaGreatDoor
