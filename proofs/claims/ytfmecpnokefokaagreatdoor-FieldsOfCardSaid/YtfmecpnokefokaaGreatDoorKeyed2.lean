/-
  The laws of a keyed region, with the slot that is written given by its number. No program in sight.
-/
import Derived.Test.YtfmecpnokefokaaGreatDoorClass2
import Derived.Test.YtfmecpnokefokaaGreatDoorProg
import Derived.Test.YtfmecpnokefokaaGreatDoorOwn
import Derived.Test.YtfmecpnokefokaaGreatDoorHist
import Derived.Test.YtfmecpnokefokaaGreatDoorBase
import Derived.Deep.RegionHeld
set_option linter.unusedSimpArgs false
set_option linter.unusedVariables false
namespace Go.Proofs.YtfmecpnokefokaaGreatDoor.Cls
open Go.ChangeShapes Go.WideShapes Go.Deep Go.RowKit
set_option maxRecDepth 100000
set_option maxHeartbeats 1000000 in
theorem zoa (s:List UInt8) (at_:Nat) (w:World) (hs:s.length≤1073741824) (ha:at_≤s.length):Calls Tryz.prog 114 #[.string (B s),.int .i64 at_,.func (.func 117) #[] #[]] w fun e w'=>e = .returned (.int .i64 (spanN digitB (s.drop at_)))∧w=w':=by
 have HF:=Lib.hid fun c w=>ziz c w;have a1:=no (show ¬ (at_:Int)<0 by omega);by_cases hal:at_<s.length;rotate_left
 ·have hz:spanN digitB (s.drop at_)=0:=by rw [List.drop_eq_nil_of_le (by omega)];rfl
  have a2:s.length≤at_:=by omega
  have a3:(s.length:Int)≤(at_:Int):=by omega
  rw [hz];clear hz hal;go_enter Tryz.func114,Tryz.ntmps114;go_wp2
  go_step3
  go_wp2;rw [Exit.noGoto_ret];go_ret;exact ⟨rfl,rfl⟩
 have a2:=no (show ¬ s.length≤at_ by omega);go_enter Tryz.func114,Tryz.ntmps114;go_wp2
 go_step3
 go_wp2
 go_step3
 go_wp2
 go_loopw [7] (fun i w'=>∃ k:Nat,at_+k≤s.length∧i = .int .i64 k∧w=w'∧Hid (spanN digitB (s.drop at_)=k+spanN digitB (s.drop (at_+k)))) (fun i _=>s.length - (intOf i).toNat)
 case atStart=>exact ⟨0,by omega,rfl,rfl,by show _=_;rw [Nat.zero_add,Nat.add_zero]⟩
 case round =>
  obtain ⟨k,hk,rfl,rfl,HK⟩:=hrel
  obtain ⟨n,hn⟩:∃ n:Nat,n=at_+k:=⟨_,rfl⟩
  have hn2:(at_:Int)+(k:Int)=(n:Int):=by omega
  have HN:=Lib.hid hn;rw [← hn] at HK;by_cases hlt:n<s.length
  ·have n0:(0:Int)≤(n:Int):=by omega
   have n1:(n:Int)<(s.length:Int):=by omega
   have HFC:=Lib.hid (HF.out s[n]);have HS:=Lib.hid (zco digitB hlt);clear hn hal a1 a2
   cases hf:digitB s[n] with
   | true =>
    rw [hf] at HFC HS;clear hf
    go_wp2_with (go_at_call 117;refine (HFC.out _).mono ?_;rintro e w' ⟨rfl,rfl⟩)
    go_roundw
    case rel=>exact ⟨k+1,by have:=HN.out;omega,by go_num,by trivial,by
     show _=_
     have h1:=HK.out;have h2:=HS.out;rw [if_pos trivial] at h2;rw [h1,h2,show at_+(k+1)=n+1 by have:=HN.out;omega]
     omega⟩
    case measure=>have:=HN.out;simp [intOf];omega
   | false =>
    rw [hf] at HFC HS;clear hf
    go_wp2_with (go_at_call 117;refine (HFC.out _).mono ?_;rintro e w' ⟨rfl,rfl⟩)
    rw [Exit.noGoto_ret];go_ret;refine ⟨?_,rfl⟩;have h2:=HS.out;rw [if_neg (by simp)] at h2;rw [HK.out,h2];rfl
  ·have d0:=no hlt
   have hz:spanN digitB (s.drop n)=0:=by rw [List.drop_eq_nil_of_le (by omega)];rfl
   rw [hz] at HK;clear hz hn hal a1 a2 hlt;go_wp2;rw [Exit.noGoto_ret];go_ret;refine ⟨?_,rfl⟩;rw [HK.out];rfl
theorem zob (s:List UInt8) (at_:Nat) (w:World) (hs:s.length≤1073741824) (ha:at_≤s.length):Calls Tryz.prog 142 #[.string (B s),.int .i64 at_] w fun e w'=>e = .returned (.int .i64 (spanN digitB (s.drop at_)))∧w=w':=by
 have H:=Lib.hid (zoa s at_ w hs ha);generalize spanN digitB (s.drop at_)=n at *;go_enter Tryz.func142,Tryz.ntmps142
 go_wp2_with (go_at_call 114;refine (H.out).mono ?_;rintro e w' ⟨rfl,rfl⟩)
 go_ret;exact ⟨rfl,rfl⟩
def endsB (c:UInt8):Bool:=clsB c == 1 || clsB c == 2 || clsB c == 3
theorem ends_any (c:UInt8) (w:World):Calls Tryz.prog 177 #[.int .u8 c.toNat] w fun e w'=>e = .returned (.bool (endsB c))∧w=w':=by
 have HC:=Lib.hid (of_any c);unfold endsB;generalize clsB c=k at *;go_enter Tryz.func177,Tryz.ntmps177
 go_wp2_with (go_at_call 143;refine (HC.out _).mono ?_;rintro e w' ⟨rfl,rfl⟩)
 all_goals
  go_ret;refine ⟨ret_b ?_,rfl⟩;simp [*]
theorem zgg (c:UInt8) (w:World):Calls Tryz.prog 174 #[.int .u8 c.toNat] w fun e w'=>e = .returned (.bool (endsB c))∧w=w':=by
 have HC:=Lib.hid (zbv c);unfold endsB;generalize clsB c=k at *;go_enter Tryz.func174,Tryz.ntmps174
 go_wp2_with (go_at_call 45;refine (HC.out _).mono ?_;rintro e w' ⟨rfl,rfl⟩)
 all_goals
  go_ret;refine ⟨ret_b ?_,rfl⟩;simp [*]
def resL:List (List UInt8):=[[33],[123],[125],[99,97,115,101],[100,111],[100,111,110,101],[101,108,105,102],[101,108,115,101],[101,115,97,99],[102,105],[102,111,114],[105,102],[105,110],[116,104,101,110],[117,110,116,105,108],[119,104,105,108,101]]
def resB (s:List UInt8):Bool:=resL.contains s
end Go.Proofs.YtfmecpnokefokaaGreatDoor.Cls
namespace Go.Proofs.YtfmecpnokefokaaGreatDoor
open Go.ChangeShapes Go.WideShapes Go.Deep Go.RowKit
def numC (x:Int):List Value:=[.int .i64 x]
theorem zeh {xs:List Int}:∀ x∈xs,(numC x).length=1:=fun _ _=>rfl
theorem zp9 (xs:List Int):(xs.flatMap numC).length=xs.length:=by induction xs <;> simp_all [numC]
theorem zgw {xs:List Int}:∀ u∈xs.flatMap numC,u.oneCell'=true:=by
 intro u hu;simp [numC] at hu;obtain ⟨a,_,rfl⟩:=hu;rfl
theorem zgx:(Tryz.prog.info? 3).map (fun i=>(i.zero,i.size,i.bytes))=some (some (.int .i64 0),1,8):=by kernel_rfl
theorem Sl.old {F:Nat→Prop} {W1 w w':World} {α : Type} {en : α → List Value} {sz:Nat} {v:Value} {xs:List α} (h1:Sl W1 en sz v xs) (h:Sl w en sz v xs) (hk:Keeps F w w') (hF:∀ k,F k→W1.heap.size≤k):Sl w' en sz v xs:=by
 obtain ⟨A,c,rfl,h2,h3,hn,h4⟩:=h;obtain ⟨A',c',e,_,_,_,h4'⟩:=h1;cases e;refine ⟨A,c,rfl,h2,h3,hn,fun h0=>?_⟩;obtain ⟨b,off,rfl,hlt,hc⟩:=h4 h0;obtain ⟨b',off',e,hlt',_⟩:=h4' h0;cases e;have hb:=hk.block b hlt (fun hf=>by have:=hF b hf;omega);exact ⟨b,off,rfl,Nat.lt_of_lt_of_le hlt hk.size,fun k x hx j u hj=>(World.cell?_of_block (w:=w) hb).trans (hc k x hx j u hj)⟩
structure BoxN (w:World) (b:Nat) (cs:List Value):Prop where
 lt:b<w.heap.size
 c:∀ j u,cs[j]?=some u→w.cell? ⟨b,j,none⟩=some u
 f:∀ j,w.frozen? ⟨b,j,none⟩=false
theorem BoxN.new (W:World) (cs:List Value) (t:TypeId):BoxN (W.alloc (.cells cs.toArray t)) W.heap.size cs:=by
 refine ⟨by simp,fun j u h=>?_,fun j=>by simp [go_sem]⟩;have hh:=heap_alloc_new W (.cells cs.toArray t);unfold World.cell?;simp only [hh]
 simpa using h
theorem BoxN.block {w W:World} {b:Nat} {cs:List Value} (h:BoxN w b cs) (e:W.heap[b]?=w.heap[b]?) (hs:w.heap.size≤W.heap.size):BoxN W b cs :=
 ⟨Nat.lt_of_lt_of_le h.lt hs,fun j u hj=>(World.cell?_of_block (w:=w) e).trans (h.c j u hj),fun j=>(World.frozen?_of_block (w:=w) e).trans (h.f j)⟩
theorem BoxN.below {w W:World} {b:Nat} {cs:List Value} (h:BoxN w b cs) (hb:Below w.heap.size w W):BoxN W b cs:=h.block (hb.block b h.lt) hb.size
theorem BoxN.keeps {F:Nat→Prop} {w W:World} {b:Nat} {cs:List Value} (h:BoxN w b cs) (hk:Keeps F w W) (hF:¬ F b):BoxN W b cs:=h.block (hk.block b h.lt hF) hk.size
theorem BoxN.src {w:World} {b m:Nat} {cs:List Value} (h:BoxN w b cs):Src w (.slice (some ⟨b,0,none⟩) m m) m cs :=
 ⟨_,_,rfl,.inr ⟨_,rfl,fun j u hj=>by rw [add_plain,Nat.zero_add];exact h.c j u hj⟩⟩
theorem KeepsFrom.allocN (A:Nat) (W:World) (o:Obj):KeepsFrom A W (W.alloc o):=KeepsFrom.of_keeps (F:=fun _=>False) (Keeps.of_below (za (Below.refl _ _) o)) (fun _ h=>h.elim)
theorem KeepG.of_below {G:Nat→Prop} {W W':World} (hb:Below W.heap.size W W') (hG:∀ k,G k→k<W.heap.size):KeepG G W W':=fun k hk=>hb.block k (hG k hk)
structure BoxOwn (w:World) (b0 B sz:Nat) (v:Value) (n:Nat) (xs:List Value):Prop where
 lt:B<w.heap.size
 c:w.cell? ⟨B,0,none⟩=some v
 f:w.frozen? ⟨B,0,none⟩=false
 own:Own w b0 sz v n xs
 ne:v.ownBlock≠some B
theorem BoxOwn.lull {A:Nat} {w w':World} {b0 B sz n:Nat} {v:Value} {xs:List Value} (h:BoxOwn w b0 B sz v n xs) (hk:Lull A w w'):BoxOwn w' b0 B sz v n xs :=
 ⟨Nat.lt_of_lt_of_le h.lt hk.size,hk.cell h.c,(hk.frozen h.c).trans h.f,h.own.lull hk,h.ne⟩
theorem BoxOwn.below {w w':World} {b0 B sz n:Nat} {v:Value} {xs:List Value} (h:BoxOwn w b0 B sz v n xs) (hb:Below w.heap.size w w'):BoxOwn w' b0 B sz v n xs :=
 ⟨Nat.lt_of_lt_of_le h.lt hb.size,(hb.cell (p:=⟨B,0,none⟩) h.lt).trans h.c,(hb.frozen (p:=⟨B,0,none⟩) h.lt).trans h.f,h.own.below hb,h.ne⟩
theorem BoxOwn.store {w w1:World} {b0 B sz n m:Nat} {v v':Value} {xs ys:List Value} (h:BoxOwn w b0 B sz v n xs) (ho:Own w1 b0 sz v' m ys) (hk:Keeps (fun k=>v.ownBlock=some k∧b0≤k) w w1)
  (hat:v'.ownBlock=v.ownBlock∨∀ k,v'.ownBlock=some k→w.heap.size≤k):BoxOwn (w1.setCell ⟨B,0,none⟩ v') b0 B sz v' m ys∧w1.cell? ⟨B,0,none⟩=some v∧w1.frozen? ⟨B,0,none⟩=false∧Keeps (fun k=>k=B∨(v.ownBlock=some k∧b0≤k)) w (w1.setCell ⟨B,0,none⟩ v'):=by
 have hh:w1.heap[B]?=w.heap[B]?:=hk.block B h.lt (fun e=>h.ne e.1);have hc:w1.cell? ⟨B,0,none⟩=some v:=(World.cell?_of_block (w:=w) hh).trans h.c;have hf:w1.frozen? ⟨B,0,none⟩=false:=(World.frozen?_of_block (w:=w) hh).trans h.f
 have hne:v'.ownBlock≠some B:=by
  rcases hat with e|e
  ·rw [e];exact h.ne
  ·intro e2
   have:=e B e2;have:=h.lt;omega
 have hs:Keeps (fun k=>k=B) w1 (w1.setCell ⟨B,0,none⟩ v'):=Keeps.setCell (F:=fun k=>k=B) w1 (a:=⟨B,0,none⟩) rfl _;refine ⟨⟨Nat.lt_of_lt_of_le (Nat.lt_of_lt_of_le h.lt hk.size) hs.size,World.cell?_setCell_same' _ _ _ (by rw [hc];rfl),by rw [World.frozen?_setCell];exact hf,ho.keeps hs (fun k hk _ e=>hne (by rw [← e];exact hk)),hne⟩,hc,hf,?_⟩;exact (hk.mono fun k _ e=>.inr e).trans (hs.mono fun k _ e=>.inl e)
theorem BoxOwn.round {w W w1:World} {o:Obj} {A b0 B sz n m:Nat} {v v':Value} {xs ys:List Value} {G:Nat→Prop} (h:BoxOwn W b0 B sz v n xs) (hsz:0<sz) (hv:n=0→v = .slice none 0 0) (hb:Below b0 w W) (hw:b0≤w.heap.size) (hB:b0≤B) (hA:B<A) (hG:∀ k,G k→k<b0)
  (ho:Own w1 b0 sz v' m ys) (hk:Keeps (fun k=>v.ownBlock=some k∧b0≤k) (W.alloc o) w1) (hat:v'.ownBlock=v.ownBlock∨∀ k,v'.ownBlock=some k→(W.alloc o).heap.size≤k) :
  KeepsFrom A W (w1.setCell ⟨B,0,none⟩ v')∧KeepG G W (w1.setCell ⟨B,0,none⟩ v')∧BoxOwn (w1.setCell ⟨B,0,none⟩ v') b0 B sz v' m ys∧Below b0 w (w1.setCell ⟨B,0,none⟩ v')∧w1.cell? ⟨B,0,none⟩=some v∧w1.frozen? ⟨B,0,none⟩=false:=by
 have hal:Below W.heap.size W (W.alloc o):=za (Below.refl _ _) o;obtain ⟨h1,h2,h3,h4⟩:=(h.below hal).store ho hk hat;have hK:=(Keeps.of_below (F:=fun k=>k=B∨(v.ownBlock=some k∧b0≤k)) hal).trans h4;have hs:=hb.size;refine ⟨KeepsFrom.of_keeps hK fun k hF hlt hAk=>?_,KeepG.of_keeps hK (fun k hk=>?_) (fun k hk hF=>?_),h1,hb.trans (hK.below (by omega) fun k hF=>?_),h2,h3⟩
 ·rcases hF with e|⟨e,_⟩
  ·omega
  ·rcases Nat.eq_zero_or_pos n with hn|hn
   ·rw [hv hn] at e;cases e
   ·exact h.own.isCells hn hsz e
 ·have:=hG k hk;omega
 ·have:=hG k hk
  rcases hF with e|e
  ·omega
  ·omega
 ·rcases hF with e|e
  ·omega
  ·exact e.2
def Seat (W:World) (A:Nat) (v:Value):Prop:=∀ k,v.ownBlock=some k→A≤k∧∃ o,W.heap[k]?=some o∧o.isCells=true
theorem Seat.nil (W:World) (A:Nat):Seat W A (.slice none 0 0):=fun k h=>by cases h
theorem Seat.lull {B A:Nat} {W W':World} {v:Value} (h:Seat W A v) (hL:Lull B W W'):Seat W' A v:=fun k hk=>by
 obtain ⟨h1,o,h2,h3⟩:=h k hk;exact ⟨h1,o,hL.cells k o h2 h3,h3⟩
theorem Seat.keeps {F:Nat→Prop} {A:Nat} {W W':World} {v:Value} (h:Seat W A v) (hk:Keeps F W W') (hF:∀ k,F k→k<A):Seat W' A v:=fun k hkv=>by
 obtain ⟨h1,o,h2,h3⟩:=h k hkv;exact ⟨h1,o,(hk.block k (Array.getElem?_eq_some_iff.1 h2).1 (fun hf=>by have:=hF k hf;omega)).trans h2,h3⟩
theorem Seat.below {A:Nat} {W W':World} {v:Value} (h:Seat W A v) (hb:Below W.heap.size W W'):Seat W' A v:=h.keeps (F:=fun _=>False) (Keeps.of_below hb) (fun _ h=>h.elim)
open Go.ChangeShapes Go.WideShapes Go.RowKit
section
variable {P : Program} {ops : Array Oper} {Q : Exit → Act → World → Prop} {md : Region.Mode} {S : World → Prop} {K : List Nat}
def unl (K:List Nat) (listed:Array Bool):Bool:=K.all fun k => !listed.getD k false
theorem unl_spec {K:List Nat} {listed:Array Bool}:unl K listed=true ↔ ∀ k∈K,listed.getD k false=false:=by simp [unl]
theorem zm7 {K:List Nat} {listed:Array Bool} {i:Nat} (h:unl K (listed.setIfInBounds i true)=true):unl K listed=true:=by
 rw [unl_spec] at *;intro k hk;have:=h k hk
 cases hl:listed.getD k false with
 | false=>rfl
 | true=>rw [getD_set_true hl] at this;cases this
theorem zm8 {K:List Nat} {listed:Array Bool} {i:Nat} (h:unl K listed=true) (hi:i ∉ K):unl K (listed.setIfInBounds i true)=true:=by
 rw [unl_spec] at *;intro k hk;rw [getD_set_ne false (fun e=>hi (by rw [e];exact hk))];exact h k hk
def wpAnyK (P:Program) (md:Region.Mode) (ops:Array Oper) (Q:Exit→Act→World→Prop) (S:World→Prop) (K:List Nat):Nat→Array Bool→Act→World→Prop
 | 0,listed,a,w=>Region.ready md ops listed=[]∧Q .normal a w
 | fuel+1,listed,a,w =>
  (Region.ready md ops listed=[]→Q .normal a w) ∧
  ∀ i∈Region.ready md ops listed,wpOp P ops Q i (fun a' w'=>(unl K (listed.setIfInBounds i true)=true→S w')∧wpAnyK P md ops Q S K fuel (listed.setIfInBounds i true) a' w') a w
theorem zd4:∀ (fuel:Nat) (listed:Array Bool) (a:Act) (w:World),wpAnyK P md ops Q S K fuel listed a w→wpAny P md ops Q fuel listed a w
 | 0,_,_,_,h=>h
 | fuel+1,_,_,_,h=>⟨h.1,fun i hi=>wpOp_mono (fun a' w' h'=>zd4 fuel _ a' w' h'.2) (h.2 i hi)⟩
def waits (md:Region.Mode) (ops:Array Oper) (i:Nat) (Bs:List Nat):Bool :=
 Bs.all fun j=>match ops[j]? with
  | some oj=>oj.after.any fun e=>Region.binds md e && (e.on == i || Bs.contains e.on)
  | none=>false
theorem zfk {i:Nat} {oi:Oper} {v:Value} {T:World→Prop} {Bs:List Nat} (hi:ops[i]?=some oi) (hsel:∀ (j:Nat) (o:Oper) cs b,ops[j]?=some o→o.op≠.select cs b)
  (hQ:∀ c a w,Q (.panic c) (a.put oi.dst v) w→Q (.panic c) a w) (hiK:i ∉ K) (hiB:i ∉ Bs) (hBs:waits md ops i Bs=true) (hT:(∀ w,T w)∨((∀ w,S w→T w)∧∀ k∈K,k∈Bs)) :
  ∀ (fuel:Nat) (listed:Array Bool) (a:Act) (w:World),
   (∀ j oj,ops[j]?=some oj→j≠i→listed.getD j true=false→(∀ e∈oj.after,Region.binds md e=true→e.on≠i)→oi.apart ops oj=true) →
   i∈Region.ready md ops listed→unl Bs listed=true→YieldsIf P ops T oi v a→(unl K listed=true→S w) →
   wpAnyK P md ops Q S K fuel (listed.setIfInBounds i true) (a.put oi.dst v) w→wpAnyK P md ops Q S K (fuel+1) listed a w:=by
 intro fuel
 have hunl:∀ (listed:Array Bool) (w':World),unl Bs listed=true→(unl K listed=true→S w')→T w':=fun listed w' hB hS=>by
  rcases hT with h|⟨h,hK⟩
  ·exact h w'
  ·exact h w' (hS (unl_spec.2 fun k hk=>unl_spec.1 hB k (hK k hk)))
 induction fuel with
 | zero =>
  intro listed a w _ hr hu hy hS H;refine ⟨fun h=>(by rw [h] at hr;cases hr),fun j hj=>?_⟩;by_cases hji:j=i
  ·subst hji
   exact hy.wpOp hi (hunl _ _ hu hS) ⟨fun h=>hS (zm7 h),H⟩
  ·have:=ready_mono hj hji
   rw [H.1] at this;cases this
 | succ fuel ih =>
  intro listed a w hfree hr hu hy hS H;refine ⟨fun h=>(by rw [h] at hr;cases hr),fun j hj=>?_⟩;by_cases hji:j=i
  ·subst hji
   exact hy.wpOp hi (hunl _ _ hu hS) ⟨fun h=>hS (zm7 h),H⟩
  ·have h1:=H.2 j (ready_mono hj hji)
   obtain ⟨hjun,oj,hoj,hall⟩:=mem_ready.1 hj
   have hiun:listed.getD i false=false:=by
    have h0:=(mem_ready.1 hr).1;rcases Nat.lt_or_ge i listed.size with h'|h'
    ·simp [h'] at h0 ⊢;exact h0
    ·simp [Array.getElem?_eq_none h']
   have hnot:∀ e∈oj.after,Region.binds md e=true→e.on≠i:=fun e he hb heq=>by
    have h1:=hall e he hb;rw [heq,hiun] at h1;cases h1
   have hjB:j ∉ Bs:=fun hjb=>by
    have h2:=List.all_eq_true.1 hBs j hjb;simp only [hoj] at h2;obtain ⟨e,he,hb⟩:=Array.any_eq_true'.1 h2;simp only [Bool.and_eq_true,Bool.or_eq_true,beq_iff_eq,List.contains_iff_mem] at hb;have h3:=hall e he hb.1;rcases hb.2 with h4|h4
    ·exact hnot e he hb.1 h4
    ·rw [unl_spec.1 hu _ h4] at h3;cases h3
   have h2:=wpOp_putIf hoj (hfree j oj hoj hji hjun hnot) (fun cs b=>hsel i oi cs b hi) (fun cs b=>hsel j oj cs b hoj) hQ hy h1
   have hfree':∀ k ok,ops[k]?=some ok→k≠i→(listed.setIfInBounds j true).getD k true=false →
     (∀ e∈ok.after,Region.binds md e=true→e.on≠i)→oi.apart ops ok=true:=fun k ok hk hki hun hno=>by
    refine hfree k ok hk hki ?_ hno;by_cases hjk:j=k
    ·subst hjk;exact hjun
    ·rw [getD_set_ne true hjk] at hun;exact hun
   refine wpOp_mono (fun a' w' h3=>?_) h2
   have hS':unl K (listed.setIfInBounds j true)=true→S w':=fun h=>h3.2.1 (by
    rw [Array.setIfInBounds_comm _ _ (Ne.symm hji)]
    exact zm8 h hiK)
   refine ⟨hS',ih (listed.setIfInBounds j true) a' w' hfree' (ready_mono hr (Ne.symm hji)) (zm8 hu hjB) h3.1 hS' ?_⟩;rw [Array.setIfInBounds_comm _ _ hji];exact h3.2.2
theorem zgh {i:Nat} {oi:Oper} {v:Value} {fuel:Nat} {listed:Array Bool} {a:Act} {w:World} (hi:ops[i]?=some oi)
  (hs:Region.noSelect ops=true) (hf:Region.free md ops listed i=true) (hr:(Region.ready md ops listed).contains i=true) (hiK:K.contains i=false)
  (hQ:∀ c a w,Q (.panic c) (a.put oi.dst v) w→Q (.panic c) a w) (hy:YieldsIf P ops (fun _=>True) oi v a) (hS:unl K listed=true→S w)
  (h:wpAnyK P md ops Q S K fuel (listed.setIfInBounds i true) (a.put oi.dst v) w):wpAnyK P md ops Q S K (fuel+1) listed a w :=
 zfk (T:=fun _=>True) (Bs:=[]) hi (Region.noSelect_spec hs) hQ (by simpa using hiK) (by simp) rfl (.inl fun _=>trivial) fuel listed a w (Region.free_spec hi hf) (by simpa using hr) rfl hy hS h
theorem zai {i:Nat} (Bs:List Nat) {oi:Oper} {v:Value} {fuel:Nat} {listed:Array Bool} {a:Act} {w:World} (hi:ops[i]?=some oi)
  (hs:Region.noSelect ops=true) (hf:Region.free md ops listed i=true) (hr:(Region.ready md ops listed).contains i=true) (hB:(waits md ops i Bs && !Bs.contains i && K.all fun k=>Bs.contains k)=true) (hu:unl Bs listed=true)
  (hQ:∀ c a w,Q (.panic c) (a.put oi.dst v) w→Q (.panic c) a w) (hy:YieldsIf P ops S oi v a) (hS:unl K listed=true→S w)
  (h:wpAnyK P md ops Q S K fuel (listed.setIfInBounds i true) (a.put oi.dst v) w):wpAnyK P md ops Q S K (fuel+1) listed a w:=by
 simp only [Bool.and_eq_true,Bool.not_eq_true',List.all_eq_true] at hB;have hiB:i ∉ Bs:=by simpa using hB.1.2
 have hK:∀ k∈K,k∈Bs:=fun k hk=>by simpa using hB.2 k hk
 exact zfk (T:=S) (Bs:=Bs) hi (Region.noSelect_spec hs) hQ (fun hk=>hiB (hK i hk)) hiB hB.1.1 (.inr ⟨fun _ h=>h,hK⟩) fuel listed a w (Region.free_spec hi hf) (by simpa using hr) hu hy hS h
def AllReadyK (P:Program) (md:Region.Mode) (ops:Array Oper) (Q:Exit→Act→World→Prop) (S:World→Prop) (K:List Nat) (fuel:Nat) (listed:Array Bool) (a:Act) (w:World) (rs:List Nat):Prop :=
 ∀ i∈rs,wpOp P ops Q i (fun a' w'=>(unl K (listed.setIfInBounds i true)=true→S w')∧wpAnyK P md ops Q S K fuel (listed.setIfInBounds i true) a' w') a w
theorem AllReadyK.nil {fuel:Nat} {listed:Array Bool} {a:Act} {w:World}:AllReadyK P md ops Q S K fuel listed a w []:=fun _ h=>by cases h
theorem AllReadyK.cons {fuel:Nat} {listed:Array Bool} {a:Act} {w:World} {i:Nat} {o:Oper} {tl:List Oper} {rs:List Nat} (ho:ops.toList.drop i=o :: tl)
  (h:∀ K':Act→World→Prop,Shut (∀ a w,(unl K (listed.setIfInBounds i true)=true→S w)→wpAnyK P md ops Q S K fuel (listed.setIfInBounds i true) a w→K' a w)→if Region.wanted o (yielded ops a.tmps)=true then Oper.wp P o a w K' Q else K' (a.put o.dst undef) w)
  (hs:AllReadyK P md ops Q S K fuel listed a w rs):AllReadyK P md ops Q S K fuel listed a w (i :: rs):=fun j hj=>by
 rcases List.mem_cons.1 hj with rfl|hj
 ·have ho':ops[j]?=some o:=by
   rw [← Array.getElem?_toList,← List.head?_drop,ho];rfl
  exact wpOp_step ho' (fun K' hK=>h K' (fun a w hS hW=>hK a w ⟨hS,hW⟩))
 ·exact hs j hj
theorem zc {rs:List Nat} {fuel:Nat} {listed:Array Bool} {a:Act} {w:World} (hr:Region.ready md ops listed=rs) (hne:rs≠[])
  (h:AllReadyK P md ops Q S K fuel listed a w rs):wpAnyK P md ops Q S K (fuel+1) listed a w:=⟨fun h0=>absurd (hr ▸ h0) hne,hr ▸ h⟩
theorem zu {listed:Array Bool} {a:Act} {w:World} (hr:Region.ready md ops listed=[]) (h:Q .normal a w) :
  ∀ fuel,wpAnyK P md ops Q S K fuel listed a w
 | 0=>⟨hr,h⟩
 | _+1=>⟨fun _=>h,by rw [hr];simp⟩
theorem zw (S:World→Prop) (K:List Nat) {id:Nat} {a:Act} {w:World} (hm:P.follows .mixedOrders=true) (h:wpAnyK P .any ops Q S K ops.size (Array.replicate ops.size false) a w.drew):(Code.region id ops true).wp P Q a w :=
 wp_region_any hm (zd4 _ _ _ _ h)
end
section
variable {P : Program} {ops : Array Oper} {Q : Exit → Act → World → Prop} {md : Region.Mode} {S : World → Prop} {K : List Nat}
theorem zk0 {i:Nat} (d:Option Nat) {oi:Oper} {v:Value} {fuel:Nat} {listed:Array Bool} {a:Act} {w:World} (hi:ops[i]?=some oi) (hd:oi.dst=d)
  (hs:Region.noSelect ops=true) (hf:Region.free md ops listed i=true) (hr:(Region.ready md ops listed).contains i=true) (hiK:K.contains i=false)
  (hQ:∀ c a w,Q (.panic c) (a.put oi.dst v) w→Q (.panic c) a w) (hy:YieldsIf P ops (fun _=>True) oi v a) (hS:unl K listed=true→S w)
  (h:wpAnyK P md ops Q S K fuel (listed.setIfInBounds i true) (a.put d v) w):wpAnyK P md ops Q S K (fuel+1) listed a w:=by
 subst hd;exact zgh hi hs hf hr hiK hQ hy hS h
theorem zn {i:Nat} (Bs:List Nat) (d:Option Nat) {oi:Oper} {v:Value} {fuel:Nat} {listed:Array Bool} {a:Act} {w:World} (hi:ops[i]?=some oi) (hd:oi.dst=d)
  (hs:Region.noSelect ops=true) (hf:Region.free md ops listed i=true) (hr:(Region.ready md ops listed).contains i=true) (hB:(waits md ops i Bs && !Bs.contains i && K.all fun k=>Bs.contains k)=true) (hu:unl Bs listed=true)
  (hQ:∀ c a w,Q (.panic c) (a.put oi.dst v) w→Q (.panic c) a w) (hy:YieldsIf P ops S oi v a) (hS:unl K listed=true→S w)
  (h:wpAnyK P md ops Q S K fuel (listed.setIfInBounds i true) (a.put d v) w):wpAnyK P md ops Q S K (fuel+1) listed a w:=by
 subst hd;exact zai Bs hi hs hf hr hB hu hQ hy hS h
theorem zzk {i:Nat} (d:Option Nat) {oi:Oper} {v:Value} {fuel:Nat} {listed:Array Bool} {a:Act} {w:World} (hi:ops[i]? = some oi) (hd:oi.dst=d) (hS:unl K listed=true→S w) (h:wpAnyK P md ops Q S K fuel (listed.setIfInBounds i true) (a.put d v) w) (hs:Region.noSelect ops=true:=by kernel_rfl) (hf:Region.free md ops listed i=true:=by kernel_rfl) (hr:(Region.ready md ops listed).contains i=true:=by kernel_rfl) (hiK:K.contains i=false:=by kernel_rfl) (hQ:∀ c a w,Q (.panic c) (a.put oi.dst v) w→Q (.panic c) a w:=by exact fun _ _ _ h=>h) (hy:YieldsIf P ops (fun _=>True) oi v a:=by (refine Or.inl ⟨by rfl,?_⟩;intro w hSw;go_simp;try with_reducible rfl)):wpAnyK P md ops Q S K (fuel+1) listed a w:=zk0 d hi hd hs hf hr hiK hQ hy hS h
theorem zzl {i:Nat} {oi:Oper} {v:Value} {fuel:Nat} {listed:Array Bool} {a:Act} {w:World} (hi:ops[i]? = some oi) (hS:unl K listed=true→S w) (h:wpAnyK P md ops Q S K fuel (listed.setIfInBounds i true) (a.put oi.dst v) w) (hs:Region.noSelect ops=true:=by kernel_rfl) (hf:Region.free md ops listed i=true:=by kernel_rfl) (hr:(Region.ready md ops listed).contains i=true:=by kernel_rfl) (hiK:K.contains i=false:=by kernel_rfl) (hQ:∀ c a w,Q (.panic c) (a.put oi.dst v) w→Q (.panic c) a w:=by exact fun _ _ _ h=>h) (hy:YieldsIf P ops (fun _=>True) oi v a:=by (refine Or.inl ⟨by rfl,?_⟩;intro w hSw;go_simp;try with_reducible rfl)):wpAnyK P md ops Q S K (fuel+1) listed a w:=zgh hi hs hf hr hiK hQ hy hS h
end
end Go.Proofs.YtfmecpnokefokaaGreatDoor
