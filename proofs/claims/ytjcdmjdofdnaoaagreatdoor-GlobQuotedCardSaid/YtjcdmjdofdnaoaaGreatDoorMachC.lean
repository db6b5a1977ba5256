/-
  The walks of the program's modes (layer 6), on: a word's end; what shuts all that is open. Conditions: texts of at most 2^29 bytes.
-/
import Derived.Test.YtjcdmjdofdnaoaaGreatDoorOwn
import Derived.Test.YtjcdmjdofdnaoaaGreatDoorProg
import Derived.Lib.AppendStr
import Derived.Lib.SlBytesRow
import Derived.Lib.BufferRead
import Derived.Test.YtjcdmjdofdnaoaaGreatDoorMachA
import Derived.Test.YtjcdmjdofdnaoaaGreatDoorModA
import Derived.Test.YtjcdmjdofdnaoaaGreatDoorShaped
import Derived.OrdersIn
import Derived.Test.YtjcdmjdofdnaoaaGreatDoorHist
set_option linter.unusedSimpArgs false
set_option linter.unusedVariables false
namespace Go.Proofs.YtjcdmjdofdnaoaaGreatDoor
open Go.ChangeShapes Go.WideShapes Go.Deep Go.RowKit
theorem _root_.Go.Proofs.YtjcdmjdofdnaoaaGreatDoor.j7fb {p:Prop} (h:p):Go.RowKit.Hid p:=Go.Lib.hid h
def byC (x:UInt8):List Value:=[.int .u8 x.toNat]
theorem ze6 (xs:List UInt8):xs.flatMap byC=xs.map fun y=>Value.int .u8 y.toNat:=by
 induction xs with
 | nil=>rfl
 | cons y ys ih=>rw [List.flatMap_cons,ih];rfl
theorem byC_flat (xs:List UInt8):(xs.flatMap byC).length=xs.length:=by rw [ze6,List.length_map]
theorem byC_get (xs:List UInt8) (j:Nat):(xs.flatMap byC)[j]?=(xs[j]?).map fun y=>Value.int .u8 y.toNat:=by rw [ze6,List.getElem?_map]
theorem zlp (s:List UInt8):Lib.strCells (B s)=s.flatMap byC:=by rw [ze6];rfl
theorem zcx (s:List UInt8):Lib.byteCells s=s.flatMap byC:=by rw [ze6];rfl
section
variable {P : Program} (w : World)
theorem zdd (b0 t u ty e:Nat) (i:TypeInfo) (ht:P.underlying t=some (.slice e)) (hu:P.underlying u=some .string) (hi:P.info? e=some i) (hz:i.zero=some (.int .u8 0))
  (hsize:i.size=1) (hby:i.bytes=1) (v:Value) (n:Nat) (xs:List UInt8) (hown:Own w b0 1 v n (xs.flatMap byC)) (s:List UInt8)
  (h63:n+s.length≤70368744177664) (hb:b0≤w.heap.size) :
  ∃ v' w',(Builtin.append_ #[t,u] ty #[v,.string (B s)]).run P w = .ok v' w'∧Own w' b0 1 v' (n+s.length) ((xs++s).flatMap byC)∧Keeps (fun k=>v.ownBlock=some k∧b0≤k) w w' ∧
   (v'.ownBlock=v.ownBlock∨∀ k,v'.ownBlock=some k→w.heap.size≤k)∧(∀ k,v'.ownBlock=some k→w.heap.size≤k→tyOf w' k=some e):=by
 rw [List.flatMap_append,← zlp s];have hsz:(B s).size=s.length:=B_size s;have hxl:(xs.flatMap byC).length=n:=by have:=hown.1;omega
 have grown:∀ (old:Nat),old<n+s.length →
   let w':=w.drew.alloc (.cells ((xs.flatMap byC).toArray++(Lib.strCells (B s)).toArray++Builtin.zeroCells (Value.int .u8 0).cells (grownCap w (n+s.length) old e - (n+s.length))) e)
   let v':=Value.slice (some ⟨w.heap.size,0,none⟩) (n+s.length) (grownCap w (n+s.length) old e)
   Own w' b0 1 v' (n+s.length) (xs.flatMap byC++Lib.strCells (B s))∧Keeps (fun k=>v.ownBlock=some k∧b0≤k) w w'∧(∀ k,v'.ownBlock=some k→w.heap.size≤k)∧(∀ k,v'.ownBlock=some k→w.heap.size≤k→tyOf w' k=some e):=by
  intro old ho w' v';have hge:=grownCap_ge w (n+s.length) old e;have hcm:grownCap w (n+s.length) old e≤maxLen:=grownCap_le_maxLen w (n+s.length) old e (by unfold maxLen;omega);have hlen:(xs.flatMap byC++Lib.strCells (B s)).length=(n+s.length)*1:=by rw [List.length_append,hxl,Lib.strCells_length,hsz,Nat.mul_one]
  have hrow:w'.ownsRow b0 e 1 v' (n+s.length) (xs.flatMap byC++Lib.strCells (B s)):=by
   refine ⟨hlen,.inr ⟨w.heap.size,_,_,rfl,hb,heap_alloc_new w.drew _,hge,hcm,?_,?_⟩⟩
   ·have hz1:(Value.int IntKind.u8 0).cells.size=1:=rfl
    simp only [Array.size_append,List.size_toArray,size_zeroCells,hz1,hxl,Lib.strCells_length,hsz];omega
   ·simp only [Array.toList_append,List.append_assoc]
    rw [← List.append_assoc,← hlen];exact List.take_left
  refine ⟨Own.of_row hrow (Nat.le_refl _),Keeps.of_below (za (zg (Below.refl _ _)) _),?_,?_⟩
  ·intro k hk
   simp [v',Value.ownBlock] at hk;omega
  ·intro k hk _
   exact zdy hrow hk
 rcases hown.2 with ⟨h0,hv⟩|⟨g,off,c',hv,g1,g2,g3,g4,g5,g6⟩
 ·subst h0
  obtain rfl:xs=[]:=by
   have:=hxl;rw [byC_flat] at this;exact List.eq_nil_of_length_eq_zero this
  rcases Nat.eq_zero_or_pos s.length with hs|hs
  ·obtain rfl:=List.eq_nil_of_length_eq_zero hs
   have hf:=Lib.run_firstCells_string (P:=P) w 1 (B []);have hb0:(B []).size=0:=B_size [];rw [hb0] at hf;have hcs:Lib.strCells (B [])=[]:=rfl;rw [hcs] at hf;have hf':(Builtin.firstCells 1 0 (.string (B []))).run P w = .ok #[] w:=by simpa using hf
   rcases hv with rfl|⟨g,off,rfl,hg⟩
   ·refine ⟨.slice none 0 0,w,?_,Own.nil _ _ _,Keeps.refl _ _,.inl rfl,fun k hk=>by simp [Value.ownBlock] at hk⟩
    simp [Builtin.append_,run_underlying ht,run_underlying hu,sizeOf,typeInfo,hi,hsize,Builtin.lenOf,hb0,hf']
   ·refine ⟨.slice (some ⟨g,off,none⟩) 0 0,w,?_,Own.none_ _ _ _ _ _ hg,Keeps.refl _ _,.inl rfl,fun k hk h=>by simp [Value.ownBlock] at hk;omega⟩
    simp [Builtin.append_,run_underlying ht,run_underlying hu,sizeOf,typeInfo,hi,hsize,Builtin.lenOf,hb0,hf',storeCells]
  ·obtain ⟨q1,q2,q3,q4⟩:=grown 0 (by omega)
   rcases hv with rfl|⟨g,off,rfl,hg⟩
   ·have hr:=run_append_nil_string (P:=P) w t u ty e i (.int .u8 0) ht hu hi hz (B s) (by rw [hsz];omega) (by rw [hsz];omega) (by rw [hby,hsz];omega)
    have e1:((B s).data.map fun b=>Value.int .u8 b.toNat)=(Lib.strCells (B s)).toArray:=by
     apply Array.ext';simp [Lib.strCells]
    rw [e1,hsz] at hr;simp only [Nat.zero_add,List.flatMap_nil,List.nil_append] at q1 q2 q3 q4 ⊢;have e2:(([]:List Value).toArray++(Lib.strCells (B s)).toArray)=(Lib.strCells (B s)).toArray:=by simp
    rw [e2] at q1 q2 q4;exact ⟨_,_,hr,q1,q2,.inr q3,q4⟩
   ·have hr:=Lib.run_append_grow_string (P:=P) w t u ty e i (.int .u8 0) ht hu hi hz ⟨g,off,none⟩ 0 0 [] (by simp) (by simp) (B s) (by rw [hsz];omega) (by rw [hsz];omega) (by rw [hby,hsz];exact growslice_fits (by omega) (by omega))
    rw [hsz] at hr;exact ⟨_,_,hr,q1,q2,.inr q3,q4⟩
 ·subst hv
  by_cases hroom:n+s.length≤c'
  ·have hnl:(Lib.strCells (B s)).length=s.length:=by rw [Lib.strCells_length,hsz]
   have hsome:∀ j,j<(Lib.strCells (B s)).length→(w.cell? ⟨g,off+n*1+j,none⟩).isSome=true:=fun j hj=>by
    have:=(g5 (n+j) (by omega)).1
    rwa [show off+(n+j)=off+n*1+j by omega] at this
   have hfro:∀ j,j<(Lib.strCells (B s)).length→w.frozen? ⟨g,off+n*1+j,none⟩=false:=fun j hj=>by
    have:=(g5 (n+j) (by omega)).2
    rwa [show off+(n+j)=off+n*1+j by omega] at this
   have hfc:=Lib.run_firstCells_string (P:=P) w 1 (B s);have hst:=run_storeCells_cells (P:=P) g (off+n*1) (Lib.strCells (B s)) 0 w (by simpa using hsome) (by simpa using hfro) (Lib.strCells_oneCell _);simp only [Nat.add_zero] at hst;have hroom':n+(B s).size≤c':=by rw [hsz];exact hroom
   have hr:(Builtin.append_ #[t,u] ty #[.slice (some ⟨g,off,none⟩) n c',.string (B s)]).run P w = .ok (.slice (some ⟨g,off,none⟩) (n+s.length) c') (w.setCells g (off+n*1) (Lib.strCells (B s))):=by
    rw [← hsz];simp [Builtin.append_,run_underlying ht,run_underlying hu,sizeOf,typeInfo,hi,hsize,Builtin.lenOf,hroom',hfc,Addr.add_lit];simp [Nat.mul_one] at hst;simp [hst]
   have hsz':(w.setCells g (off+n*1) (Lib.strCells (B s))).heap.size=w.heap.size:=World.size_setCells _ _ _ _;refine ⟨_,_,hr,⟨by rw [List.length_append,hxl,hnl];omega,.inr ⟨g,off,c',rfl,g1,by rw [hsz'];exact g2,hroom,g4,fun j hj=>⟨?_,?_⟩,fun j u hj=>?_⟩⟩,?_,.inl rfl,fun k hk h=>by simp [Value.ownBlock] at hk;omega⟩
   ·exact World.isSome_setCells g _ _ w _ (g5 j hj).1
   ·rw [World.frozen?_setCells];exact (g5 j hj).2
   ·by_cases hjx:j<(xs.flatMap byC).length
    ·rw [List.getElem?_append_left hjx] at hj
     rw [World.cell?_setCells_out g _ _ w _ (fun _ _=>.inl (by dsimp only;omega))];exact g6 j u hj
    ·rw [List.getElem?_append_right (by omega)] at hj
     have hjl:=(List.getElem?_eq_some_iff.1 hj).1;have:=World.cell?_setCells_in g (Lib.strCells (B s)) (off+n*1) w hsome (j - (xs.flatMap byC).length) hjl;rw [show off+n*1+(j - (xs.flatMap byC).length)=off+j by omega] at this;rw [this,← hj];simp [List.getElem?_eq_getElem hjl]
   ·refine ⟨World.os_setCells w g _ _,?_,World.output_setCells w g _ _,by rw [hsz'];exact Nat.le_refl _,fun k hk hne=>World.heap_setCells_other w g _ _ hk (fun e=>hne ⟨by rw [e];rfl,by omega⟩),fun k _=>zea w g _ _ k⟩
    exact World.tape_setCells w g _ _
  ·obtain ⟨q1,q2,q3,q4⟩:=grown c' (by omega)
   have hr:=Lib.run_append_grow_string (P:=P) w t u ty e i (.int .u8 0) ht hu hi hz ⟨g,off,none⟩ n c' (xs.flatMap byC) (by rw [hsize];omega) (fun j u hj=>by rw [add_plain];exact g6 j u hj) (B s) (by rw [hsz];omega) (by rw [hsz];omega) (by rw [hby,hsz];exact growslice_fits (by omega) (by omega));rw [hsz] at hr;exact ⟨_,_,hr,q1,q2,.inr q3,q4⟩
end
theorem zde {w:World} {b0 n:Nat} {v:Value} {l:List UInt8} (h:Own w b0 1 v n (l.flatMap byC)) (hn:n=l.length):(convert 97 9 v).run Tryz.prog w = .ok (.string (B l)) w:=by
 subst hn;rcases h.2 with ⟨h0,rfl|⟨g,off,rfl,hg⟩⟩|⟨g,off,c,rfl,h1,h2,h3,h4,h5,h6⟩
 ·have:l=[]:=List.eq_nil_of_length_eq_zero h0
  subst this;exact Lib.run_convert_nil_bytes w _ _ _ _ Tryz.underlying97 Tryz.underlying5 Tryz.underlying9
 ·have:l=[]:=List.eq_nil_of_length_eq_zero h0
  subst this;have:=Lib.run_convert_whole (P:=Tryz.prog) w _ _ _ Tryz.underlying97 Tryz.underlying5 Tryz.underlying9 g off (B []) (fun i hi=>by rw [B_size] at hi;simp at hi) 0;rw [B_size] at this;exact this
 ·have:=Lib.run_convert_whole (P:=Tryz.prog) w _ _ _ Tryz.underlying97 Tryz.underlying5 Tryz.underlying9 g off (B l) (fun i hi=>by
   rw [B_size] at hi;refine h6 i _ ?_;rw [byC_get,List.getElem?_eq_getElem hi]
   rfl) c
  rwa [B_size] at this
theorem zdf:(Tryz.prog.info? 5).map (fun i=>(i.zero,i.size,i.bytes))=some (some (.int .u8 0),1,1):=by kernel_rfl
end Go.Proofs.YtjcdmjdofdnaoaaGreatDoor
namespace Go.Proofs.YtjcdmjdofdnaoaaGreatDoor.Mc
open Go.ChangeShapes Go.WideShapes Go.Deep Go.RowKit Cls Md
set_option maxRecDepth 100000
structure RunM (w:World) (mb:Nat) (W:World) (x:St) (n:Nat):Prop where
 ex:∃ v,Mach W w.heap.size mb v x n
 be:Below w.heap.size w W
 ge:w.heap.size≤mb
theorem RunM.step {w W W':World} {mb n':Nat} {v v':Value} {y:St} (hb:Below w.heap.size w W) (hg:w.heap.size≤mb) (hs:MStep w.heap.size mb W v W' v') (hm:Mach W' w.heap.size mb v' y n'):RunM w mb W' y n' :=
 ⟨⟨v',hm⟩,ze hb hs.k (fun k q=>by rcases q with q|q <;> omega),hg⟩
set_option maxHeartbeats 4000000 in
theorem mrun_any (s:List UInt8) (w:World) (hs:s.length≤536870912):Calls Tryz.prog 177 #[.string (B s)] w fun e w'=>∃ v',e = .returned (.tuple #[v',.bool (run s).f])∧Own w' w.heap.size 2 v' (run s).l.length ((run s).l.reverse.flatMap frC)∧Below w.heap.size w w':=by
 have HN:=j7fb (zjh w);have HRL:=j7fb (zdi s);go_enter Tryz.func177,Tryz.ntmps177
 go_wp2_with (go_at_call 171;(refine HN.out.mono ?_);rintro e w1 ⟨mb,v1,rfl,hg1,hm1,hb1⟩;have HI:=j7fb (show RunM w mb w1 (run (s.take 0)) 0 from ⟨⟨v1,hm1⟩,hb1,hg1⟩);clear hg1 hm1 hb1)
 go_loopw [5,9] (fun _ i wr=>∃ k:Nat,k≤s.length∧i = .int .i64 k∧Hid (RunM w mb wr (run (s.take k)) k)) (fun _ i _=>s.length - (intOf i).toNat)
 case atStart=>exact ⟨0,by omega,rfl,HI⟩
 case round =>
  clear HI HN;obtain ⟨k,hk,rfl,HI⟩:=hrel;by_cases hlt:k<s.length
  ·have h0:(0:Int)≤(k:Int):=by omega
   have h1:(k:Int)<(s.length:Int):=by omega
   obtain ⟨v2,hm2⟩:=HI.out.ex;have hrl:=zdi (s.take k);rw [List.length_take] at hrl;have HST:=j7fb (zhq hm2 (wf_run (s.take k)) (by omega) (by omega) HI.out.be.size s[k]);rw [← zdw hlt] at HST;clear hm2 hrl
   go_wp2_with (go_at_call 172;(refine HST.out.mono ?_);rintro e w3 ⟨rfl,v3,hs3,hm3⟩;have HI3:=j7fb (RunM.step HI.out.be HI.out.ge hs3 hm3);clear hs3 hm3)
   go_roundw
   case rel=>exact ⟨k+1,by omega,by go_num,HI3⟩
   case measure=>simp [intOf];omega
  ·have hk':k=s.length:=by omega
   subst hk';rw [List.take_length] at HI;obtain ⟨v2,hm2⟩:=HI.out.ex;have hl2:(run s).l.length≤1073741824:=by have:=HRL.out;omega
   have HFS:=j7fb (zfg hm2 hl2);have HFR:=j7fb fun W (h:Below wr.heap.size wr W)=>zmz (hm2.below h) hl2;clear hm2 hl2
   go_wp2_with (first
    | (go_at_call 174;(refine HFS.out.mono ?_);rintro e w3 ⟨v3,rfl,ho3,hb3⟩;have HO3:=j7fb ho3;have HB3:=j7fb hb3;clear ho3 hb3)
    | (go_at_call 193;(refine (HFR.out _ HB3.out).mono ?_);rintro e w4 ⟨rfl,rfl⟩))
   refine bodyPost_ret (v:=.tuple #[v3,.bool (run s).f]) (by simp [results,Tryz.results177,go_sem]) rfl ?_;exact ⟨_,rfl,HO3.out.mono HI.out.be.size,zb HI.out.be HB3.out⟩
end Go.Proofs.YtjcdmjdofdnaoaaGreatDoor.Mc
namespace Go.Proofs.YtjcdmjdofdnaoaaGreatDoor
open Go.RowKit
structure Lax (F:Fence):Prop where
 fn:∀ f,F.fn f
 depth:F.depth=none
 calls:∀ (n:Nat) (P:Program) (f:FuncId) (args:Array Value) (w:World) (R:Ending→World→Prop),Calls P f args w R→CallsIn F n P f args w R
theorem za0:Lax Fence.wide:=⟨fun _=>trivial,rfl,fun _ _ _ _ _ _ h=>callsIn_wide.2 h⟩
theorem zoz (l:Nat):Lax (Fence.wide.inRound l):=⟨fun _=>trivial,rfl,fun _ _ _ _ _ _ h=>CallsIn.inRound l (callsIn_wide.2 h)⟩
def noDefer (ops:List Oper):Bool:=ops.all fun o=>match o.op with
 | .defer _=>false
 | _=>true
theorem zcl {ops:List Oper} (h:noDefer ops=true) {i:Nat} {o:Oper} (hi:ops.toArray[i]?=some o):∀ c,o.op≠.defer c:=by
 intro c hc;have hm:o∈ops:=List.mem_of_getElem? (by simpa using hi);have:=List.all_eq_true.1 h o hm;rw [hc] at this;cases this
section
variable {F : Fence} {P : Program} {ops : Array Oper} {md : Region.Mode} {C : World → Prop} {m : Nat}
theorem Oper.wpIn_of_quietL {o:Oper} {a:Act} {K:Act→Prop} {K':Act→World→Prop} {Q':Exit→Act→World→Prop} {w:World} (hF:Lax F) (hd:∀ c,o.op≠.defer c) (hw:C w) (h:∀ a w',C w'→K a→K' a w')
  (hh:o.quiet P a C K):o.wpIn F m P a w K' Q':=by
 obtain ⟨v,h1,h2⟩:=hh;have h3:=h1 w hw;unfold Oper.quietAt at h3;unfold Oper.wpIn;refine ⟨fun f _=>hF.fn f,?_⟩;rw [Oper.semAt_plain F _ _ hd];generalize (execOp a.eval o).run P w=r at *
 cases r with
 | ok x w' =>
  cases x <;> simp only [Oper.quietUpon] at h3 <;> simp only [Oper.uponIn]
  case value u =>
   obtain ⟨e1,e2⟩:=h3;rw [e1,e2];exact h _ _ hw h2
  case skip =>
   obtain ⟨e1,e2⟩:=h3;rw [e1,← e2];exact h _ _ hw h2
  case enter f args =>
   obtain ⟨e1,hc⟩:=h3;rw [e1];exact ⟨fun h=>(by rw [hF.depth] at h;cases h),hF.calls _ _ _ _ _ _ (hc.mono fun e w'' ⟨he,hw''⟩=>by subst he;exact h _ _ hw'' h2)⟩
 | halt x w'=>simp only [Oper.quietUpon] at h3
theorem zdg {i:Nat} {a:Act} {K:Act→Prop} {K':Act→World→Prop} {Q':Exit→Act→World→Prop} {w:World} (hF:Lax F) (hd:∀ (i:Nat) (o:Oper),ops[i]?=some o→∀ c,o.op≠.defer c) (hC:C w) (h:∀ a w',C w'→K a→K' a w')
  (hh:qOp P ops C i K a):wpOpIn F m P ops Q' i K' a w:=by
 unfold qOp at hh;unfold wpOpIn
 split
 ·rename_i ho;simp only [ho] at hh;exact h _ _ hC hh
 ·rename_i o ho
  simp only [ho] at hh
  split
  ·rename_i hw;simp only [hw,if_true] at hh;exact Oper.wpIn_of_quietL hF (hd i o ho) hC h hh
  ·rename_i hw;simp only [hw] at hh;exact ⟨fun f _=>hF.fn f,h _ _ hC hh⟩
theorem zb3 {n g:Nat} {L:Array Bool→Act→Prop} {Q:Exit→Act→World→Prop} (hF:Lax F) (hd:∀ (i:Nat) (o:Oper),ops[i]?=some o→∀ c,o.op≠.defer c) (hL:∀ d a w,C w→L d a→wpAnyIn F m P md ops Q g d a w) :
  ∀ (f:Nat) (d:Array Bool) (a:Act) (w:World),C w→headAll P md ops C n L f d a→wpAnyIn F m P md ops Q (f+g) d a w
 | 0,d,a,w,hw,h=>by rw [Nat.zero_add];exact hL _ _ _ hw h
 | f+1,d,a,w,hw,h=>by
  have e:f+1+g=(f+g)+1:=by omega
  rw [e];exact ⟨fun h0=>(h.1 h0).elim,fun i hi=>zdg hF hd hw (fun a' w' hw' h'=>zb3 hF hd hL f _ a' w' hw' h') (h.2 i hi).2⟩
theorem zbq {Q':Exit→Act→World→Prop}:∀ (l:List Oper) (k:Nat) (listed:Array Bool) (a:Act) (w:World),(∀ j,l[j]?=ops[k+j]?) →
  Region.seqB md ops l.length k listed=true→wpListIn F m P ops Q' l a w→wpAnyIn F m P md ops Q' l.length listed a w
 | [],_,_,_,_,_,hB,h=>⟨by simpa [Region.seqB] using hB,h⟩
 | o :: l,k,listed,a,w,hl,hB,h=>by
  have h0:ops[k]?=some o:=by simpa using (hl 0).symm
  simp only [List.length_cons,Region.seqB,Bool.and_eq_true,decide_eq_true_eq] at hB;refine ⟨fun h1=>(by rw [hB.1] at h1;cases h1),fun i hi=>?_⟩;rw [hB.1] at hi;have hik:i=k:=by simpa using hi
  subst hik;have hw:wpOpIn F m P ops Q' i (wpListIn F m P ops Q' l) a w:=by unfold wpOpIn;simp only [h0];exact h
  exact wpOpIn_mono (fun a' w' h'=>zbq l (i+1) _ a' w' (fun j=>by have:=hl (j+1);simpa [Nat.add_assoc,Nat.add_comm 1 j] using this) hB.2 h') hw
theorem zaa {id:Nat} {Q:Exit→Act→World→Prop} {a:Act} {w:World} {l:List Oper} (n:Nat) (hF:Lax F) (hm:P.follows .mixedOrders=true) (hB:Region.lexTailB .any l.toArray n=true) (hd:noDefer l=true)
  (h:wpQuiet P l.toArray (fun w'=>∃ g:GrowOf w,w'=grow w g) (fun a'=>∀ w',(∃ g:GrowOf w,w'=grow w g)→wpListIn F m P l.toArray Q (l.drop n) a' w') (l.take n) a):(Code.region id l.toArray true).wpIn F m P Q a w:=by
 simp only [Region.lexTailB,Bool.and_eq_true,decide_eq_true_eq] at hB;obtain ⟨⟨⟨⟨hsel,hn⟩,hs⟩,hc⟩,hlex⟩:=hB;have hn':n<l.length:=by simpa using hn
 have htl:(l.take n).length=n:=by simp;omega
 have hdl:(l.drop n).length=l.toArray.size - n:=by simp
 have inv0:HeadInv .any l.toArray n (Array.replicate l.toArray.size false) :=
  ⟨by simp,fun j oj _ hl=>(by rw [getD_replicate_false] at hl;cases hl),fun t _ ht=>getD_in (by simpa using ht) (getD_replicate_false _ _)⟩
 have H:=headAll_lex (md:=.any) (C:=fun w'=>∃ g:GrowOf w,w'=grow w g) (g:=l.toArray.size - n) hsel hs hc hn (l.take n) 0 _ a (fun j hj=>by
  have hj':j<n:=by omega
  simp [hj']) (by omega) inv0 (by rw [htl];exact hlex) h
 refine wpIn_region_any hm ?_
 have:=zb3 (m:=m) (Q:=Q) (g:=l.toArray.size - n) hF (fun i o hi=>zcl hd hi) (fun d a w' hw' hL=>by
  have:=zbq (F:=F) (m:=m) (md:=.any) (Q':=Q) (l.drop n) n d a w' (fun j=>by simp [List.getElem?_drop]) (by rw [hdl];exact hL.1) (hL.2 w' hw')
  rwa [hdl] at this) _ _ _ _ (zbi w 1) H
 rw [htl] at this;have e:n+(l.toArray.size - n)=l.toArray.size:=by omega
 rwa [e] at this
theorem zb6 {Q:Act→Prop} {Q':Exit→Act→World→Prop} (hF:Lax F) (hd:∀ (i:Nat) (o:Oper),ops[i]?=some o→∀ c,o.op≠.defer c) (hQ:∀ a w,C w→Q a→Q' .normal a w):∀ (fuel:Nat) (listed:Array Bool) (a:Act) (w:World),C w →
  wpAnyQ P md ops C Q fuel listed a→wpAnyIn F m P md ops Q' fuel listed a w
 | 0,_,_,_,hw,h=>⟨h.1,hQ _ _ hw h.2⟩
 | fuel+1,_,_,_,hw,h=>⟨fun h0=>hQ _ _ hw (h.1 h0),fun i hi=>zdg hF hd hw (fun a' w' hw'=>zb6 hF hd hQ fuel _ a' w' hw') (h.2 i hi)⟩
theorem zb7 {id:Nat} {Q:Exit→Act→World→Prop} {a:Act} {w:World} {l:List Oper} (hF:Lax F) (hm:P.follows .mixedOrders=true) (hB:Region.lexB .any l.toArray=true) (hd:noDefer l=true)
  (h:wpQuiet P l.toArray (fun w'=>∃ g:GrowOf w,w'=grow w g) (fun a'=>∀ w',(∃ g:GrowOf w,w'=grow w g)→Q .normal a' w') l a):(Code.region id l.toArray true).wpIn F m P Q a w:=by
 simp only [Region.lexB,Bool.and_eq_true] at hB;refine wpIn_region_any hm (zb6 (C:=fun w'=>∃ g:GrowOf w,w'=grow w g) (Q:=fun a'=>∀ w',(∃ g:GrowOf w,w'=grow w g)→Q .normal a' w') hF (fun i o hi=>zcl hd hi) (fun _ w' hw' h=>h w' hw') _ _ _ _ (zbi w 1) ?_);have:=wpAnyQ_lex (P:=P) (C:=fun w'=>∃ g:GrowOf w,w'=grow w g) (md:=.any) hB.1 l 0 (Array.replicate l.toArray.size false) a (by simp) (by simpa using hB.2) h
 simpa using this
end
end Go.Proofs.YtjcdmjdofdnaoaaGreatDoor
namespace Go.Proofs.YtjcdmjdofdnaoaaGreatDoor.Mc
open Go.ChangeShapes Go.WideShapes Go.Deep Go.RowKit Cls Md
set_option maxRecDepth 100000
def wendN (s:List UInt8) (a:Nat):Nat:=a+endFrom first 0 (s.drop a)
open Go.ChangeShapes Go.WideShapes Go.Deep Go.RowKit Cls Md Go.Shelf
attribute [local go_sem] Oper.semAt_some
theorem wpListIn_append_str {P:Program} {F:Fence} {m0:Nat} {w:World} {ops:Array Oper} {rest:List Oper} {o:Oper} {a:Act} {Q:Exit→Act→World→Prop} (hgd:o.guard=none) (sl x:Operand) (t u:TypeId)
  (ho:o.op = .call { callee:=.builtin .append,args:=#[sl,x],argTypes:=#[t,u] })
  (b0 e:Nat) (i:TypeInfo) (ht:P.underlying t=some (.slice e)) (hu:P.underlying u=some .string) (hi:P.info? e=some i) (hz:i.zero=some (.int .u8 0)) (hsize:i.size=1) (hby:i.bytes=1)
  (v:Value) (n:Nat) (xs:List UInt8) (hs:a.eval sl=v) (hown:Own w b0 1 v n (xs.flatMap byC)) (s:List UInt8) (hx:a.eval x = .string (B s))
  (h63:n+s.length≤70368744177664) (hb:b0≤w.heap.size)
  (h:∀ v' w',Own w' b0 1 v' (n+s.length) ((xs++s).flatMap byC)→Keeps (fun k=>v.ownBlock=some k∧b0≤k) w w'→(v'.ownBlock=v.ownBlock∨∀ k,v'.ownBlock=some k→w.heap.size≤k)→(∀ k,v'.ownBlock=some k→w.heap.size≤k→tyOf w' k=some e) →
   wpListIn F m0 P ops Q rest (a.put o.dst v') w'):wpListIn F m0 P ops Q (o :: rest) a w:=by
 refine wpListIn_plain hgd fun K hK'=>?_;obtain ⟨v',w',hrun,r1,r2,r3,r4⟩:=zdd (P:=P) w b0 t u o.type e i ht hu hi hz hsize hby v n xs hown s h63 hb;unfold Oper.wpIn;refine ⟨?_,?_⟩
 ·simp [Oper.about,ho,resolve,Target.leads,Sem.run_pure]
 ·rw [Oper.semAt_plain F _ _ (by rw [ho];intro c hc';cases hc')]
  simp [execOp,ho,resolve,invoke,builtin,hs,hx,hrun,Result.andThen];exact hK' _ _ (h v' w' r1 r2 r3 r4)
def closeB (c:UInt8):List UInt8:=if c=83 then [39] else if c=68 then [34] else if c=66 then [96] else if c=86∨c=73 then [125] else if c=67∨c=79∨c=80∨c=82∨c=69 then [41] else if c=65 then [41,41] else if c=88∨c=35 then [10] else []
theorem zo0 (c:UInt8) (hc:c∈modeL) (w:World):Calls Tryz.prog 179 #[.int .i64 (mo c)] w fun e w'=>e = .returned (.string (B (closeB c)))∧w=w':=by
 have h:∀ (k:Int) (t:List UInt8),mo c=k→closeB c=t→(Calls Tryz.prog 179 #[.int .i64 k] w fun e w'=>e = .returned (.string (B t))∧w=w')→Calls Tryz.prog 179 #[.int .i64 (mo c)] w fun e w'=>e = .returned (.string (B (closeB c)))∧w=w':=by
  intro k t h1 h2 h3;rw [h1,h2];exact h3
 simp only [modeL,List.mem_cons,List.not_mem_nil,or_false] at hc;rcases hc with rfl|rfl|rfl|rfl|rfl|rfl|rfl|rfl|rfl|rfl|rfl|rfl|rfl|rfl|rfl
 all_goals
  refine h _ _ (by rfl) (by rfl) ?_;go_enter Tryz.func179,Tryz.ntmps179;go_wp2;go_ret;exact ⟨rfl,rfl⟩
theorem zm5 (c:UInt8) (w:World):Calls Tryz.prog 179 #[.int .i64 (mo c)] w fun e w'=>e = .returned (.string (B (closeB c)))∧w=w':=by
 by_cases hc:c∈modeL
 ·exact zo0 c hc w
 ·have h1:mo c=15:=by unfold mo;rw [List.idxOf_eq_length hc];rfl
  have h2:closeB c=[]:=by
   unfold closeB
   repeat' split
   all_goals first
    | rfl
    | (rename_i h;subst h;exact absurd (by decide) hc)
    | (rename_i h;rcases h with rfl|rfl <;> exact absurd (by decide) hc)
    | (rename_i h;rcases h with rfl|rfl|rfl|rfl|rfl <;> exact absurd (by decide) hc)
  rw [h1,h2];go_enter Tryz.func179,Tryz.ntmps179;go_wp2;go_ret;exact ⟨rfl,rfl⟩
def encM (e:UInt8×Nat):Array Value:=#[.int .i64 (mo e.1)]
@[go_sem] theorem encM_eq (e:UInt8×Nat):encM e = #[.int .i64 (mo e.1)]:=rfl
theorem last1 (n:Nat) (hn:1≤n) (l b1 b0:Nat) (v:Value) (xs:List (UInt8×Nat)) (hx:xs.length≤1073741824) (J Jx:List (UInt8×Nat)→World→Prop)
  (hY:∀ pre x W,J pre W→pre.length<xs.length→YieldAt Fence.wide (n - 1) Tryz.prog l (encM x) W fun e W' =>
   (e = .returned (.bool true)∧J (pre++[x]) W'∧KeepG (fun k=>k=b1∨v.ownBlock=some k) W W')∨(e = .returned (.bool false)∧Jx (pre++[x]) W'))
  (W:World) (h1:W.cell? ⟨b1,0,none⟩=some v) (hh:Own W b0 2 v xs.length (xs.reverse.flatMap frC)) (h0:J [] W) :
  CallsIn Fence.wide n Tryz.prog 194 #[.func (.yield l) #[] #[],.pointer (some ⟨b1,0,none⟩)] W fun e W'=>(∃ v,e = .returned v) ∧
   ((∃ ys,ys=xs∧J ys W')∨(∃ pre,pre <+: xs∧Jx pre W')):=by
 have HY:=j7fb hY;have H0:=j7fb h0;have HH:=j7fb hh;obtain ⟨A,c,rfl,hA⟩:=hh.form0;have HA:=j7fb hA;have hb1:b1<W.heap.size:=World.block_lt_of_cell? W _ h1;clear hY h0 hh hA
 haveI:Old W b1:=⟨hb1⟩
 have hw0:IntKind.i64.wrap ((xs.length:Int) - 1)=(xs.length:Int) - 1:=IntWalk.i64_in _ (by omega);refine callsIn_of_wp Tryz.func194 rfl trivial ?_ rfl;simp only [Tryz.ntmps194,List.size_toArray,List.length_cons,List.length_nil,Nat.reduceAdd,Nat.reduceSub,Array.replicate_succ,Array.replicate_zero,List.push_toArray,List.append_toArray,List.nil_append,List.cons_append]
 gi_wp2
 have H1:=j7fb h1;clear h1
 gi_loopw [3] (fun i wr=>∃ (k:Nat) (pre:List (UInt8×Nat)),k≤xs.length∧i = .int .i64 ((k:Int) - 1)∧Hid (xs=pre++xs.drop (xs.length - k))∧Hid (J pre wr)∧Hid (KeepG (fun k=>k=b1∨(Value.slice A xs.length c).ownBlock=some k) W wr)) (fun i _=>(intOf i+1).toNat)
 case atStart=>exact ⟨xs.length,[],Nat.le_refl _,rfl,j7fb (by simp),H0,j7fb (fun _ _=>rfl)⟩
 case round =>
  clear H0;obtain ⟨k,pre,hk,rfl,HP,HJ,HK⟩:=hrel;by_cases hkl:0<k
  ·obtain ⟨x,hxk⟩:=zal (xs:=xs) (k:=xs.length - k) (by omega)
   obtain ⟨g,off,rfl⟩:=HA.out (by omega);have hrv:xs.reverse[k - 1]?=some x:=by rw [List.getElem?_reverse (by omega),show xs.length - 1 - (k - 1)=xs.length - k by omega];exact hxk
   have hc:=(Own.fr HH.out hrv).1;have hgl:=HH.out.lt g rfl;have z0:=(HK.out.cell (o:=off+(k - 1)*2) (.inr rfl)).trans hc;have z1:=(HK.out.cell (o:=0) (.inl rfl)).trans H1.out;have q1:(0:Int)≤(k:Int) - 1:=by omega
   have q2:(k:Int) - 1<(xs.length:Int):=by omega
   have q3:((k:Int) - 1).toNat=k - 1:=by omega
   have hp2:xs=(pre++[x])++xs.drop (xs.length - (k - 1)):=by
    obtain ⟨h9,e9⟩:=List.getElem?_eq_some_iff.1 hxk;have h3:=HP.out;rw [List.drop_eq_getElem_cons h9,e9,show xs.length - k+1=xs.length - (k - 1) by omega] at h3;rw [List.append_assoc];exact h3
   have hlen:pre.length<xs.length:=by
    have:=congrArg List.length hp2;simp only [List.length_append,List.length_cons,List.length_nil] at this;omega
   have HP2:=j7fb hp2;have q4:IntKind.i64.wrap ((k:Int) - 1 - 1)=(k:Int) - 1 - 1:=IntWalk.i64_in _ (by omega);obtain ⟨fn,tmps,assign,body,hy,hR⟩:=HY.out _ x _ HJ.out hlen;have HEN:Hid (encM x = #[.int .i64 (mo x.1)]):=rfl;rw [HEN.out] at hy;clear hlen hp2 hxk hrv hc
   gi_wp2
   refine hR.mono ?_;rintro e W3 (⟨rfl,hJ3,hk3⟩|⟨rfl,hJx3⟩)
   ·have HJ3:=j7fb hJ3
    have HK3:=j7fb (fun j hj=>(hk3 j hj).trans (HK.out j hj));clear hk3 hJ3
    gi_wp2
    go_roundw
    case rel=>exact ⟨k - 1,_,by omega,by rw [show ((k - 1:Nat):Int)=(k:Int) - 1 by omega],HP2,HJ3,HK3⟩
    case measure=>simp [intOf];omega
   ·have HJ3:=j7fb hJx3
    clear hJx3
    gi_wp2
    refine bodyPost_ret (results_none rfl _ _ _) rfl ?_;exact ⟨⟨_,rfl⟩,.inr ⟨_,⟨_,HP2.out.symm⟩,HJ3.out⟩⟩
  ·have hk0:k=0:=by omega
   subst hk0;have h3:=HP.out;rw [show xs.length - 0=xs.length by omega,List.drop_length,List.append_nil] at h3;have H3:=j7fb h3;clear h3 hkl
   gi_wp2
   go_end0
   exact ⟨⟨_,rfl⟩,.inl ⟨_,H3.out.symm,HJ.out⟩⟩
theorem last_any (A:Option Addr) (n c:Nat) (w:World):Calls Tryz.prog 178 #[.slice A n c] w fun e w'=>e = .returned (.func (.func 194) #[] #[.pointer (some ⟨w.heap.size,0,none⟩)])∧w'=w.alloc (.cells #[.slice A n c] 246):=by
 go_enter Tryz.func178,Tryz.ntmps178;go_wp2;go_ret;exact ⟨rfl,rfl⟩
def closL (l:List (UInt8×Nat)):List UInt8:=l.flatMap fun e=>closeB e.1
theorem zhr (l:List (UInt8×Nat)):(closL l).length≤2*l.length:=by
 induction l with
 | nil=>exact Nat.le_refl _
 | cons a r ih =>
  have h:(closeB a.1).length≤2:=by
   unfold closeB
   repeat' split
   all_goals simp
  unfold closL at *;rw [List.flatMap_cons,List.length_append,List.length_cons];omega
theorem zo1 (a b:List (UInt8×Nat)):closL (a++b)=closL a++closL b:=List.flatMap_append
theorem cells_of_ty {W:World} {k:Nat} {t:TypeId} (h:tyOf W k=some t):∃ o,W.heap[k]?=some o∧o.isCells=true:=by
 unfold tyOf at h
 split at h
 ·rename_i x;exact ⟨_,x,rfl⟩
 ·cases h
structure CloI (w:World) (b0 B:Nat) (pre:List (UInt8×Nat)) (v:Value) (W:World):Prop where
 o:BoxOwn W b0 B 1 v (closL pre).length ((closL pre).flatMap byC)
 t:TyS W v 5
 b:Below w.heap.size w W
theorem tyS_lull {A:Nat} {W W':World} {v:Value} {e:TypeId} (h:TyS W v e) (hL:Lull A W W'):TyS W' v e:=fun k hk=>by
 obtain ⟨o,h1,h2⟩:=cells_of_ty (h k hk);exact (zf ((hL.cells k o h1 h2).trans h1.symm)).trans (h k hk)
theorem CloI.lull {w W W':World} {A b0 B:Nat} {pre:List (UInt8×Nat)} {v:Value} (h:CloI w b0 B pre v W) (hL:Lull A W W') (hA:w.heap.size≤A):CloI w b0 B pre v W' :=
 ⟨h.o.lull hL,tyS_lull h.t hL,hL.below h.b hA (Nat.le_refl _)⟩
theorem zfh (s:List UInt8) (w:World) (hs:s.length≤536870912):Calls Tryz.prog 157 #[.string (B s)] w fun e w'=>e = .returned (.string (B (closL (run s).l)))∧Below w.heap.size w w':=by
 obtain ⟨i1,hi1,hz10,hz11,hz12⟩:=info_parts zdf;have hrl:=zdi s;have HWF:=j7fb (wf_run s);have HR:=j7fb fun W=>mrun_any s W hs;generalize run s=x at *;refine (callsIn_wide (n:=9)).1 ?_;refine callsIn_of_wp_marks Tryz.func157 rfl trivial ?_ rfl;simp only [Tryz.ntmps157,List.size_toArray,List.length_cons,List.length_nil,Nat.reduceAdd,Nat.reduceSub,Array.replicate_succ,Array.replicate_zero,List.push_toArray,List.append_toArray,List.nil_append,List.cons_append];refine wpIn_wide.2 ?_
 go_wp2_with (first
  | (go_at_call 177;refine (HR.out _).mono ?_;rintro e w1 ⟨v1,rfl,ho1,hb1⟩;obtain ⟨A1,c1,rfl,-⟩:=ho1.form0;have HO1:=j7fb ho1;have HB1:=j7fb hb1;clear ho1 hb1)
  | (go_at_call 178;refine (last_any _ _ _ _).mono ?_;rintro e w2 ⟨rfl,rfl⟩))
 obtain ⟨w3,hw3⟩:∃ w3,w3=(w1.alloc (.cells #[.slice none 0 0] 97)).alloc (.cells #[.slice A1 x.l.length c1] 246):=⟨_,rfl⟩
 have hsz3:w3.heap.size=w1.heap.size+2:=by rw [hw3];simp
 have hb13:Below w1.heap.size w1 w3:=by rw [hw3];exact za (za (Below.refl _ _) _) _
 have hws:=HB1.out.size
 have HGi:Hid (Gives Tryz.prog 194 #[.pointer (some ⟨w1.heap.size+1,0,none⟩)] encM (fun k=>k=w1.heap.size+1∨(Value.slice A1 x.l.length c1).ownBlock=some k) x.l w3):=by
  intro n hn l J Jx W hW hJ _ hY h0;refine last1 n hn l _ w.heap.size _ x.l (by omega) J Jx hY W ?_ ((HO1.out.below hb13).below hW) h0;rw [hW.cell (p:=⟨w1.heap.size+1,0,none⟩) (show w1.heap.size+1<w3.heap.size by omega),hw3];simp [go_sem]
 have HI0:Hid (CloI w w3.heap.size w1.heap.size [] (.slice none 0 0) w3):=by
  refine ⟨⟨by omega,by rw [hw3];go_simp,by rw [hw3];simp [go_sem],Own.nil _ _ _,by simp [Value.ownBlock]⟩,(fun k h=>by cases h),zb HB1.out hb13⟩
 rw [← hw3];clear hw3;refine (wpIn_wide (n:=9)).1 ?_
 refine znh (n:=9) 14 6 (fun e:UInt8×Nat=>.int .i64 (mo e.1)) (by omega) rfl (enters_of Tryz.func194 (by kernel_rfl) rfl) HGi.out (fun k hk=>by
   rcases hk with rfl|e
   ·omega
   ·have:=HO1.out.lt k e;omega)
  (fun pre W=>∃ v,CloI w w3.heap.size w1.heap.size pre v W) (fun _ _ _=>False) ?hI (fun _ _ _ _ _ h=>h) ?h0 ?assign ?body ?done ?stop
 case hI=>exact fun s W W' hL ⟨v,h⟩=>⟨v,h.lull hL (by omega)⟩
 case h0=>exact ⟨_,HI0.out⟩
 case assign =>
  intro l y W K hK
  gi_wp2
  exact hK
 case body =>
  rintro l pre y W hs1 ⟨v,g⟩ hpl;have hc:=g.o.c;have hf:=g.o.f;have hlt:=g.o.lt;have hcl:=zhr pre;have hcl1:(closeB y.1).length≤2:=by have:=zhr [y];simpa [closL] using this
  have HCL:=j7fb fun w=>zm5 y.1 w;have G:=j7fb g
  haveI:Old W w1.heap.size:=⟨hlt⟩
  clear g
  gi_wp2
  (refine zaa 3 (zoz _) (by kernel_rfl) (by kernel_rfl) (by kernel_rfl) ?_;simp only [List.take_succ_cons,List.take_zero,List.drop_succ_cons,List.drop_zero];(repeat (go_big_quiet_step ((go_at_call 179;exact zhb (HCL.out _)))));refine wpQuiet_nil ?_;intro _ hw';obtain ⟨gq,hw''⟩:=hw';subst hw'')
  refine wpListIn_append_str rfl (.tmp 15) (.tmp 17) 97 9 rfl w3.heap.size 5 i1 Tryz.underlying97 Tryz.underlying9 hi1 hz10 hz11 hz12 v _ (closL pre) rfl (G.out.o.own.below (zh _ _)) (closeB y.1) rfl (by omega) (Nat.le_trans hs1 (zh W gq).size) ?_;intro v2 w2 hown2 hg2 hat2 hty2;obtain ⟨A2,c2,rfl,-⟩:=hown2.form0;have hgb:=zh W gq;obtain ⟨s1,s2,s3,s4⟩:=(G.out.o.below hgb).store hown2 hg2 hat2;have HT:=j7fb (TyS.append (zeo G.out.t hgb) (tyS_lt (zeo G.out.t hgb)) hg2 hat2 hty2);have hK:=(Keeps.of_below (F:=fun k=>k=w1.heap.size∨(v.ownBlock=some k∧w3.heap.size≤k)) hgb).trans s4;have R:=j7fb (And.intro s1 hK);clear hown2 hg2 hat2 hty2 s1 s4 hK
  gi_wp2
  have hgz:∀ k,(k=w1.heap.size+1∨(Value.slice A1 x.l.length c1).ownBlock=some k)→k<w1.heap.size+2∧k≠w1.heap.size:=fun k hk=>by
   rcases hk with rfl|e
   ·omega
   ·have:=HO1.out.lt k e;omega
  refine ⟨KeepsFrom.of_keeps R.out.2 fun k hF _ hA=>?_,KeepG.of_keeps R.out.2 (fun k hk=>?_) (fun k hk hF=>?_),.slice A2 ((closL pre).length+(closeB y.1).length) c2,?_,?_,ze G.out.b R.out.2 (fun k hk=>by omega)⟩
  ·rcases hF with e|⟨e,_⟩
   ·omega
   ·exact cells_of_ty (G.out.t k e)
  ·have:=hgz k hk;omega
  ·have:=hgz k hk;omega
  ·rw [zo1,List.length_append,show closL [y]=closeB y.1 by simp [closL]]
   exact R.out.1
  ·exact zen HT.out (Keeps.setCell (F:=fun k=>k=w1.heap.size) w2 (a:=⟨w1.heap.size,0,none⟩) rfl _)
 case done =>
  rintro D W hD ⟨v,g⟩ hK;have hc:=g.o.c;have hlt:=g.o.lt;have hcv:=zde g.o.own rfl;have HB:=j7fb g.b
  haveI:Old W w1.heap.size:=⟨hlt⟩
  clear g
  gi_wp2
  go_wp2;have hL:Lull w3.heap.size W (W.putObj D (.deferred none)):=Lull.of_grown (grownBy_putObj' _ D _) (fun r e=>by cases e;exact ⟨hD,_,hK,rfl⟩);refine ⟨by simp,.inl ⟨_,_,rfl,run_takeDeferred hK,?_⟩⟩;exact ⟨_,results_tmp rfl _ _ _,rfl,hL.below HB.out (by omega) (Nat.le_refl _)⟩
 case stop =>
  rintro D c pre W _ _ h _;exact h.elim
end Go.Proofs.YtjcdmjdofdnaoaaGreatDoor.Mc
