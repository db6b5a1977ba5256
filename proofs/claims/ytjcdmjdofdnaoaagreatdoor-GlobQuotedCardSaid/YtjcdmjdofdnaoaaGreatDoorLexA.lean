/-
  The walks of layers 5 and 9 (operators, tokens): operators, one token of a text. Conditions: as each says.
-/
import Derived.Test.YtjcdmjdofdnaoaaGreatDoorMachC
import Derived.Test.YtjcdmjdofdnaoaaGreatDoorShaped
import Derived.Test.YtjcdmjdofdnaoaaGreatDoorShelfB
import Derived.Lib.Builder
import Derived.Lib.AppendStr
import Derived.Test.YtjcdmjdofdnaoaaGreatDoorModA
set_option linter.unusedSimpArgs false
set_option linter.unusedVariables false
namespace Go.Proofs.YtjcdmjdofdnaoaaGreatDoor.Bd
open Go.ChangeShapes Go.WideShapes Go.Deep Go.RowKit
def bren:Go.Shelf.Ren:=⟨fun|240=>73|276=>108|n=>n,fun|9=>9|4=>4|0=>0|20=>20|72=>107|70=>105|37=>97|164=>178|n=>n,fun|n=>n⟩
theorem blays:Go.Proofs.Lays.n240 Tryz.prog bren:={
 mixed:=by kernel_rfl
 f240:=Tryz.func73.trans (congrArg some (by kernel_rfl))
 f276:=Tryz.func108.trans (congrArg some (by kernel_rfl))
 t0:=Tryz.underlying0
 a0:=Tryz.isAgg0
 z0:=Tryz.sizeOf0
 v0:=Tryz.zeroValue0
 t4:=Tryz.underlying4
 a4:=Tryz.isAgg4
 z4:=Tryz.sizeOf4
 v4:=Tryz.zeroValue4
 t9:=Tryz.underlying9
 a9:=Tryz.isAgg9
 z9:=Tryz.sizeOf9
 v9:=Tryz.zeroValue9
 t20:=Tryz.underlying20
 a20:=Tryz.isAgg20
 z20:=Tryz.sizeOf20
 v20:=Tryz.zeroValue20
 t70:=Tryz.underlying105
 a70:=Tryz.isAgg105
 z70:=Tryz.sizeOf105
 v70:=Tryz.zeroValue105
 t72:=Tryz.underlying107
 a72:=Tryz.isAgg107
 z72:=Tryz.sizeOf107
 v72:=Tryz.zeroValue107
 t164:=Tryz.underlying178
 a164:=Tryz.isAgg178
 z164:=Tryz.sizeOf178
 v164:=Tryz.zeroValue178 }
theorem bx72:Go.Proofs.Builder.X72 Tryz.prog bren:=⟨by kernel_rfl,by kernel_rfl⟩
structure Bld (w:World) (b R:Nat) (v:Value) (l:List UInt8):Prop where
 at_:∃ p,(p = .pointer none∨p = .pointer (some ⟨b,0,none⟩))∧w.heap[b]?=some (.cells #[p,v] 107)
 row:w.ownsRow R 5 1 v l.length (Lib.byteCells l)
 ne:v.ownBlock≠some b
theorem Bld.new (w:World) (R:Nat):Bld (w.alloc (.cells #[.pointer none,.slice none 0 0] 107)) w.heap.size R (.slice none 0 0) [] :=
 ⟨⟨_,.inl rfl,heap_alloc_new w _⟩,World.ownsRow_nil _ _ _ _,by simp [Value.ownBlock]⟩
theorem Bld.lt {w:World} {b R:Nat} {v:Value} {l:List UInt8} (h:Bld w b R v l):b<w.heap.size:=by
 obtain ⟨p,_,hp⟩:=h.at_;exact (Array.getElem?_eq_some_iff.1 hp).1
theorem Bld.c {w:World} {b R:Nat} {v:Value} {l:List UInt8} (h:Bld w b R v l):(w.cell? ⟨b,0,none⟩=some (.pointer none)∨w.cell? ⟨b,0,none⟩=some (.pointer (some ⟨b,0,none⟩)))∧w.cell? ⟨b,1,none⟩=some v∧w.frozen? ⟨b,0,none⟩=false∧w.frozen? ⟨b,1,none⟩=false∧w.shape? b=some (107,2):=by
 obtain ⟨p,hp,hh⟩:=h.at_;refine ⟨?_,?_,?_,?_,?_⟩
 ·rcases hp with rfl|rfl
  ·exact .inl (by rw [Lib.cell_of_heap hh];rfl)
  ·exact .inr (by rw [Lib.cell_of_heap hh];rfl)
 ·rw [Lib.cell_of_heap hh];rfl
 ·exact Lib.frozen_of_heap hh 0
 ·exact Lib.frozen_of_heap hh 1
 ·simp [World.shape?,hh]
theorem Bld.keeps {F:Nat→Prop} {w w':World} {b R:Nat} {v:Value} {l:List UInt8} (h:Bld w b R v l) (hk:Keeps F w w') (hb:¬ F b) (hv:∀ k,R≤k→k<w.heap.size→¬ F k):Bld w' b R v l:=by
 obtain ⟨p,hp,hh⟩:=h.at_;refine ⟨⟨p,hp,(hk.block b h.lt hb).trans hh⟩,?_,h.ne⟩;obtain ⟨h1,h2⟩:=h.row;refine ⟨h1,?_⟩;rcases h2 with h2|⟨g,c,cur,e,hg,hhg,r⟩
 ·exact .inl h2
 ·have hlt:=(Array.getElem?_eq_some_iff.1 hhg).1
  exact .inr ⟨g,c,cur,e,hg,(hk.block g hlt (hv g hg hlt)).trans hhg,r⟩
theorem Bld.below {w w':World} {b R:Nat} {v:Value} {l:List UInt8} (h:Bld w b R v l) (hb:Below w.heap.size w w'):Bld w' b R v l:=h.keeps (F:=fun _=>False) (Keeps.of_below hb) (fun h=>h) (fun _ _ _ h=>h)
theorem Bld.is {w:World} {b R:Nat} {v:Value} {l:List UInt8} (h:Bld w b R v l) {B0:Nat} (h1:B0≤b) (h2:B0≤R):Lib.IsBuilder 107 5 B0 b (Lib.byteCells l) w:=by
 obtain ⟨p,hp,hh⟩:=h.at_
 have hrow:w.ownsRow B0 5 1 v (Lib.byteCells l).length (Lib.byteCells l):=by
  rw [Lib.byteCells_length];obtain ⟨r1,r2⟩:=h.row;refine ⟨r1,?_⟩;rcases r2 with r2|⟨g,c,cur,e,hg,r⟩
  ·exact .inl r2
  ·exact .inr ⟨g,c,cur,e,by omega,r⟩
 rcases hp with rfl|rfl
 ·exact .inl ⟨h1,v,hh,hrow,h.ne⟩
 ·exact .inr ⟨h1,v,hh,hrow,h.ne⟩
theorem Bld.used {w:World} {b R:Nat} {v:Value} {l:List UInt8} (h:Bld w b R v l):Bld (w.setCell ⟨b,0,none⟩ (.pointer (some ⟨b,0,none⟩))) b R v l:=by
 obtain ⟨p,hp,hh⟩:=h.at_;refine ⟨⟨_,.inr rfl,?_⟩,?_,h.ne⟩
 ·simp [World.setCell,Array.getElem?_modify,hh]
 ·exact h.row.kept (row:=some b) ⟨rfl,rfl,rfl,by simp [World.setCell],fun k _ hk=>Below.heap_setCell _ _ _ _ (fun e=>hk (by simp [e]))⟩ (Or.inr h.ne)
theorem zi3 {w:World} {b R:Nat} {v:Value} {l:List UInt8} (h:Bld w b R v l) :
  Calls Tryz.prog 73 #[.pointer (some ⟨b,0,none⟩)] w fun e w'=>e = .returned (.tuple #[])∧Bld w' b R v l∧w'.cell? ⟨b,0,none⟩=some (.pointer (some ⟨b,0,none⟩))∧Keeps (fun k=>k=b) w w':=by
 obtain ⟨c0,c1,f0,f1,sh⟩:=h.c;rcases c0 with c0|c0
 ·refine (Any.Builder_copyCheck_fresh blays bx72 b w c0 sh f0).mono ?_
  rintro e w' ⟨rfl,rfl⟩;exact ⟨rfl,h.used,World.cell?_setCell_same' _ _ _ (by rw [c0];rfl),Keeps.setCell (F:=fun k=>k=b) w (a:=⟨b,0,none⟩) rfl _⟩
 ·refine (Any.Builder_copyCheck_used blays bx72 b w c0).mono ?_
  rintro e w' ⟨rfl,rfl⟩;exact ⟨rfl,h,c0,Keeps.refl _ _⟩
theorem zgw {P:Program} (w:World) (base:Nat) (t u ty e:TypeId) (i:TypeInfo) (ht:P.underlying t=some (.slice e)) (hu:P.underlying u=some .string) (hi:P.info? e=some i) (hz:i.zero=some (.int .u8 0))
  (hsize:i.size=1) (hby:i.bytes=1) (v:Value) (n:Nat) (xs:List Value) (hown:w.ownsRow base e 1 v n xs) (s:ByteArray)
  (hbytes:n+s.size≤70368744177664) (hbase:base≤w.heap.size) :
  ∃ v' w',(Builtin.append_ #[t,u] ty #[v,.string s]).run P w = .ok v' w'∧w'.ownsRow base e 1 v' (n+s.size) (xs++Lib.strCells s)∧Keeps (fun k=>base≤k) w w'∧w.grownBy w' v.ownBlock:=by
 obtain ⟨v',w',hr,h2,h3,_⟩:=Lib.run_append_own_string (P:=P) w base t u ty e i ht hu hi hz hsize hby v n xs hown s (by unfold maxLen;omega) (by omega) hbase;refine ⟨v',w',hr,h2,?_,h3⟩;refine ⟨h3.os,h3.tape,h3.output,h3.size,fun k hk hF=>h3.block k hk (fun e=>hF (hown.lt k e.symm).1),fun k hk=>?_⟩;by_cases hv:v.ownBlock=some k
 ·rcases hown.2 with ⟨rfl,_⟩|⟨g,cap,cur,rfl,hbg,hg,hnc,hcm,hcs,htake⟩
  ·cases hv
  ·simp [Value.ownBlock] at hv
   subst hv;have hxl:xs.length=n:=by simpa using hown.1
   by_cases hroom:n+s.size≤cap
   ·have hcs':cur.size=cap:=by simpa using hcs
    have hr2:=Lib.run_append_room_string (P:=P) w t u ty e i ht hu hi hsize g n cap cur hg s hroom (by omega);rw [hr] at hr2;injection hr2 with _ hw;subst hw;unfold tyOf;rw [setRow_heap w g cur _ e _ hg,hg]
   ·have holds:∀ j u,xs[j]?=some u→w.cell? ((⟨g,0,none⟩:Addr).add j)=some u:=hown.cells (g:=g) rfl
    have hr2:=Lib.run_append_grow_string (P:=P) w t u ty e i (.int .u8 0) ht hu hi hz ⟨g,0,none⟩ n cap xs (by rw [hsize];simpa using hxl) holds s (by omega) (by omega) (by rw [hby];exact growslice_fits (by omega) (by omega));rw [hr] at hr2;injection hr2 with _ hw;subst hw;exact z7 w.drew _ g hk
 ·exact zf (h3.block k hk (fun e'=>hv e'.symm))
theorem zfa {P:Program} {w:World} {ops:Array Oper} {rest:List Oper} {o:Oper} {a:Act} {Q:Exit→Act→World→Prop} (hgd:o.guard=none) (sl x:Operand) (t u:TypeId)
  (ho:o.op = .call { callee:=.builtin .append,args:=#[sl,x],argTypes:=#[t,u] })
  (base:Nat) (e:TypeId) (i:TypeInfo) (ht:P.underlying t=some (.slice e)) (hu:P.underlying u=some .string) (hi:P.info? e=some i) (hz:i.zero=some (.int .u8 0)) (hsize:i.size=1) (hby:i.bytes=1)
  (v:Value) (n:Nat) (xs:List Value) (hs:a.eval sl=v) (hown:w.ownsRow base e 1 v n xs) (s:ByteArray) (hx:a.eval x = .string s)
  (hbytes:n+s.size≤70368744177664) (hbase:base≤w.heap.size)
  (h:∀ v' w',w'.ownsRow base e 1 v' (n+s.size) (xs++Lib.strCells s)→Keeps (fun k=>base≤k) w w'→w.grownBy w' v.ownBlock→wpList P ops Q rest (a.put o.dst v') w'):wpList P ops Q (o :: rest) a w:=by
 refine wpList_plain hgd fun K hK=>?_;obtain ⟨v',w',hr,h2,h3,h4⟩:=zgw (P:=P) w base t u o.type e i ht hu hi hz hsize hby v n xs hown s hbytes hbase;unfold Oper.wp execOp;simp only [ho,resolve,invoke,builtin,Sem.run_bind,Sem.run_pure,Result.andThen_ok,List.map_toArray,List.map_cons,List.map_nil,hs,hx,hr];exact hK _ _ (h v' w' h2 h3 h4)
theorem zgf {P:Program} (w:World) (base:Nat) (t ty e:TypeId) (i:TypeInfo) (ht:P.underlying t=some (.slice e)) (hi:P.info? e=some i) (hz:i.zero=some (.int .u8 0))
  (hsize:i.size=1) (hby:i.bytes=1) (v:Value) (n:Nat) (xs:List Value) (hown:w.ownsRow base e 1 v n xs) (c:UInt8) (hbytes:n+1≤70368744177664) (hbase:base≤w.heap.size) :
  ∃ v' w',(Builtin.append_ #[t,t] ty #[v,.slice (some ⟨w.heap.size,0,none⟩) 1 1]).run P (w.alloc (.cells #[.int .u8 c.toNat] e)) = .ok v' w'∧w'.ownsRow base e 1 v' (n+1) (xs++[.int .u8 c.toNat])∧Keeps (fun k=>base≤k) w w'∧w.grownBy w' v.ownBlock:=by
 have hnews:∀ (j:Nat) u,[Value.int .u8 c.toNat][j]?=some u→(w.alloc (.cells #[.int .u8 c.toNat] e)).cell? ((⟨w.heap.size,0,none⟩:Addr).add j)=some u:=by
  intro j u hj
  match j,hj with
  | 0,hj=>simp at hj;subst hj;simp [Addr.add]
 have hone:∀ u∈[Value.int .u8 c.toNat],u.oneCell'=true:=by intro u hu;simp at hu;subst hu;rfl
 have hsz:(w.alloc (.cells #[.int .u8 (c.toNat:Int)] e)).heap.size=w.heap.size+1:=by simp
 obtain ⟨v',w',hr,h2,h3,_⟩:=run_append_own (P:=P) (w.alloc (.cells #[.int .u8 c.toNat] e)) base t ty e i (.int .u8 0) 1 1 ht hi hz hsize hby rfl (by decide) v n xs (hown.alloc _) ⟨w.heap.size,0,none⟩ 1 1 [.int .u8 c.toNat] rfl hnews hone (by unfold maxLen;omega) (by omega) (by omega);have hblk:∀ k,k<w.heap.size→v.ownBlock≠some k→w'.heap[k]?=w.heap[k]?:=fun k hk hne=>(h3.block k (by omega) (fun e=>hne e.symm)).trans (zu w _ k hk);refine ⟨v',w',hr,h2,?_,⟨h3.os,h3.tape,h3.output,by have:=h3.size;omega,fun k hk hne=>hblk k hk (fun e=>hne e.symm)⟩⟩;refine ⟨h3.os,h3.tape,h3.output,by have:=h3.size;omega,fun k hk hF=>hblk k hk (fun e=>hF (hown.lt k e).1),fun k hk=>?_⟩;by_cases hv:v.ownBlock=some k
 ·rcases hown.2 with ⟨rfl,_⟩|⟨g,cap,cur,rfl,hbg,hg,hnc,hcm,hcs,htake⟩
  ·cases hv
  ·simp [Value.ownBlock] at hv
   subst hv;have hxl:xs.length=n:=by simpa using hown.1
   have hg2:(w.alloc (.cells #[.int .u8 (c.toNat:Int)] e)).heap[g]?=some (.cells cur e (0,0)):=(zu w _ g hk).trans hg;have ht1:tyOf w g=some e:=by unfold tyOf;rw [hg]
   rw [ht1];by_cases hroom:n+1≤cap
   ·have hcs':cur.size=cap:=by simpa using hcs
    have hr2:=run_append_room (P:=P) (w.alloc (.cells #[.int .u8 c.toNat] e)) t ty e i ht hi g n cap cur hg2 ⟨w.heap.size,0,none⟩ 1 1 [.int .u8 c.toNat] (by rw [hsize];rfl) hnews hone hroom (by rw [hsize];simp;omega);rw [hr] at hr2;injection hr2 with _ hw;subst hw;unfold tyOf;rw [setRow_heap _ g cur _ e _ hg2]
   ·have holds:∀ j u,xs[j]?=some u→(w.alloc (.cells #[.int .u8 (c.toNat:Int)] e)).cell? ((⟨g,0,none⟩:Addr).add j)=some u:=(hown.alloc _).cells (g:=g) rfl
    have hr2:=run_append_grow (P:=P) (w.alloc (.cells #[.int .u8 c.toNat] e)) t ty e i (.int .u8 0) ht hi hz ⟨g,0,none⟩ n cap xs (by rw [hsize];omega) holds ⟨w.heap.size,0,none⟩ 1 1 [.int .u8 c.toNat] (by rw [hsize];rfl) hnews (by omega) (by omega) (by rw [hby];exact growslice_fits (by omega) (by omega));rw [hr] at hr2;injection hr2 with _ hw;subst hw;rw [z7 (w.alloc (.cells #[.int .u8 (c.toNat:Int)] e)).drew _ g (by show g<(w.alloc _).heap.size;omega)];exact (z7 w _ g hk).trans ht1
 ·exact zf (hblk k hk hv)
theorem zej {P:Program} {w:World} {ops:Array Oper} {rest:List Oper} {o:Oper} {a:Act} {Q:Exit→Act→World→Prop} (hgd:o.guard=none) (sl x:Operand) (t:TypeId)
  (ho:o.op = .call { callee:=.builtin .append,args:=#[sl,x],argTypes:=#[t,t] })
  (base:Nat) (e:TypeId) (i:TypeInfo) (ht:P.underlying t=some (.slice e)) (hi:P.info? e=some i) (hz:i.zero=some (.int .u8 0)) (hsize:i.size=1) (hby:i.bytes=1)
  (v:Value) (n:Nat) (xs:List Value) (hs:a.eval sl=v) (hown:w.ownsRow base e 1 v n xs) (c:UInt8) (W:World) (hW:W=w.alloc (.cells #[.int .u8 c.toNat] e)) (hx:a.eval x = .slice (some ⟨w.heap.size,0,none⟩) 1 1)
  (hbytes:n+1≤70368744177664) (hbase:base≤w.heap.size)
  (h:∀ v' w',w'.ownsRow base e 1 v' (n+1) (xs++[.int .u8 c.toNat])→Keeps (fun k=>base≤k) w w'→w.grownBy w' v.ownBlock→wpList P ops Q rest (a.put o.dst v') w'):wpList P ops Q (o :: rest) a W:=by
 subst hW;refine wpList_plain hgd fun K hK=>?_;obtain ⟨v',w',hr,h2,h3,h4⟩:=zgf (P:=P) w base t o.type e i ht hi hz hsize hby v n xs hown c hbytes hbase;unfold Oper.wp execOp;simp only [ho,resolve,invoke,builtin,Sem.run_bind,Sem.run_pure,Result.andThen_ok,List.map_toArray,List.map_cons,List.map_nil,hs,hx,hr];exact hK _ _ (h v' w' h2 h3 h4)
theorem Bld.store {w w2:World} {b R:Nat} {v v':Value} {l l':List UInt8} (h:Bld w b R v l) (hc:w.cell? ⟨b,0,none⟩=some (.pointer (some ⟨b,0,none⟩))) (ho:w2.ownsRow R 5 1 v' l'.length (Lib.byteCells l')) (hg:w.grownBy w2 v.ownBlock) :
  w2.cell? ⟨b,0,none⟩=some (.pointer (some ⟨b,0,none⟩))∧w2.cell? ⟨b,1,none⟩=some v∧w2.frozen? ⟨b,1,none⟩=false∧Bld (w2.setCell ⟨b,1,none⟩ v') b R v' l':=by
 have hb:w2.heap[b]?=w.heap[b]?:=hg.block b h.lt (fun e=>h.ne e.symm);obtain ⟨p,hp,hh⟩:=h.at_;have hh2:=hb.trans hh
 have hp2:p = .pointer (some ⟨b,0,none⟩):=by
  rw [Lib.cell_of_heap hh] at hc
  simpa using hc
 subst hp2;have hne:v'.ownBlock≠some b:=Lib.ownBlock_ne ho hh2 (by decide);refine ⟨by rw [Lib.cell_of_heap hh2];rfl,by rw [Lib.cell_of_heap hh2];rfl,Lib.frozen_of_heap hh2 1,⟨_,.inr rfl,?_⟩,?_,hne⟩
 ·simp [World.setCell,Array.getElem?_modify,hh2]
 ·exact ho.kept (row:=some b) ⟨rfl,rfl,rfl,by simp [World.setCell],fun k _ hk=>Below.heap_setCell _ _ _ _ (fun e=>hk (by simp [e]))⟩ (Or.inr hne)
set_option maxRecDepth 100000 in
set_option maxHeartbeats 2000000 in
theorem wstr_any {w:World} {b R:Nat} {v:Value} {l s:List UInt8} (h:Bld w b R v l) (hlen:l.length+s.length≤70368744177664) (hR:R≤w.heap.size) :
  Calls Tryz.prog 44 #[.pointer (some ⟨b,0,none⟩),.string (B s)] w fun e w'=>e = .returned (.tuple #[.int .i64 s.length,.nilIface])∧∃ v',Bld w' b R v' (l++s)∧Keeps (fun k=>k=b∨R≤k) w w':=by
 obtain ⟨i0,hi,hz0,hz1,hz2⟩:=info_parts zdf;have HC:=Lib.hid (zi3 h);clear h;go_enter Tryz.func44,Tryz.ntmps44
 go_wp2_with (go_at_call 73;refine HC.out.mono ?_)
 rintro e w1 ⟨rfl,h1,c0,hk1⟩;have HK1:=Lib.hid hk1;have hR1:R≤w1.heap.size:=Nat.le_trans hR hk1.size;obtain ⟨_,c1,f0,f1,sh⟩:=h1.c;have H1:=Lib.hid h1;clear h1 hk1 sh
 go_wp2_with (at_builtin;refine zfa rfl (.tmp 12) (.tmp 13) 97 9 rfl R 5 i0 Tryz.underlying97 Tryz.underlying9 hi hz0 hz1 hz2 _ _ _ rfl H1.out.row (B s) rfl (by rw [B_size];omega) hR1 ?_)
 intro v' w2 hown' hk2 hgrow;rw [zlp,zcx,← List.flatMap_append,← zcx,← List.length_append] at hown';obtain ⟨d0,d1,e1,hB⟩:=H1.out.store c0 hown' hgrow;have HB:=Lib.hid hB;have HK2:=Lib.hid hk2
 obtain ⟨ao,n',cap,rfl⟩:∃ ao n' cap,v' = .slice ao n' cap:=by
  rcases hown'.2 with ⟨hv,_⟩|⟨g,cap,cur,hv,_⟩
  ·exact ⟨_,_,_,hv⟩
  ·exact ⟨_,_,_,hv⟩
 clear hB hk2 hown' hgrow;go_wp2;go_ret2;refine ⟨rfl,_,HB.out,?_⟩;exact ((HK1.out.mono fun k _ e=>.inl e).trans (HK2.out.mono fun k _ e=>.inr e)).trans (Keeps.setCell (F:=fun k=>k=b∨R≤k) w2 (a:=⟨b,1,none⟩) (.inl rfl) _)
set_option maxRecDepth 100000 in
set_option maxHeartbeats 2000000 in
theorem zcv {w:World} {b R:Nat} {v:Value} {l:List UInt8} (c:UInt8) (h:Bld w b R v l) (hlen:l.length+1≤70368744177664) (hR:R≤w.heap.size) :
  Calls Tryz.prog 47 #[.pointer (some ⟨b,0,none⟩),.int .u8 c.toNat] w fun e w'=>e = .returned .nilIface∧∃ v',Bld w' b R v' (l++[c])∧Keeps (fun k=>k=b∨R≤k) w w':=by
 obtain ⟨i0,hi,hz0,hz1,hz2⟩:=info_parts zdf;have HC:=Lib.hid (zi3 h);clear h;go_enter Tryz.func47,Tryz.ntmps47
 go_wp2_with (go_at_call 73;refine HC.out.mono ?_)
 rintro e w1 ⟨rfl,h1,c0,hk1⟩;have HK1:=Lib.hid hk1;have hR1:R≤w1.heap.size:=Nat.le_trans hR hk1.size;obtain ⟨_,c1,f0,f1,sh⟩:=h1.c;have H1:=Lib.hid h1;clear h1 hk1 sh
 go_wp2_with (at_builtin;refine zej rfl (.tmp 11) (.tmp 13) 97 rfl R 5 i0 Tryz.underlying97 hi hz0 hz1 hz2 _ _ _ rfl H1.out.row c _ rfl rfl (by omega) hR1 ?_)
 intro v' w2 hown' hk2 hgrow;rw [zcx,show [Value.int .u8 (c.toNat:Int)]=[c].flatMap byC from rfl,← List.flatMap_append,← zcx,show l.length+1=(l++[c]).length by simp] at hown';obtain ⟨d0,d1,e1,hB⟩:=H1.out.store c0 hown' hgrow;have HB:=Lib.hid hB;have HK2:=Lib.hid hk2
 obtain ⟨ao,n',cap,rfl⟩:∃ ao n' cap,v' = .slice ao n' cap:=by
  rcases hown'.2 with ⟨hv,_⟩|⟨g,cap,cur,hv,_⟩
  ·exact ⟨_,_,_,hv⟩
  ·exact ⟨_,_,_,hv⟩
 clear hB hk2 hown' hgrow;go_wp2;go_ret;refine ⟨rfl,_,HB.out,?_⟩;exact ((HK1.out.mono fun k _ e=>.inl e).trans (HK2.out.mono fun k _ e=>.inr e)).trans (Keeps.setCell (F:=fun k=>k=b∨R≤k) w2 (a:=⟨b,1,none⟩) (.inl rfl) _)
theorem zhm {w:World} {b R:Nat} {v:Value} {l:List UInt8} (c:UInt8) {n:Int} (hn:n=(c.toNat:Int)) (h:Bld w b R v l) (hlen:l.length+1≤70368744177664) (hR:R≤w.heap.size) :
  Calls Tryz.prog 47 #[.pointer (some ⟨b,0,none⟩),.int .u8 n] w fun e w'=>e = .returned .nilIface∧∃ v',Bld w' b R v' (l++[c])∧Keeps (fun k=>k=b∨R≤k) w w':=by
 subst hn;exact zcv c h hlen hR
set_option maxRecDepth 100000 in
theorem zi4 {w:World} {b R:Nat} {v:Value} {l:List UInt8} (h:Bld w b R v l) {B0:Nat} (h1:B0≤b) (h2:B0≤R) :
  Calls Tryz.prog 48 #[.pointer (some ⟨b,0,none⟩)] w fun e w'=>e = .returned (.string (B l))∧Below B0 w w' :=
 Tryz.Builder_String_any B0 b l w (h.is h1 h2) (by have:=h.lt;omega)
end Go.Proofs.YtjcdmjdofdnaoaaGreatDoor.Bd
namespace Go.Proofs.YtjcdmjdofdnaoaaGreatDoor.Lx
open Go.ChangeShapes Go.WideShapes Go.Deep Go.RowKit Cls
set_option maxRecDepth 100000
open Go.ChangeShapes Go.WideShapes Go.Deep Go.RowKit Cls Md
structure SFr (w D:World):Prop where
 bx:BoxN D w.heap.size [.int .i64 0,.slice none 0 0,.bool false]
 tk:BoxN D (w.heap.size+1) [.int .i64 0,.int .i64 0,.int .i64 0,.bool false]
 lx:BoxN D (w.heap.size+2) [.int .i64 0,.slice none 0 0,.bool false]
 be:Below w.heap.size w D
theorem SFr.below {w D D':World} (h:SFr w D) (hb:Below D.heap.size D D'):SFr w D':=⟨h.bx.below hb,h.tk.below hb,h.lx.below hb,zb h.be hb⟩
theorem SFr.new (w:World) (t1 t2 t3:TypeId):SFr w (((w.alloc (.cells #[.int .i64 0,.slice none 0 0,.bool false] t1)).alloc (.cells #[.int .i64 0,.int .i64 0,.int .i64 0,.bool false] t2)).alloc (.cells #[.int .i64 0,.slice none 0 0,.bool false] t3)):=by
 have h1:=BoxN.new w [.int .i64 0,.slice none 0 0,.bool false] t1;have h2:=BoxN.new (w.alloc (.cells #[.int .i64 0,.slice none 0 0,.bool false] t1)) [.int .i64 0,.int .i64 0,.int .i64 0,.bool false] t2;have h3:=BoxN.new ((w.alloc (.cells #[.int .i64 0,.slice none 0 0,.bool false] t1)).alloc (.cells #[.int .i64 0,.int .i64 0,.int .i64 0,.bool false] t2)) [.int .i64 0,.slice none 0 0,.bool false] t3;rw [show (w.alloc (.cells #[.int .i64 0,.slice none 0 0,.bool false] t1)).heap.size=w.heap.size+1 by simp] at h2;rw [show ((w.alloc (.cells #[.int .i64 0,.slice none 0 0,.bool false] t1)).alloc (.cells #[.int .i64 0,.int .i64 0,.int .i64 0,.bool false] t2)).heap.size=w.heap.size+2 by simp] at h3;exact ⟨(h1.below (za (Below.refl _ _) _)).below (za (Below.refl _ _) _),h2.below (za (Below.refl _ _) _),h3,zzb⟩
end Go.Proofs.YtjcdmjdofdnaoaaGreatDoor.Lx
