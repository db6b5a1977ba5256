/-
  The walks of layers 6 and 17: the stack behind a text, its letters, the state behind a word. Conditions: texts of at most 2^29 bytes.
-/
import Derived.Test.YtfmecpnokefokaaGreatDoorAppStr
import Derived.Test.YtfmecpnokefokaaGreatDoorPat4
import Derived.Lib.Builder
import Derived.Lib.AppendStr
import Derived.Test.YtfmecpnokefokaaGreatDoorModA
import Derived.Lib.Replace
import Derived.Lib.IndexBytes
import Derived.Lib.IndexLaws
import Derived.Test.YtfmecpnokefokaaGreatDoorKeyed2
import Derived.Test.YtfmecpnokefokaaGreatDoorHist
import Derived.Lib.SplitLaws
import Derived.Test.YtfmecpnokefokaaGreatDoorMachA
set_option linter.unusedSimpArgs false
set_option linter.unusedVariables false
namespace Go.Proofs.YtfmecpnokefokaaGreatDoor.Bd
open Go.ChangeShapes Go.WideShapes Go.Deep Go.RowKit
def bren:Go.Shelf.Ren:=⟨fun|240=>70|276=>106|n=>n,fun|9=>9|4=>4|0=>0|20=>20|72=>74|70=>72|37=>42|164=>166|n=>n,fun|n=>n⟩
theorem blays:Go.Proofs.Lays.n240 Tryz.prog bren:={
 mixed:=by kernel_rfl
 f240:=Tryz.func70.trans (congrArg some (by kernel_rfl))
 f276:=Tryz.func106.trans (congrArg some (by kernel_rfl))
 t0:=Tryz.underlying0
 a0:=Tryz.isAgg0
 z0:=Tryz.sizeOf0
 v0:=Tryz.zeroValue0
 t4:=Tryz.underlying4
 a4:=Tryz.isAgg4
 z4:=Tryz.sizeOf4
 v4:=Tryz.zeroValue4
 t9:=Tryz.underlying9
 a9:=Tryz.isAgg9
 z9:=Tryz.sizeOf9
 v9:=Tryz.zeroValue9
 t20:=Tryz.underlying20
 a20:=Tryz.isAgg20
 z20:=Tryz.sizeOf20
 v20:=Tryz.zeroValue20
 t70:=Tryz.underlying72
 a70:=Tryz.isAgg72
 z70:=Tryz.sizeOf72
 v70:=Tryz.zeroValue72
 t72:=Tryz.underlying74
 a72:=Tryz.isAgg74
 z72:=Tryz.sizeOf74
 v72:=Tryz.zeroValue74
 t164:=Tryz.underlying166
 a164:=Tryz.isAgg166
 z164:=Tryz.sizeOf166
 v164:=Tryz.zeroValue166 }
theorem bx72:Go.Proofs.Builder.X72 Tryz.prog bren:=⟨by kernel_rfl,by kernel_rfl⟩
structure Bld (w:World) (b R:Nat) (v:Value) (l:List UInt8):Prop where
 at_:∃ p,(p = .pointer none∨p = .pointer (some ⟨b,0,none⟩))∧w.heap[b]?=some (.cells #[p,v] 74)
 row:w.ownsRow R 5 1 v l.length (Lib.byteCells l)
 ne:v.ownBlock≠some b
theorem Bld.new (w:World) (R:Nat):Bld (w.alloc (.cells #[.pointer none,.slice none 0 0] 74)) w.heap.size R (.slice none 0 0) [] :=
 ⟨⟨_,.inl rfl,heap_alloc_new w _⟩,World.ownsRow_nil _ _ _ _,by simp [Value.ownBlock]⟩
theorem Bld.lt {w:World} {b R:Nat} {v:Value} {l:List UInt8} (h:Bld w b R v l):b<w.heap.size:=by
 obtain ⟨p,_,hp⟩:=h.at_;exact (Array.getElem?_eq_some_iff.1 hp).1
theorem Bld.c {w:World} {b R:Nat} {v:Value} {l:List UInt8} (h:Bld w b R v l):(w.cell? ⟨b,0,none⟩=some (.pointer none)∨w.cell? ⟨b,0,none⟩=some (.pointer (some ⟨b,0,none⟩)))∧w.cell? ⟨b,1,none⟩=some v∧w.frozen? ⟨b,0,none⟩=false∧w.frozen? ⟨b,1,none⟩=false∧w.shape? b=some (74,2):=by
 obtain ⟨p,hp,hh⟩:=h.at_;refine ⟨?_,?_,?_,?_,?_⟩
 ·rcases hp with rfl|rfl
  ·exact .inl (by rw [Lib.cell_of_heap hh];rfl)
  ·exact .inr (by rw [Lib.cell_of_heap hh];rfl)
 ·rw [Lib.cell_of_heap hh];rfl
 ·exact Lib.frozen_of_heap hh 0
 ·exact Lib.frozen_of_heap hh 1
 ·simp [World.shape?,hh]
theorem Bld.keeps {F:Nat→Prop} {w w':World} {b R:Nat} {v:Value} {l:List UInt8} (h:Bld w b R v l) (hk:Keeps F w w') (hb:¬ F b) (hv:∀ k,R≤k→k<w.heap.size→¬ F k):Bld w' b R v l:=by
 obtain ⟨p,hp,hh⟩:=h.at_;refine ⟨⟨p,hp,(hk.block b h.lt hb).trans hh⟩,?_,h.ne⟩;obtain ⟨h1,h2⟩:=h.row;refine ⟨h1,?_⟩;rcases h2 with h2|⟨g,c,cur,e,hg,hhg,r⟩
 ·exact .inl h2
 ·have hlt:=(Array.getElem?_eq_some_iff.1 hhg).1
  exact .inr ⟨g,c,cur,e,hg,(hk.block g hlt (hv g hg hlt)).trans hhg,r⟩
theorem Bld.below {w w':World} {b R:Nat} {v:Value} {l:List UInt8} (h:Bld w b R v l) (hb:Below w.heap.size w w'):Bld w' b R v l:=h.keeps (F:=fun _=>False) (Keeps.of_below hb) (fun h=>h) (fun _ _ _ h=>h)
theorem Bld.is {w:World} {b R:Nat} {v:Value} {l:List UInt8} (h:Bld w b R v l) {B0:Nat} (h1:B0≤b) (h2:B0≤R):Lib.IsBuilder 74 5 B0 b (Lib.byteCells l) w:=by
 obtain ⟨p,hp,hh⟩:=h.at_
 have hrow:w.ownsRow B0 5 1 v (Lib.byteCells l).length (Lib.byteCells l):=by
  rw [Lib.byteCells_length];obtain ⟨r1,r2⟩:=h.row;refine ⟨r1,?_⟩;rcases r2 with r2|⟨g,c,cur,e,hg,r⟩
  ·exact .inl r2
  ·exact .inr ⟨g,c,cur,e,by omega,r⟩
 rcases hp with rfl|rfl
 ·exact .inl ⟨h1,v,hh,hrow,h.ne⟩
 ·exact .inr ⟨h1,v,hh,hrow,h.ne⟩
theorem Bld.used {w:World} {b R:Nat} {v:Value} {l:List UInt8} (h:Bld w b R v l):Bld (w.setCell ⟨b,0,none⟩ (.pointer (some ⟨b,0,none⟩))) b R v l:=by
 obtain ⟨p,hp,hh⟩:=h.at_;refine ⟨⟨_,.inr rfl,?_⟩,?_,h.ne⟩
 ·simp [World.setCell,Array.getElem?_modify,hh]
 ·exact h.row.kept (row:=some b) ⟨rfl,rfl,rfl,by simp [World.setCell],fun k _ hk=>Below.heap_setCell _ _ _ _ (fun e=>hk (by simp [e]))⟩ (Or.inr h.ne)
theorem zk8 {w:World} {b R:Nat} {v:Value} {l:List UInt8} (h:Bld w b R v l) :
  Calls Tryz.prog 70 #[.pointer (some ⟨b,0,none⟩)] w fun e w'=>e = .returned (.tuple #[])∧Bld w' b R v l∧w'.cell? ⟨b,0,none⟩=some (.pointer (some ⟨b,0,none⟩))∧Keeps (fun k=>k=b) w w':=by
 obtain ⟨c0,c1,f0,f1,sh⟩:=h.c;rcases c0 with c0|c0
 ·refine (Any.Builder_copyCheck_fresh blays bx72 b w c0 sh f0).mono ?_
  rintro e w' ⟨rfl,rfl⟩;exact ⟨rfl,h.used,World.cell?_setCell_same' _ _ _ (by rw [c0];rfl),Keeps.setCell (F:=fun k=>k=b) w (a:=⟨b,0,none⟩) rfl _⟩
 ·refine (Any.Builder_copyCheck_used blays bx72 b w c0).mono ?_
  rintro e w' ⟨rfl,rfl⟩;exact ⟨rfl,h,c0,Keeps.refl _ _⟩
theorem zik {P:Program} (w:World) (base:Nat) (t u ty e:TypeId) (i:TypeInfo) (ht:P.underlying t=some (.slice e)) (hu:P.underlying u=some .string) (hi:P.info? e=some i) (hz:i.zero=some (.int .u8 0))
  (hsize:i.size=1) (hby:i.bytes=1) (v:Value) (n:Nat) (xs:List Value) (hown:w.ownsRow base e 1 v n xs) (s:ByteArray)
  (hbytes:n+s.size≤70368744177664) (hbase:base≤w.heap.size) :
  ∃ v' w',(Builtin.append_ #[t,u] ty #[v,.string s]).run P w = .ok v' w'∧w'.ownsRow base e 1 v' (n+s.size) (xs++Lib.strCells s)∧Keeps (fun k=>base≤k) w w'∧w.grownBy w' v.ownBlock:=by
 obtain ⟨v',w',hr,h2,h3,_⟩:=Lib.run_append_own_string (P:=P) w base t u ty e i ht hu hi hz hsize hby v n xs hown s (by unfold maxLen;omega) (by omega) hbase;refine ⟨v',w',hr,h2,?_,h3⟩;refine ⟨h3.os,h3.tape,h3.output,h3.size,fun k hk hF=>h3.block k hk (fun e=>hF (hown.lt k e.symm).1),fun k hk=>?_⟩;by_cases hv:v.ownBlock=some k
 ·rcases hown.2 with ⟨rfl,_⟩|⟨g,cap,cur,rfl,hbg,hg,hnc,hcm,hcs,htake⟩
  ·cases hv
  ·simp [Value.ownBlock] at hv
   subst hv;have hxl:xs.length=n:=by simpa using hown.1
   by_cases hroom:n+s.size≤cap
   ·have hcs':cur.size=cap:=by simpa using hcs
    have hr2:=Lib.run_append_room_string (P:=P) w t u ty e i ht hu hi hsize g n cap cur hg s hroom (by omega);rw [hr] at hr2;injection hr2 with _ hw;subst hw;unfold tyOf;rw [setRow_heap w g cur _ e _ hg,hg]
   ·have holds:∀ j u,xs[j]?=some u→w.cell? ((⟨g,0,none⟩:Addr).add j)=some u:=hown.cells (g:=g) rfl
    have hr2:=Lib.run_append_grow_string (P:=P) w t u ty e i (.int .u8 0) ht hu hi hz ⟨g,0,none⟩ n cap xs (by rw [hsize];simpa using hxl) holds s (by omega) (by omega) (by rw [hby];exact growslice_fits (by omega) (by omega));rw [hr] at hr2;injection hr2 with _ hw;subst hw;exact zah w.drew _ g hk
 ·exact zi (h3.block k hk (fun e'=>hv e'.symm))
theorem zga {P:Program} {w:World} {ops:Array Oper} {rest:List Oper} {o:Oper} {a:Act} {Q:Exit→Act→World→Prop} (hgd:o.guard=none) (sl x:Operand) (t u:TypeId)
  (ho:o.op = .call { callee:=.builtin .append,args:=#[sl,x],argTypes:=#[t,u] })
  (base:Nat) (e:TypeId) (i:TypeInfo) (ht:P.underlying t=some (.slice e)) (hu:P.underlying u=some .string) (hi:P.info? e=some i) (hz:i.zero=some (.int .u8 0)) (hsize:i.size=1) (hby:i.bytes=1)
  (v:Value) (n:Nat) (xs:List Value) (hs:a.eval sl=v) (hown:w.ownsRow base e 1 v n xs) (s:ByteArray) (hx:a.eval x = .string s)
  (hbytes:n+s.size≤70368744177664) (hbase:base≤w.heap.size)
  (h:∀ v' w',w'.ownsRow base e 1 v' (n+s.size) (xs++Lib.strCells s)→Keeps (fun k=>base≤k) w w'→w.grownBy w' v.ownBlock→wpList P ops Q rest (a.put o.dst v') w'):wpList P ops Q (o :: rest) a w:=by
 refine wpList_plain hgd fun K hK=>?_;obtain ⟨v',w',hr,h2,h3,h4⟩:=zik (P:=P) w base t u o.type e i ht hu hi hz hsize hby v n xs hown s hbytes hbase;unfold Oper.wp execOp;simp only [ho,resolve,invoke,builtin,Sem.run_bind,Sem.run_pure,Result.andThen_ok,List.map_toArray,List.map_cons,List.map_nil,hs,hx,hr];exact hK _ _ (h v' w' h2 h3 h4)
theorem zhx {P:Program} (w:World) (base:Nat) (t ty e:TypeId) (i:TypeInfo) (ht:P.underlying t=some (.slice e)) (hi:P.info? e=some i) (hz:i.zero=some (.int .u8 0))
  (hsize:i.size=1) (hby:i.bytes=1) (v:Value) (n:Nat) (xs:List Value) (hown:w.ownsRow base e 1 v n xs) (c:UInt8) (hbytes:n+1≤70368744177664) (hbase:base≤w.heap.size) :
  ∃ v' w',(Builtin.append_ #[t,t] ty #[v,.slice (some ⟨w.heap.size,0,none⟩) 1 1]).run P (w.alloc (.cells #[.int .u8 c.toNat] e)) = .ok v' w'∧w'.ownsRow base e 1 v' (n+1) (xs++[.int .u8 c.toNat])∧Keeps (fun k=>base≤k) w w'∧w.grownBy w' v.ownBlock:=by
 have hnews:∀ (j:Nat) u,[Value.int .u8 c.toNat][j]?=some u→(w.alloc (.cells #[.int .u8 c.toNat] e)).cell? ((⟨w.heap.size,0,none⟩:Addr).add j)=some u:=by
  intro j u hj
  match j,hj with
  | 0,hj=>simp at hj;subst hj;simp [Addr.add]
 have hone:∀ u∈[Value.int .u8 c.toNat],u.oneCell'=true:=by intro u hu;simp at hu;subst hu;rfl
 have hsz:(w.alloc (.cells #[.int .u8 (c.toNat:Int)] e)).heap.size=w.heap.size+1:=by simp
 obtain ⟨v',w',hr,h2,h3,_⟩:=run_append_own (P:=P) (w.alloc (.cells #[.int .u8 c.toNat] e)) base t ty e i (.int .u8 0) 1 1 ht hi hz hsize hby rfl (by decide) v n xs (hown.alloc _) ⟨w.heap.size,0,none⟩ 1 1 [.int .u8 c.toNat] rfl hnews hone (by unfold maxLen;omega) (by omega) (by omega);have hblk:∀ k,k<w.heap.size→v.ownBlock≠some k→w'.heap[k]?=w.heap[k]?:=fun k hk hne=>(h3.block k (by omega) (fun e=>hne e.symm)).trans (zag w _ k hk);refine ⟨v',w',hr,h2,?_,⟨h3.os,h3.tape,h3.output,by have:=h3.size;omega,fun k hk hne=>hblk k hk (fun e=>hne e.symm)⟩⟩;refine ⟨h3.os,h3.tape,h3.output,by have:=h3.size;omega,fun k hk hF=>hblk k hk (fun e=>hF (hown.lt k e).1),fun k hk=>?_⟩;by_cases hv:v.ownBlock=some k
 ·rcases hown.2 with ⟨rfl,_⟩|⟨g,cap,cur,rfl,hbg,hg,hnc,hcm,hcs,htake⟩
  ·cases hv
  ·simp [Value.ownBlock] at hv
   subst hv;have hxl:xs.length=n:=by simpa using hown.1
   have hg2:(w.alloc (.cells #[.int .u8 (c.toNat:Int)] e)).heap[g]?=some (.cells cur e (0,0)):=(zag w _ g hk).trans hg;have ht1:tyOf w g=some e:=by unfold tyOf;rw [hg]
   rw [ht1];by_cases hroom:n+1≤cap
   ·have hcs':cur.size=cap:=by simpa using hcs
    have hr2:=run_append_room (P:=P) (w.alloc (.cells #[.int .u8 c.toNat] e)) t ty e i ht hi g n cap cur hg2 ⟨w.heap.size,0,none⟩ 1 1 [.int .u8 c.toNat] (by rw [hsize];rfl) hnews hone hroom (by rw [hsize];simp;omega);rw [hr] at hr2;injection hr2 with _ hw;subst hw;unfold tyOf;rw [setRow_heap _ g cur _ e _ hg2]
   ·have holds:∀ j u,xs[j]?=some u→(w.alloc (.cells #[.int .u8 (c.toNat:Int)] e)).cell? ((⟨g,0,none⟩:Addr).add j)=some u:=(hown.alloc _).cells (g:=g) rfl
    have hr2:=run_append_grow (P:=P) (w.alloc (.cells #[.int .u8 c.toNat] e)) t ty e i (.int .u8 0) ht hi hz ⟨g,0,none⟩ n cap xs (by rw [hsize];omega) holds ⟨w.heap.size,0,none⟩ 1 1 [.int .u8 c.toNat] (by rw [hsize];rfl) hnews (by omega) (by omega) (by rw [hby];exact growslice_fits (by omega) (by omega));rw [hr] at hr2;injection hr2 with _ hw;subst hw;rw [zah (w.alloc (.cells #[.int .u8 (c.toNat:Int)] e)).drew _ g (by show g<(w.alloc _).heap.size;omega)];exact (zah w _ g hk).trans ht1
 ·exact zi (hblk k hk hv)
theorem zfn {P:Program} {w:World} {ops:Array Oper} {rest:List Oper} {o:Oper} {a:Act} {Q:Exit→Act→World→Prop} (hgd:o.guard=none) (sl x:Operand) (t:TypeId)
  (ho:o.op = .call { callee:=.builtin .append,args:=#[sl,x],argTypes:=#[t,t] })
  (base:Nat) (e:TypeId) (i:TypeInfo) (ht:P.underlying t=some (.slice e)) (hi:P.info? e=some i) (hz:i.zero=some (.int .u8 0)) (hsize:i.size=1) (hby:i.bytes=1)
  (v:Value) (n:Nat) (xs:List Value) (hs:a.eval sl=v) (hown:w.ownsRow base e 1 v n xs) (c:UInt8) (W:World) (hW:W=w.alloc (.cells #[.int .u8 c.toNat] e)) (hx:a.eval x = .slice (some ⟨w.heap.size,0,none⟩) 1 1)
  (hbytes:n+1≤70368744177664) (hbase:base≤w.heap.size)
  (h:∀ v' w',w'.ownsRow base e 1 v' (n+1) (xs++[.int .u8 c.toNat])→Keeps (fun k=>base≤k) w w'→w.grownBy w' v.ownBlock→wpList P ops Q rest (a.put o.dst v') w'):wpList P ops Q (o :: rest) a W:=by
 subst hW;refine wpList_plain hgd fun K hK=>?_;obtain ⟨v',w',hr,h2,h3,h4⟩:=zhx (P:=P) w base t o.type e i ht hi hz hsize hby v n xs hown c hbytes hbase;unfold Oper.wp execOp;simp only [ho,resolve,invoke,builtin,Sem.run_bind,Sem.run_pure,Result.andThen_ok,List.map_toArray,List.map_cons,List.map_nil,hs,hx,hr];exact hK _ _ (h v' w' h2 h3 h4)
theorem Bld.store {w w2:World} {b R:Nat} {v v':Value} {l l':List UInt8} (h:Bld w b R v l) (hc:w.cell? ⟨b,0,none⟩=some (.pointer (some ⟨b,0,none⟩))) (ho:w2.ownsRow R 5 1 v' l'.length (Lib.byteCells l')) (hg:w.grownBy w2 v.ownBlock) :
  w2.cell? ⟨b,0,none⟩=some (.pointer (some ⟨b,0,none⟩))∧w2.cell? ⟨b,1,none⟩=some v∧w2.frozen? ⟨b,1,none⟩=false∧Bld (w2.setCell ⟨b,1,none⟩ v') b R v' l':=by
 have hb:w2.heap[b]?=w.heap[b]?:=hg.block b h.lt (fun e=>h.ne e.symm);obtain ⟨p,hp,hh⟩:=h.at_;have hh2:=hb.trans hh
 have hp2:p = .pointer (some ⟨b,0,none⟩):=by
  rw [Lib.cell_of_heap hh] at hc
  simpa using hc
 subst hp2;have hne:v'.ownBlock≠some b:=Lib.ownBlock_ne ho hh2 (by decide);refine ⟨by rw [Lib.cell_of_heap hh2];rfl,by rw [Lib.cell_of_heap hh2];rfl,Lib.frozen_of_heap hh2 1,⟨_,.inr rfl,?_⟩,?_,hne⟩
 ·simp [World.setCell,Array.getElem?_modify,hh2]
 ·exact ho.kept (row:=some b) ⟨rfl,rfl,rfl,by simp [World.setCell],fun k _ hk=>Below.heap_setCell _ _ _ _ (fun e=>hk (by simp [e]))⟩ (Or.inr hne)
set_option maxRecDepth 100000 in
set_option maxHeartbeats 2000000 in
theorem wstr_any {w:World} {b R:Nat} {v:Value} {l s:List UInt8} (h:Bld w b R v l) (hlen:l.length+s.length≤70368744177664) (hR:R≤w.heap.size) :
  Calls Tryz.prog 42 #[.pointer (some ⟨b,0,none⟩),.string (B s)] w fun e w'=>e = .returned (.tuple #[.int .i64 s.length,.nilIface])∧∃ v',Bld w' b R v' (l++s)∧Keeps (fun k=>k=b∨R≤k) w w':=by
 obtain ⟨i0,hi,hz0,hz1,hz2⟩:=info_parts zd0;have HC:=Lib.hid (zk8 h);clear h;go_enter Tryz.func42,Tryz.ntmps42
 go_wp2_with (go_at_call 70;refine HC.out.mono ?_)
 rintro e w1 ⟨rfl,h1,c0,hk1⟩;have HK1:=Lib.hid hk1;have hR1:R≤w1.heap.size:=Nat.le_trans hR hk1.size;obtain ⟨_,c1,f0,f1,sh⟩:=h1.c;have H1:=Lib.hid h1;clear h1 hk1 sh
 go_wp2_with (at_builtin;refine zga rfl (.tmp 12) (.tmp 13) 42 9 rfl R 5 i0 Tryz.underlying42 Tryz.underlying9 hi hz0 hz1 hz2 _ _ _ rfl H1.out.row (B s) rfl (by rw [B_size];omega) hR1 ?_)
 intro v' w2 hown' hk2 hgrow;rw [zm0,zda,← List.flatMap_append,← zda,← List.length_append] at hown';obtain ⟨d0,d1,e1,hB⟩:=H1.out.store c0 hown' hgrow;have HB:=Lib.hid hB;have HK2:=Lib.hid hk2
 obtain ⟨ao,n',cap,rfl⟩:∃ ao n' cap,v' = .slice ao n' cap:=by
  rcases hown'.2 with ⟨hv,_⟩|⟨g,cap,cur,hv,_⟩
  ·exact ⟨_,_,_,hv⟩
  ·exact ⟨_,_,_,hv⟩
 clear hB hk2 hown' hgrow;go_wp2;go_ret2;refine ⟨rfl,_,HB.out,?_⟩;exact ((HK1.out.mono fun k _ e=>.inl e).trans (HK2.out.mono fun k _ e=>.inr e)).trans (Keeps.setCell (F:=fun k=>k=b∨R≤k) w2 (a:=⟨b,1,none⟩) (.inl rfl) _)
set_option maxRecDepth 100000 in
theorem zk9 {w:World} {b R:Nat} {v:Value} {l:List UInt8} (h:Bld w b R v l) {B0:Nat} (h1:B0≤b) (h2:B0≤R) :
  Calls Tryz.prog 43 #[.pointer (some ⟨b,0,none⟩)] w fun e w'=>e = .returned (.string (B l))∧Below B0 w w' :=
 Tryz.Builder_String_any B0 b l w (h.is h1 h2) (by have:=h.lt;omega)
end Go.Proofs.YtfmecpnokefokaaGreatDoor.Bd
namespace Go.Proofs.YtfmecpnokefokaaGreatDoor.Lx
open Go.ChangeShapes Go.WideShapes Go.Deep Go.RowKit Cls
set_option maxRecDepth 100000
open Go.ChangeShapes Go.WideShapes Go.Deep Go.RowKit Cls Md
structure SFr (w D:World):Prop where
 bx:BoxN D w.heap.size [.int .i64 0,.slice none 0 0,.bool false]
 tk:BoxN D (w.heap.size+1) [.int .i64 0,.int .i64 0,.int .i64 0,.bool false]
 lx:BoxN D (w.heap.size+2) [.int .i64 0,.slice none 0 0,.bool false]
 be:Below w.heap.size w D
theorem SFr.below {w D D':World} (h:SFr w D) (hb:Below D.heap.size D D'):SFr w D':=⟨h.bx.below hb,h.tk.below hb,h.lx.below hb,zb h.be hb⟩
theorem SFr.new (w:World) (t1 t2 t3:TypeId):SFr w (((w.alloc (.cells #[.int .i64 0,.slice none 0 0,.bool false] t1)).alloc (.cells #[.int .i64 0,.int .i64 0,.int .i64 0,.bool false] t2)).alloc (.cells #[.int .i64 0,.slice none 0 0,.bool false] t3)):=by
 have h1:=BoxN.new w [.int .i64 0,.slice none 0 0,.bool false] t1;have h2:=BoxN.new (w.alloc (.cells #[.int .i64 0,.slice none 0 0,.bool false] t1)) [.int .i64 0,.int .i64 0,.int .i64 0,.bool false] t2;have h3:=BoxN.new ((w.alloc (.cells #[.int .i64 0,.slice none 0 0,.bool false] t1)).alloc (.cells #[.int .i64 0,.int .i64 0,.int .i64 0,.bool false] t2)) [.int .i64 0,.slice none 0 0,.bool false] t3;rw [show (w.alloc (.cells #[.int .i64 0,.slice none 0 0,.bool false] t1)).heap.size=w.heap.size+1 by simp] at h2;rw [show ((w.alloc (.cells #[.int .i64 0,.slice none 0 0,.bool false] t1)).alloc (.cells #[.int .i64 0,.int .i64 0,.int .i64 0,.bool false] t2)).heap.size=w.heap.size+2 by simp] at h3;exact ⟨(h1.below (za (Below.refl _ _) _)).below (za (Below.refl _ _) _),h2.below (za (Below.refl _ _) _),h3,zzb⟩
end Go.Proofs.YtfmecpnokefokaaGreatDoor.Lx
namespace Go.Proofs.YtfmecpnokefokaaGreatDoor.Quo
open Go.Lib
def dblB (b:UInt8):Bool:=b == 36 || b == 96 || b == 34 || b == 92
open Cls
def escB (b:UInt8):List UInt8:=if b=10 then [39,10,39] else if safeB b=true then [b] else [92,b]
def riskB (s:List UInt8):Bool:=resB s || (s != [] && s.all digitB)
def headL (s:List UInt8):List UInt8:=if (riskB s && safeB (s.getD 0 0))=true then [92] else []
def plnK (s:List UInt8) (k:Nat):List UInt8:=if k=0 then [] else headL s++(s.take k).flatMap escB
def dblE (b:UInt8):List UInt8:=if dblB b=true then [92,b] else [b]
open Go.ChangeShapes Go.WideShapes Go.Deep Go.RowKit Cls Bd Pat
set_option maxRecDepth 100000
def PlnI (s:List UInt8) (w:World) (i:Value) (wr:World):Prop:=∃ (k:Nat) (v:Value),k≤s.length∧i = .int .i64 k∧Hid (Bld wr w.heap.size w.heap.size v (plnK s k))∧Hid (Below w.heap.size w wr)
theorem PlnI.mk {s:List UInt8} {w wr:World} {i:Value} {v:Value} {l:List UInt8} (k:Nat) (h1:k≤s.length) (h2:i = .int .i64 k) (he:plnK s k=l) (h3:Bld wr w.heap.size w.heap.size v l) (h4:Below w.heap.size w wr):PlnI s w i wr:=⟨k,v,h1,h2,by rw [he];exact h3,h4⟩
end Go.Proofs.YtfmecpnokefokaaGreatDoor.Quo
namespace Go.Proofs.YtfmecpnokefokaaGreatDoor.Lx
open Cls Md Quo
def Is (x:St) (l:List UInt8):Prop:=x.l.map (·.1)=l
def One (x:St) (p:Nat) (b:UInt8) (l:List UInt8):Prop:=stopB x b=false∧Is (Md.step x b.toNat p) l
def topB (n:Int):Bool := !(n == 92 || n == 39 || n == 34 || n == 96 || n == 36 || n == 35 || n == 40 || n == 41) && !(cls n == 1 || cls n == 2 || cls n == 3)
end Go.Proofs.YtfmecpnokefokaaGreatDoor.Lx
namespace Go.Proofs.YtfmecpnokefokaaGreatDoor.Mc
open Go.ChangeShapes Go.WideShapes Go.Deep Go.RowKit Cls Md
set_option maxRecDepth 100000
structure RunM (w:World) (mb:Nat) (W:World) (x:St) (n:Nat):Prop where
 ex:∃ v,Mach W w.heap.size mb v x n
 be:Below w.heap.size w W
 ge:w.heap.size≤mb
theorem RunM.step {w W W':World} {mb n':Nat} {v v':Value} {y:St} (hb:Below w.heap.size w W) (hg:w.heap.size≤mb) (hs:MStep w.heap.size mb W v W' v') (hm:Mach W' w.heap.size mb v' y n'):RunM w mb W' y n' :=
 ⟨⟨v',hm⟩,ze hb hs.k (fun k q=>by rcases q with q|q <;> omega),hg⟩
set_option maxHeartbeats 4000000 in
theorem mrun_any (s:List UInt8) (w:World) (hs:s.length≤536870912):Calls Tryz.prog 145 #[.string (B s)] w fun e w'=>∃ v',e = .returned (.tuple #[v',.bool (run s).f])∧Own w' w.heap.size 2 v' (run s).l.length ((run s).l.reverse.flatMap frC)∧Below w.heap.size w w':=by
 have HN:=Lib.hid (zk6 w);have HRL:=Lib.hid (zb1 s);go_enter Tryz.func145,Tryz.ntmps145
 go_wp2_with (go_at_call 107;(refine HN.out.mono ?_);rintro e w1 ⟨mb,v1,rfl,hg1,hm1,hb1⟩;have HI:=Lib.hid (show RunM w mb w1 (run (s.take 0)) 0 from ⟨⟨v1,hm1⟩,hb1,hg1⟩);clear hg1 hm1 hb1)
 go_loopw [5,9] (fun _ i wr=>∃ k:Nat,k≤s.length∧i = .int .i64 k∧Hid (RunM w mb wr (run (s.take k)) k)) (fun _ i _=>s.length - (intOf i).toNat)
 case atStart=>exact ⟨0,by omega,rfl,HI⟩
 case round =>
  clear HI HN;obtain ⟨k,hk,rfl,HI⟩:=hrel;by_cases hlt:k<s.length
  ·have h0:(0:Int)≤(k:Int):=by omega
   have h1:(k:Int)<(s.length:Int):=by omega
   obtain ⟨v2,hm2⟩:=HI.out.ex;have hrl:=zb1 (s.take k);rw [List.length_take] at hrl;have HST:=Lib.hid (zjc hm2 (wf_run (s.take k)) (by omega) (by omega) HI.out.be.size s[k]);rw [← zab hlt] at HST;clear hm2 hrl
   go_wp2_with (go_at_call 108;(refine HST.out.mono ?_);rintro e w3 ⟨rfl,v3,hs3,hm3⟩;have HI3:=Lib.hid (RunM.step HI.out.be HI.out.ge hs3 hm3);clear hs3 hm3)
   go_roundw
   case rel=>exact ⟨k+1,by omega,by go_num,HI3⟩
   case measure=>simp [intOf];omega
  ·have hk':k=s.length:=by omega
   subst hk';rw [List.take_length] at HI;obtain ⟨v2,hm2⟩:=HI.out.ex;have hl2:(run s).l.length≤1073741824:=by have:=HRL.out;omega
   have HFS:=Lib.hid (zgi hm2 hl2);have HFR:=Lib.hid fun W (h:Below wr.heap.size wr W)=>zog (hm2.below h) hl2;clear hm2 hl2
   go_wp2_with (first
    | (go_at_call 110;(refine HFS.out.mono ?_);rintro e w3 ⟨v3,rfl,ho3,hb3⟩;have HO3:=Lib.hid ho3;have HB3:=Lib.hid hb3;clear ho3 hb3)
    | (go_at_call 167;(refine (HFR.out _ HB3.out).mono ?_);rintro e w4 ⟨rfl,rfl⟩))
   refine bodyPost_ret (v:=.tuple #[v3,.bool (run s).f]) (by simp [results,Tryz.results145,go_sem]) rfl ?_;exact ⟨_,rfl,HO3.out.mono HI.out.be.size,zb HI.out.be HB3.out⟩
end Go.Proofs.YtfmecpnokefokaaGreatDoor.Mc
