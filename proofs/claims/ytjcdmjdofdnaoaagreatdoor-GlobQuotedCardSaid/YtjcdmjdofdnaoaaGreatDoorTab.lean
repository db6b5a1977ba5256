/-
  The walks of layer 19 (tables): New, find, Get. Conditions: names of at most 2^30 bytes, at most 2^20 entries.
-/
import Derived.Test.YtjcdmjdofdnaoaaGreatDoorTree4
import Derived.Test.YtjcdmjdofdnaoaaGreatDoorFil3
import Derived.Test.YtjcdmjdofdnaoaaGreatDoorHist
import Derived.Sort.Grow
import Derived.Sort.EncStr
import Derived.Shelf.Strings.Builder1
import Derived.Shelf.Strings.Builder2
import Derived.Shelf.Strings.OnBuilder
import Derived.Shelf.Small.Bits
import Derived.Shelf.Small.Strs
import Derived.Shelf.Small.Wraps
import Derived.Shelf.Strings.BuilderF
import Derived.Shelf.Strings.BuilderK
import Derived.Shelf.Utf8.RuneCount
import Derived.Shelf.Strings.Builder2Cap
import Derived.Shelf.Strconv.Itoa0
import Derived.Shelf.Strconv.Itoa1
import Derived.Shelf.LaysM
import Derived.Shelf.Strconv.Itoa2
import Derived.Shelf.Strconv.Itoa3
import Derived.Shelf.Strings.Search1
import Derived.Shelf.Strings.Search2
import Derived.Shelf.Strings.Search3
import Derived.Shelf.Strings.Cut
import Derived.Shelf.Strings.Count
import Derived.Shelf.Strings.Shaped
import Derived.Shelf.Sort.Plain
import Derived.Shelf.Strings.LastIndex
import Derived.Shelf.Strings.Prefix
import Derived.Shelf.Strings.Split
import Derived.Shelf.Strings.Replace
import Derived.Shelf.Strings.SplitShaped
import Derived.Shelf.Unicode.Decode
import Derived.Shelf.Strings.RuneCount
import Derived.Shelf.Unicode.DecodeSlow
import Derived.Shelf.Unicode.DecodeAny
import Derived.Shelf.Strings.BuilderCap
import Derived.Shelf.Slices.CompactS
import Derived.Shelf.Slices.Cells
import Derived.Shelf.Slices.In.SortNone
import Derived.Ground.PaProg
import Derived.Shelf.Path.Small
import Derived.Test.YtjcdmjdofdnaoaaGreatDoorProg
import Derived.Sort.KeysCollected
import Derived.Test.YtjcdmjdofdnaoaaGreatDoorRegA
import Derived.Test.YtjcdmjdofdnaoaaGreatDoorShelfB
import Derived.Test.YtjcdmjdofdnaoaaGreatDoorQuo1
set_option linter.unusedSimpArgs false
set_option linter.unusedVariables false
namespace Go.Proofs.YtjcdmjdofdnaoaaGreatDoor.Fil
open Go.ChangeShapes Go.WideShapes Go.Deep Go.RowKit Pat
set_option maxRecDepth 100000
theorem _root_.Go.Proofs.YtjcdmjdofdnaoaaGreatDoor.j7wb {p:Prop} (h:p):Go.RowKit.Hid p:=Go.Lib.hid h
end Go.Proofs.YtjcdmjdofdnaoaaGreatDoor.Fil
namespace Go.Proofs.YtjcdmjdofdnaoaaGreatDoor
open Go.ChangeShapes Go.WideShapes Go.Deep Go.RowKit
theorem tyOf_map (w:World) (b:Nat) (f:Array Value→Array Value) (k:Nat):tyOf (Go.Sort.mapBlock w b f) k=tyOf w k:=by
 by_cases h:b=k
 ·subst h
  unfold tyOf Go.Sort.mapBlock;simp only [Array.getElem?_modify,if_true]
  cases hh:w.heap[b]? with
  | none=>simp
  | some o=>cases o <;> simp [Go.Sort.onCells]
 ·exact zf (by unfold Go.Sort.mapBlock;simp [Array.getElem?_modify,h])
theorem zex {α : Type} [Inhabited α] (enc : α → Value) (w:World) (g off m:Nat) (d:Array α) (os:Array Obj):Keeps (fun k=>k=g) w (Go.Sort.grow (Go.Sort.putRow enc (Go.Sort.ahead w m) g off d) os):=by
 have hb:∀ k,k<w.heap.size→(Go.Sort.grow (Go.Sort.putRow enc (Go.Sort.ahead w m) g off d) os).heap[k]?=(Go.Sort.putRow enc (Go.Sort.ahead w m) g off d).heap[k]?:=fun k hk=>Go.Sort.heap_grow_old _ _ (by simpa [Go.Sort.ahead] using hk);refine ⟨rfl,rfl,rfl,by simp [Go.Sort.ahead,Go.Sort.grow],fun k hk hne=>?_,fun k hk=>?_⟩
 ·rw [hb k hk]
  have:¬ g=k:=fun e=>hne e.symm;simp [Go.Sort.putRow,Go.Sort.mapBlock,Go.Sort.ahead,Array.getElem?_modify,this]
 ·rw [zf (hb k hk)]
  exact tyOf_map _ _ _ _
theorem zey {α : Type} [Inhabited α] (enc : α → Value) {w:World} {b0 sz g off n c:Nat} {d0:Array α} (h:Own w b0 sz (.slice (some ⟨g,off,none⟩) n c) n (d0.toList.map enc)) (hn:0<n):Go.Sort.Holds enc w g off d0∧g<w.heap.size∧b0≤g:=by
 have hl:=h.1;rcases h.2 with ⟨h0,_⟩|⟨g',off',c',e,h1,h2,h3,h4,h5,h6⟩
 ·omega
 ·simp only [Value.slice.injEq,Option.some.injEq,Addr.mk.injEq] at e
  obtain ⟨⟨rfl,rfl,_⟩,_,rfl⟩:=e;refine ⟨fun j hj=>⟨h6 j _ ?_,(h5 j ?_).2⟩,h2,h1⟩
  ·rw [List.getElem?_map,Array.getElem?_toList,Array.getElem?_eq_getElem hj,getElem!_pos d0 j hj];rfl
  ·simp at hl
   have:=Nat.mul_le_mul_right sz h3;omega
theorem zl3 {α : Type} [Inhabited α] (enc : α → Value) {w:World} {b0 sz g off n c:Nat} {d0 d:Array α} (h:Own w b0 sz (.slice (some ⟨g,off,none⟩) n c) n (d0.toList.map enc)) (hn:0<n) (hd:d.size=d0.size) (m:Nat) (os:Array Obj) :
  Own (Go.Sort.grow (Go.Sort.putRow enc (Go.Sort.ahead w m) g off d) os) b0 sz (.slice (some ⟨g,off,none⟩) n c) n (d.toList.map enc):=by
 obtain ⟨hH,hlt,hb⟩:=zey enc h hn;have hl:=h.1;rcases h.2 with ⟨h0,_⟩|⟨g',off',c',e,h1,h2,h3,h4,h5,h6⟩
 ·omega
 ·simp only [Value.slice.injEq,Option.some.injEq,Addr.mk.injEq] at e
  obtain ⟨⟨rfl,rfl,_⟩,_,rfl⟩:=e;have hsz:g<(Go.Sort.putRow enc (Go.Sort.ahead w m) g off d).heap.size:=by simpa [Go.Sort.ahead] using hlt
  refine ⟨by rw [← hl];simp [hd],.inr ⟨g,off,c,rfl,hb,by have:=(zex enc w g off m d os).size;omega,h3,h4,fun j hj=>⟨?_,?_⟩,fun j u hu=>?_⟩⟩
  ·rw [Go.Sort.cell?_grow _ _ _ hsz]
   by_cases hj2:j<d.size
   ·rw [Go.Sort.cell?_putRow enc (Go.Sort.ahead w m) g off d0 d hH hd j hj2];rfl
   ·rw [Go.Sort.cell?_putRow_other enc (Go.Sort.ahead w m) g off d ⟨g,off+j,none⟩ (.inr (.inr (by show off+d.size≤off+j;omega)))]
    exact (h5 j hj).1
  ·rw [Go.Sort.frozen?_grow _ _ _ hsz,Go.Sort.frozen?_putRow]
   exact (h5 j hj).2
  ·rw [List.getElem?_map,Array.getElem?_toList] at hu
   have hj2:j<d.size:=by
    rcases Nat.lt_or_ge j d.size with q|q
    ·exact q
    ·rw [Array.getElem?_eq_none q] at hu;cases hu
   rw [Array.getElem?_eq_getElem hj2] at hu;rw [Go.Sort.cell?_grow _ _ _ hsz,Go.Sort.cell?_putRow enc (Go.Sort.ahead w m) g off d0 d hH hd j hj2,getElem!_pos d j hj2];exact hu
theorem zd6 (xs:List (List UInt8)):xs.flatMap strC=xs.toArray.toList.map Go.Proofs.encStr:=by
 induction xs with
 | nil=>rfl
 | cons a r ih=>rw [List.flatMap_cons,ih];simp [strC,Go.Proofs.encStr,B]
open Go.Shelf
def Tryz.lays190_ren:Go.Shelf.Ren:=⟨fun|190=>31|125=>54|258=>53|128=>88|129=>89|302=>79|303=>80|304=>81|305=>82|306=>83|307=>84|308=>85|309=>86|310=>87|333=>114|329=>115|330=>116|334=>117|335=>118|336=>119|344=>139|n=>n,fun|31=>29|9=>9|3=>3|46=>120|0=>0|51=>164|53=>101|4=>4|183=>158|182=>157|131=>131|5=>5|218=>183|222=>187|228=>204|229=>205|n=>n,fun|n=>n⟩
theorem Tryz.lays190:Go.Proofs.Lays.n190 Tryz.prog Tryz.lays190_ren:={
 mixed:=by kernel_rfl
 f125:=Tryz.func54.trans (congrArg some (by kernel_rfl))
 f128:=Tryz.func88.trans (congrArg some (by kernel_rfl))
 f129:=Tryz.func89.trans (congrArg some (by kernel_rfl))
 f190:=Tryz.func31.trans (congrArg some (by kernel_rfl))
 f258:=Tryz.func53.trans (congrArg some (by kernel_rfl))
 f302:=Tryz.func79.trans (congrArg some (by kernel_rfl))
 f303:=Tryz.func80.trans (congrArg some (by kernel_rfl))
 f304:=Tryz.func81.trans (congrArg some (by kernel_rfl))
 f305:=Tryz.func82.trans (congrArg some (by kernel_rfl))
 f306:=Tryz.func83.trans (congrArg some (by kernel_rfl))
 f307:=Tryz.func84.trans (congrArg some (by kernel_rfl))
 f308:=Tryz.func85.trans (congrArg some (by kernel_rfl))
 f309:=Tryz.func86.trans (congrArg some (by kernel_rfl))
 f310:=Tryz.func87.trans (congrArg some (by kernel_rfl))
 f329:=Tryz.func115.trans (congrArg some (by kernel_rfl))
 f330:=Tryz.func116.trans (congrArg some (by kernel_rfl))
 f333:=Tryz.func114.trans (congrArg some (by kernel_rfl))
 f334:=Tryz.func117.trans (congrArg some (by kernel_rfl))
 f335:=Tryz.func118.trans (congrArg some (by kernel_rfl))
 f336:=Tryz.func119.trans (congrArg some (by kernel_rfl))
 f344:=Tryz.func139.trans (congrArg some (by kernel_rfl))
 t0:=Tryz.underlying0
 a0:=Tryz.isAgg0
 z0:=Tryz.sizeOf0
 v0:=Tryz.zeroValue0
 t3:=Tryz.underlying3
 a3:=Tryz.isAgg3
 z3:=Tryz.sizeOf3
 v3:=Tryz.zeroValue3
 t4:=Tryz.underlying4
 a4:=Tryz.isAgg4
 z4:=Tryz.sizeOf4
 v4:=Tryz.zeroValue4
 t5:=Tryz.underlying5
 a5:=Tryz.isAgg5
 z5:=Tryz.sizeOf5
 v5:=Tryz.zeroValue5
 t9:=Tryz.underlying9
 a9:=Tryz.isAgg9
 z9:=Tryz.sizeOf9
 v9:=Tryz.zeroValue9
 t31:=Tryz.underlying29
 a31:=Tryz.isAgg29
 z31:=Tryz.sizeOf29
 v31:=Tryz.zeroValue29
 t46:=Tryz.underlying120
 a46:=Tryz.isAgg120
 z46:=Tryz.sizeOf120
 v46:=Tryz.zeroValue120
 t51:=Tryz.underlying164
 a51:=Tryz.isAgg164
 z51:=Tryz.sizeOf164
 v51:=Tryz.zeroValue164
 t53:=Tryz.underlying101
 a53:=Tryz.isAgg101
 z53:=Tryz.sizeOf101
 v53:=Tryz.zeroValue101
 t131:=Tryz.underlying131
 a131:=Tryz.isAgg131
 z131:=Tryz.sizeOf131
 v131:=Tryz.zeroValue131
 t182:=Tryz.underlying157
 a182:=Tryz.isAgg157
 z182:=Tryz.sizeOf157
 v182:=Tryz.zeroValue157
 t183:=Tryz.underlying158
 a183:=Tryz.isAgg158
 z183:=Tryz.sizeOf158
 v183:=Tryz.zeroValue158
 t218:=Tryz.underlying183
 a218:=Tryz.isAgg183
 z218:=Tryz.sizeOf183
 v218:=Tryz.zeroValue183
 t222:=Tryz.underlying187
 a222:=Tryz.isAgg187
 z222:=Tryz.sizeOf187
 v222:=Tryz.zeroValue187
 t228:=Tryz.underlying204
 a228:=Tryz.isAgg204
 z228:=Tryz.sizeOf204
 v228:=Tryz.zeroValue204
 t229:=Tryz.underlying205
 a229:=Tryz.isAgg205
 z229:=Tryz.sizeOf205
 v229:=Tryz.zeroValue205 }
open Go.Sort Go.RowKit in
theorem Tryz.slices_Sort_string (blk off cap:Nat) (ss:List (List UInt8)) (w:World) (hH:Holds encStr w blk off ss.toArray) (hblk:blk<w.heap.size) (hsz:ss.length<4611686018427387904) :
  Calls Tryz.prog 31 #[.slice (some ⟨blk,off,none⟩) ss.length cap] w fun e w' =>
   e = .returned (.tuple #[])∧∃ n os,w'=Go.Sort.grow (Go.Sort.putRow encStr (Sort.ahead w n) blk off (ss.mergeSort fun x y=>decide (x≤y)).toArray) os:=Any.slices_Sort_string Tryz.lays190 blk off cap ss w hH hblk hsz
def Tryz.lays194_ren:Go.Shelf.Ren:=⟨fun|194=>17|n=>n,fun|31=>29|9=>9|3=>3|4=>4|0=>0|n=>n,fun|n=>n⟩
theorem Tryz.lays194:Go.Proofs.Lays.n194 Tryz.prog Tryz.lays194_ren:={
 mixed:=by kernel_rfl
 f194:=Tryz.func17.trans (congrArg some (by kernel_rfl))
 t0:=Tryz.underlying0
 a0:=Tryz.isAgg0
 z0:=Tryz.sizeOf0
 v0:=Tryz.zeroValue0
 t3:=Tryz.underlying3
 a3:=Tryz.isAgg3
 z3:=Tryz.sizeOf3
 v3:=Tryz.zeroValue3
 t4:=Tryz.underlying4
 a4:=Tryz.isAgg4
 z4:=Tryz.sizeOf4
 v4:=Tryz.zeroValue4
 t9:=Tryz.underlying9
 a9:=Tryz.isAgg9
 z9:=Tryz.sizeOf9
 v9:=Tryz.zeroValue9
 t31:=Tryz.underlying29
 a31:=Tryz.isAgg29
 z31:=Tryz.sizeOf29
 v31:=Tryz.zeroValue29 }
open Go.RowKit Go.Lib Go.Sort in
theorem Tryz.slices_Compact_string (blk off cap:Nat) (zs:List (List UInt8)) (w:World) (hH:Holds encStr w blk off zs.toArray) (hsz:zs.length≤9223372036854775807) (hcap:zs.length≤cap) :
  Calls Tryz.prog 17 #[.slice (some ⟨blk,off,none⟩) zs.length cap] w fun e w'=>e = .returned (.slice (some ⟨blk,off,none⟩) (Lib.compact zs).length cap)∧∃ q,w'=putRow encStr (Sort.ahead w q) blk off (Lib.compact zs++List.replicate (zs.length - (Lib.compact zs).length) []).toArray:=Any.slices_Compact_string Tryz.lays194 blk off cap zs w hH hsz hcap
open Go.RowKit Go.Sort in
theorem Tryz.slices_Sort_string_none (p:Option Addr) (cap:Nat) (w:World) :
  Calls Tryz.prog 31 #[.slice p 0 cap] w fun e w'=>e = .returned (.tuple #[])∧w'=w:=Any.slices_Sort_string_none Tryz.lays190 p cap w
end Go.Proofs.YtjcdmjdofdnaoaaGreatDoor
namespace Go.Proofs.YtjcdmjdofdnaoaaGreatDoor.Fil
open Go.ChangeShapes Go.WideShapes Go.Deep Go.RowKit Go.MapKept Go.WideMaps Go.ChangeMaps Pat
set_option maxRecDepth 100000
theorem zj7 (xs:List (List UInt8)) (b0:Nat) (v:Value) (w:World) (h:Own w b0 1 v xs.length (xs.flatMap strC)) (hl:xs.length≤1099511627776) :
  Calls Tryz.prog 31 #[v] w fun e w'=>e = .returned (.tuple #[])∧Own w' b0 1 v xs.length ((xs.mergeSort Go.leB).flatMap strC)∧Keeps (fun k=>v.ownBlock=some k∧b0≤k) w w':=by
 rcases Nat.eq_zero_or_pos xs.length with h0|h0
 ·obtain rfl:=List.eq_nil_of_length_eq_zero h0
  obtain ⟨A,c,rfl,_⟩:=h.form0;refine (Tryz.slices_Sort_string_none A c w).mono ?_;rintro e w' ⟨rfl,rfl⟩;exact ⟨rfl,by simpa using h,Keeps.refl _ _⟩
 ·obtain ⟨g,off,c,rfl,hb,hg,hc,hc2⟩:=h.form' h0
  have h':=h;rw [zd6] at h';obtain ⟨hH,_,_⟩:=zey Go.Proofs.encStr h' h0;refine (Tryz.slices_Sort_string g off c xs w hH hg (by omega)).mono ?_;rintro e w' ⟨rfl,m,os,rfl⟩;refine ⟨rfl,?_,(zex _ _ _ _ _ _ _).mono fun k _ e=>by subst e;exact ⟨rfl,hb⟩⟩;rw [zd6];exact zl3 Go.Proofs.encStr h' h0 (by simp) m os
structure NamI (w:World) (b N:Nat) (D:DataW Unit) (v:Value) (W:World) (left:Lit→Bool) (cnt:Nat) (ss:List (List UInt8)):Prop where
 r:W.ranges Tryz.prog 9 ptrR b w.heap.size N D left cnt
 c:Go.Collected D left ss
 n:ss.length+cnt≤N
 o:Own W w.heap.size 1 v ss.length (ss.flatMap strC)
 f:v.ownBlock≠some w.heap.size
 b:Below w.heap.size w W
theorem zez {F:Nat→Prop} {w w':World} {P:Program} {k:TypeId} {R:Value→Option (DataW Unit×List MemPlace)} {b r n:Nat} {D:DataW Unit} {left:Lit→Bool} {cnt:Nat} (h:w.ranges P k R b r n D left cnt) (hk:Keeps F w w') (hb:¬ F b) (hr:¬ F r):w'.ranges P k R b r n D left cnt:=by
 have h1:=h.owns.lt;have h2:=h.lt;obtain ⟨es,clock,since,seen,c0,hb',F',hs,hD,hr',rest⟩:=h;exact ⟨es,clock,since,seen,c0,(hk.block b h1 hb).trans hb',F',hs,hD,(hk.block r h2 hr).trans hr',rest⟩
theorem invK (key:Value) (kl:Lit) (h:keyOf Tryz.prog 9 key=some kl):∃ a:List UInt8,key = .string (B a):=by obtain ⟨a,h1,_⟩:=zke h;exact ⟨a,h1⟩
theorem invP (v:Value) (y:DataW Unit×List MemPlace) (h:ptrR v=some y):∃ o,v=ptrV o:=by
 unfold ptrR at h
 split at h
 ·exact ⟨none,rfl⟩
 ·rename_i b;exact ⟨some b,rfl⟩
 ·cases h
def NamesP (g:List UInt8→Option Nat) (w:World) (e:Ending) (w':World):Prop:=∃ v ss,e = .returned v∧Own w' w.heap.size 1 v ss.length (ss.flatMap strC)∧Below w.heap.size w w'∧Rise ss∧∀ a,a∈ss ↔ (g a).isSome=true
theorem zp0 {ss:List (List UInt8)} (h:ss.Nodup):Rise (ss.mergeSort Go.leB):=by
 have tr:∀ a b c:List UInt8,Go.leB a b=true→Go.leB b c=true→Go.leB a c=true:=fun a b c h1 h2=>by simp only [Go.leB,decide_eq_true_eq] at *;exact List.le_trans h1 h2
 have tot:∀ a b:List UInt8,(Go.leB a b || Go.leB b a)=true:=fun a b=>by simp only [Go.leB,Bool.or_eq_true,decide_eq_true_eq];exact List.le_total a b
 have hs:=List.pairwise_mergeSort tr tot ss;have hn:(ss.mergeSort Go.leB).Nodup:=(List.mergeSort_perm ss Go.leB).nodup_iff.2 h;exact (hs.and hn).imp fun {a b} q=>zfn (by simpa [Go.leB] using q.1) q.2
set_option maxHeartbeats 3200000 in
theorem zp1 (w:World) (nbk r c:Nat) (g:List UInt8→Option Nat) (hk:KidsAt w r g c) (hc:c≤1099511627776) (hn:nbk<w.heap.size) (hm:w.cell? ⟨nbk,1,none⟩=some (.map (some r))) :
  Calls Tryz.prog 120 #[.pointer (some ⟨nbk,0,none⟩)] w (NamesP g w):=by
 obtain ⟨i0,hi0,hz00,hz01,hz02⟩:=info_parts zci;obtain ⟨D,hD,hsz,hat,hhas,hkeys⟩:=hk.m
 haveI:Old w nbk:=⟨hn⟩
 have hrl:=hk.lt;have HSO:=j7wb zj7;go_enter Tryz.func120,Tryz.ntmps120
 go_wp2_with (at_range;refine wpList_range_own _ rfl _ 72 rfl 9 71 keyedS Tryz.underlying72 ptrR r c D rfl hD ?_;intro w0 hrg0 hg0 hs0)
 go_frame
 rw [hsz] at hrg0
 go_loopw [3] (fun o W=>∃ v left cnt ss,v=o∧NamI w r c D v W left cnt ss) (fun _ W=>W.rangeLeft r w.heap.size)
 case atStart =>
  exact ⟨_,_,_,[],rfl,hrg0,Go.Collected.start D,by simp,Own.nil _ _ _,by simp [Value.ownBlock],((Below.refl _ _).grown hg0 (Nat.le_refl _) (fun j hj=>by cases hj))⟩
 case round =>
  obtain ⟨v,left,cnt,ss,rfl,H⟩:=hrel;have HI:=j7wb H;have hrg:=H.r;have hwz:=H.b.size;have hrz:=H.r.lt;clear H
  go_wp2_with (at_next;refine wpList_next_ranges _ rfl _ rfl 9 keyedS ptrR (fun a=>.string (B a)) ptrV invK invP r w.heap.size c D left cnt rfl hrg ?_ ?_)
  ·intro hc0 hl0
   have HL:=j7wb hl0;clear hl0 hc0
   go_wp2_with (go_at_call 31;refine (HSO.out ss w.heap.size _ _ HI.out.o (by have:=HI.out.n;omega)).mono ?_;rintro e w2 ⟨rfl,ho2,hk2⟩;have HO2:=j7wb ho2;have HK2:=j7wb hk2;clear ho2 hk2)
   go_ret;refine ⟨_,ss.mergeSort Go.leB,rfl,by simpa using HO2.out,ze HI.out.b HK2.out (fun k hk=>hk.2),zp0 HI.out.c.1,fun a=>?_⟩;rw [(List.mergeSort_perm ss Go.leB).mem_iff,HI.out.c.2 a,hhas,HL.out];simp
  ·intro x y kl yd yp w2 cnt2 hkey hlk hv hat2 hrg2 hlt hg2 hs2 hen
   have hkl:kl = .string x:=by
    obtain ⟨a,h1,h2⟩:=zke hkey;simp only [Value.string.injEq] at h1;rw [h2,B_inj h1]
   subst hkl;have hO2:Own w2 w.heap.size 1 v ss.length (ss.flatMap strC):=HI.out.o.kept hg2 (.inl HI.out.f);have hB2:Below w.heap.size w w2:=HI.out.b.grown hg2 (Nat.le_trans (Nat.le_refl _) hwz) (fun j hj=>by cases hj;exact Nat.le_refl _);have hC2:=HI.out.c.step hlk hat2;have hz2:=hB2.size;have HR2:=j7wb hrg2;have HO2:=j7wb hO2;have HB2:=j7wb hB2;have HC2:=j7wb hC2;have hn2:=HI.out.n;clear hs2 hO2 hB2 hC2 hrg hrg2 hkey hlk hv hat2 hg2
   go_wp2_with ((at_builtin;refine zm _ rfl (.tmp 14) (.tmp 16) _ rfl w.heap.size 9 i0 _ 1 16 Tryz.underlying29 hi0 hz00 hz01 hz02 rfl (by decide) _ ss.length (ss.flatMap strC) rfl (HO2.out.below (zzb)) _ 1 (strC x) rfl rfl (Src.one _ _ _ _) (by simp [strC,Value.oneCell']) (by unfold maxLen;omega) (by omega) (by first|(simp;done)|omega|(simp;omega)) ?_;intro v3 w3 hown3 hg3 hat3 hty3;have HTY3:=j7wb hty3;clear hty3);have HO3:=j7wb hown3;have HG3:=j7wb hg3;have HA3:=j7wb hat3;clear hown3 hg3 hat3)
   have hrg3:=zez (zez HR2.out (Keeps.of_below (F:=fun _=>False) (za (Below.refl _ _) _)) id id) HG3.out (fun q=>by have:=q.2;omega) (fun q=>HI.out.f q.1);go_roundw
   case rel =>
    exact ⟨v3,_,cnt2,ss++[x],rfl,hrg3,HC2.out,by simp;omega,by simpa [List.flatMap_append] using HO3.out,(by
     rcases HA3.out with q|q
     ·rw [q];exact HI.out.f
     ·intro e;have:=q _ e;simp at this;omega),ze (za HB2.out _) HG3.out (fun k hk=>hk.2)⟩
   case measure=>rw [hrg3.left_eq,HI.out.r.left_eq];exact hlt
theorem zp2 (w:World) (nbk:Nat) (hn:nbk<w.heap.size) (hm:w.cell? ⟨nbk,1,none⟩=some (.map none)) :
  Calls Tryz.prog 120 #[.pointer (some ⟨nbk,0,none⟩)] w (NamesP (fun _=>none) w):=by
 haveI:Old w nbk:=⟨hn⟩
 have hrg:=run_range_nilMap (P:=Tryz.prog) w 72 9 71 Tryz.underlying72;have hnx:∀ ty,(Instr.next (.pointer (some ⟨w.heap.size,0,none⟩)) false ty).run Tryz.prog (w.alloc (.mapIter none 0 #[] 0))=_:=fun ty=>run_next_nilMap _ ty 0 0 #[];have HSN:=j7wb fun W=>Tryz.slices_Sort_string_none none 0 W;go_enter Tryz.func120,Tryz.ntmps120;go_wp2;refine wp_loop_rounds 1 ?_;rw [rounds_succ]
 go_wp2_with (go_at_call 31;refine (HSN.out _).mono ?_;rintro e w2 ⟨rfl,rfl⟩)
 go_ret;exact ⟨_,[],rfl,Own.nil _ _ _,zzb,List.Pairwise.nil,fun a=>by simp⟩
open Go.ChangeShapes Go.WideShapes Go.Deep Go.RowKit Pat
def flC (f:Fl):List Value:=[.string (B f.path),.int .i64 f.kind]
theorem flC_len {xs:List Fl}:∀ f∈xs,(flC f).length=2:=fun _ _=>rfl
theorem TreeAt.keeps {F:Nat→Prop} {w w':World} {b0 tb:Nat} {x:List Fl} {nb:List (List UInt8)→Nat} {mp:List (List UInt8)→Option Nat} (h:TreeAt w b0 tb x nb mp) (hk:Keeps F w w') (hF:∀ k,F k→¬ inTree tb x nb mp k):TreeAt w' b0 tb x nb mp:=by
 have hb:∀ k,inTree tb x nb mp k→k<w.heap.size→w'.heap[k]?=w.heap[k]?:=fun k h1 h2=>hk.block k h2 (fun q=>hF k q h1);have ht:=hb tb (.inl rfl) h.lt;refine ⟨Nat.lt_of_lt_of_le h.lt hk.size,h.ge,(World.cell?_of_block (w:=w) ht).trans h.t0,(World.cell?_of_block (w:=w) ht).trans h.t1,fun j=>(World.frozen?_of_block (w:=w) ht).trans (h.tf j),h.ok,fun ks k hkd=>?_,h.k0,fun ks r h1 h2=>?_,h.i,h.im⟩
 ·obtain ⟨n1,n2,n3,n4,n5,n6⟩:=h.n ks k hkd
  have hn:=hb (nb ks) (.inr ⟨ks,by rw [hkd];rfl,.inl rfl⟩) n2;exact ⟨n1,Nat.lt_of_lt_of_le n2 hk.size,n3,(World.cell?_of_block (w:=w) hn).trans n4,(World.cell?_of_block (w:=w) hn).trans n5,fun j=>(World.frozen?_of_block (w:=w) hn).trans (n6 j)⟩
 ·obtain ⟨k1,c,k2,k3⟩:=h.k1 ks r h1 h2
  exact ⟨k1,c,k2.block (hb r (.inr ⟨ks,h1,.inr h2⟩) k2.lt),k3⟩
theorem zni (w:World) (b0 tb:Nat) (x:List Fl) (nb:List (List UInt8)→Nat) (mp:List (List UInt8)→Option Nat) (ks:List (List UInt8)) (h:TreeAt w b0 tb x nb mp) (hk:(kd x ks).isSome=true) (hx:x.length≤1099511627776) :
  Calls Tryz.prog 120 #[.pointer (some ⟨nb ks,0,none⟩)] w fun e w'=>∃ v ss,e = .returned v∧Own w' w.heap.size 1 v ss.length (ss.flatMap strC)∧Below w.heap.size w w'∧Rise ss∧∀ a,a∈ss ↔ (kd x (ks++[a])).isSome=true:=by
 obtain ⟨k,hkk⟩:=Option.isSome_iff_exists.1 hk;obtain ⟨n1,n2,n3,n4,n5,n6⟩:=h.n ks k hkk
 cases hm:mp ks with
 | none =>
  rw [hm] at n5;refine (zp2 w (nb ks) n2 n5).mono ?_;rintro e w' ⟨v,ss,h1,h2,h3,h4,h5⟩;exact ⟨v,ss,h1,h2,h3,h4,fun a=>by rw [h5,h.k0 ks hk hm a];simp⟩
 | some r =>
  rw [hm] at n5;obtain ⟨_,c,k2,k3⟩:=h.k1 ks r hk hm;refine (zp1 w (nb ks) r c _ k2 (by omega) n2 n5).mono ?_;rintro e w' ⟨v,ss,h1,h2,h3,h4,h5⟩;refine ⟨v,ss,h1,h2,h3,h4,fun a=>?_⟩;rw [h5];unfold Fil.below
  cases hq:(kd x (ks++[a])) <;> simp
end Go.Proofs.YtjcdmjdofdnaoaaGreatDoor.Fil
namespace Go.Proofs.YtjcdmjdofdnaoaaGreatDoor
end Go.Proofs.YtjcdmjdofdnaoaaGreatDoor
namespace Go.Proofs.YtjcdmjdofdnaoaaGreatDoor.Fil
open Go.ChangeShapes Go.WideShapes Go.Deep Go.RowKit Pat
set_option maxRecDepth 100000
instance:Inhabited Fl:=⟨⟨[],0⟩⟩
theorem zg5 {α : Type} {en : α → List Value} {sz:Nat}:∀ (xs:List α) (_:∀ x∈xs,(en x).length=sz) (k:Nat) (x : α),xs[k]?=some x→∀ j u,(en x)[j]?=some u→(xs.flatMap en)[k*sz+j]?=some u
 | [],_,k,x,hk=>by simp at hk
 | y :: ys,hen,0,x,hk=>fun j u hj=>by
  simp only [List.getElem?_cons_zero,Option.some.injEq] at hk;subst hk;have hjl:j<(en y).length:=(List.getElem?_eq_some_iff.1 hj).1;rw [List.flatMap_cons,List.getElem?_append_left (by omega),Nat.zero_mul,Nat.zero_add];exact hj
 | y :: ys,hen,k+1,x,hk=>fun j u hj=>by
  have hy:=hen y (by simp);have e:(k+1)*sz+j=sz+(k*sz+j):=by rw [Nat.add_mul];omega
  rw [List.flatMap_cons,List.getElem?_append_right (by omega),e,hy,Nat.add_sub_cancel_left];exact zg5 ys (fun x hx=>hen x (by simp [hx])) k x (by simpa using hk) j u hj
theorem make_any (w:World) (b0 tb:Nat) (x:List Fl) (nb:List (List UInt8)→Nat) (mp:List (List UInt8)→Option Nat) (p:List UInt8) (k:Int) (h:TreeAt w b0 tb x nb mp) (hm:MaxL w) (hl:p.length≤1073741824) (hx:x.length<10000) (hb0:b0≤w.heap.size) :
  Calls Tryz.prog 16 #[.pointer (some ⟨tb,0,none⟩),.string (B p),.int .i64 k] w (MakeP b0 tb x (makeL x p k) nb mp (makeN x p k) w):=by
 by_cases hn:makeN x p k=0
 ·have:=make_yes w b0 tb x nb mp p k h hm hl hx hb0 hn
  unfold makeL;rw [if_pos hn,hn];exact this
 ·have:=make_no w b0 tb x nb mp p k h hm hl hx hn
  unfold makeL;rw [if_neg hn];exact this
def ofF (l:List Fl):List Fl:=l.foldl (fun x f=>makeL x f.path f.kind) []
theorem zj8 (l:List Fl) (k:Nat) (f:Fl) (h:l[k]?=some f):ofF (l.take (k+1))=makeL (ofF (l.take k)) f.path f.kind:=by
 obtain ⟨h1,rfl⟩:=List.getElem?_eq_some_iff.1 h;unfold ofF;rw [List.take_succ_eq_append_getElem h1,List.foldl_append];rfl
theorem zp3 (x:List Fl) (p:List UInt8) (k:Int):(makeL x p k).length≤x.length+1:=by
 unfold makeL
 split
 ·simp
 ·omega
theorem zl4:∀ (k:Nat) (l:List Fl),(ofF (l.take k)).length≤k
 | 0,l=>by simp [ofF]
 | k+1,l=>by
  have ih:=zl4 k l
  cases h:l[k]? with
  | none=>rw [List.take_of_length_le (by have:=List.getElem?_eq_none_iff.1 h;omega)] at *;omega
  | some f=>rw [zj8 l k f h];have:=zp3 (ofF (l.take k)) f.path f.kind;omega
def OfP (l:List Fl) (w:World) (e:Ending) (w':World):Prop:=e = .returned (.pointer (some ⟨w.heap.size+1,0,none⟩))∧(∃ nb mp,TreeAt w' w.heap.size (w.heap.size+1) (ofF l) nb mp)∧Below w.heap.size w w'
set_option maxHeartbeats 1600000 in
theorem of_any (l:List Fl) (v:Value) (w:World) (h:Sl w flC 2 v l) (hm:MaxL w) (hl:l.length≤9000) (hn:∀ f∈l,f.path.length≤1073741824):Calls Tryz.prog 8 #[v] w (OfP l w):=by
 obtain ⟨A,c,rfl,h1,h2,hn0,hA⟩:=h;have HN:=j7wb fun W=>zlb W;have HA:=j7wb hA;have HNL:=j7wb hn;have HM:=j7wb hm;clear hA hn hn0 h1 h2 hm;go_enter Tryz.func8,Tryz.ntmps8
 go_wp2_with (go_at_call 15;refine (HN.out _).mono ?_;rintro e w1 ⟨rfl,ht,hb⟩;have HT:=j7wb ht;have HB:=j7wb hb;clear ht hb)
 go_loopw [9] (fun i w'=>∃ (k:Nat) (nb:List (List UInt8)→Nat) (mp:List (List UInt8)→Option Nat),k≤l.length∧i = .int .i64 k∧Hid (TreeAt w' w.heap.size (w.heap.size+1) (ofF (l.take k)) nb mp)∧Hid (Below w.heap.size w w')) (fun i _=>l.length - (intOf i).toNat)
 case atStart=>exact ⟨0,_,_,by omega,rfl,HT.out,HB.out⟩
 case round =>
  clear HT HB;obtain ⟨k,nb,mp,hk,rfl,HT,HB⟩:=hrel;have hbs:=HB.out.size;by_cases hlt:k<l.length
  ·obtain ⟨b,off,rfl,hb,hc⟩:=HA.out (by omega)
   obtain ⟨x,hxm⟩:=zal hlt;have e0:=(HB.out.cell (p:=⟨b,off+k*2,none⟩) hb).trans (by have:=hc k _ hxm 0 _ rfl;simpa using this);have e1:=(HB.out.cell (p:=⟨b,off+k*2+1,none⟩) hb).trans (hc k _ hxm 1 _ rfl)
   haveI:Old wr b:=⟨by omega⟩
   have k0:(0:Int)≤(k:Int):=by omega
   have k1:(k:Int)<(l.length:Int):=by omega
   have hxl:=HNL.out x (List.mem_of_getElem? hxm);have hle:=zl4 k l;have HS:=j7wb fun W (hW:Below wr.heap.size wr W)=>make_any W w.heap.size (w.heap.size+1) (ofF (l.take k)) nb mp x.path x.kind (HT.out.below hW) ((HM.out.below HB.out).below hW) hxl (by omega) (by have:=hW.size;omega);rw [← zj8 l k x hxm] at HS;clear hc hxm hle
   go_wp2_with (go_at_call 16;refine (HS.out _ (zzr)).mono ?_;rintro e w4 ⟨rfl,⟨nb2,mp2,ht2,-⟩,hk2⟩;have HT2:=j7wb ht2;have HB2:=j7wb (ze (za HB.out _) hk2 (fun k hk=>hk.2));clear ht2 hk2)
   go_roundw
   case rel=>exact ⟨k+1,nb2,mp2,by omega,by go_num,HT2.out,HB2.out⟩
   case measure=>simp [intOf];omega
  ·have hk2:k=l.length:=by omega
   subst hk2;have d0:=no hlt;have HT2:=HT;rw [List.take_length] at HT2;clear hlt;go_wp2;go_ret;exact ⟨rfl,⟨nb,mp,HT2.out⟩,HB.out⟩
open Go.ChangeShapes Go.WideShapes Go.Deep Go.ChangeAt Go.RowKit
def FlOk (x:Fl):Prop:=x.path.length≤9223372036854775807 ∧ -9223372036854775808≤x.kind∧x.kind≤9223372036854775807
theorem zj9:Tryz.prog.cellsOf 38=2:=by kernel_rfl
theorem fl_dec {H:Type} {enc:TypeId×Value→H} {w:World} {fuel:Nat} {cs:List Value} {d:DataW H×List MemPlace}
  (h:DataW.trod enc Tryz.prog w 0 (fun _=>true) true fuel 38 cs=some d):∃ x:Fl,cs=flC x∧FlOk x:=by
 obtain ⟨ys,n,_,_,hl,hyl,hf⟩:=DataW.trod_struct Tryz.underlying38 h;rw [zj9] at hl
 match cs,hl with
 | [c0,c1],_ =>
  have k0:Tryz.prog.cellsOf 9=1:=by kernel_rfl
  have k1:Tryz.prog.cellsOf 3=1:=by kernel_rfl
  have h0:=hf 0 _ rfl;have h1:=hf 1 _ rfl;simp [k0,k1] at h0 h1;have hy0:ys[0]?=some (ys[0]'(by rw [hyl];decide)):=List.getElem?_eq_getElem _;obtain ⟨s0,e0,_,w0⟩:=DataW.trod_string Tryz.underlying9 (h0.trans hy0);obtain ⟨a0,rfl⟩:=B_all s0;rw [B_size] at w0;have hy1:ys[1]?=some (ys[1]'(by rw [hyl];decide)):=List.getElem?_eq_getElem _;obtain ⟨s1,e1,_,w1⟩:=DataW.trod_int Tryz.underlying3 (h1.trans hy1);simp at e0;simp at e1;subst e0;subst e1;exact ⟨⟨a0,s1⟩,rfl,w0,bounds_i64 w1⟩
end Go.Proofs.YtjcdmjdofdnaoaaGreatDoor.Fil
namespace Go.Proofs.YtjcdmjdofdnaoaaGreatDoor.Tab
open Go.ChangeShapes Go.WideShapes Go.Deep Go.RowKit
set_option maxRecDepth 100000
def Ent.cells (e:Ent):List Value:=[.string (B e.name),.string (B e.val)]
def Ent.v (e:Ent):Value:=.agg #[.string (B e.name),.string (B e.val)]
theorem zf3 (xs:List Ent):(xs.flatMap Ent.cells).length=xs.length*2:=by induction xs <;> simp_all [Ent.cells] <;> omega
theorem ent_get (xs:List Ent) (k:Nat) (x:Ent) (h:xs[k]?=some x):(xs.flatMap Ent.cells)[k*2]?=some (.string (B x.name))∧(xs.flatMap Ent.cells)[k*2+1]?=some (.string (B x.val)):=by
 induction xs generalizing k with
 | nil=>simp at h
 | cons y ys ih =>
  cases k with
  | zero=>simp at h;subst h;exact ⟨rfl,rfl⟩
  | succ k =>
   have:=ih k (by simpa using h);rw [show (k+1)*2=k*2+1+1 by omega]
   simpa [Ent.cells] using this
theorem zg6 {w:World} {b0 g off n c:Nat} {xs:List Ent} (h:Own w b0 2 (.slice (some ⟨g,off,none⟩) n c) n (xs.flatMap Ent.cells)) {k:Nat} {x:Ent} (hk:xs[k]?=some x) :
  w.cell? ⟨g,off+k*2,none⟩=some (.string (B x.name))∧w.cell? ⟨g,off+k*2+1,none⟩=some (.string (B x.val))∧g<w.heap.size:=by
 have hi:k<xs.length:=(List.getElem?_eq_some_iff.1 hk).1;obtain ⟨q1,q2⟩:=ent_get xs k x hk;rcases h.2 with ⟨h0,e|⟨g',off',e,hg⟩⟩|⟨g',off',c',e,g1,g2,g3,g4,g5,g6⟩
 ·cases e
 ·exact absurd h.1 (by rw [zf3,h0];omega)
 ·injection e with e1
  injection e1 with e1;injection e1 with e1 e2;subst e1 e2;exact ⟨g6 _ _ q1,g6 _ _ q2,g2⟩
theorem zp4 (e:Ent) (s:List UInt8) (w:World):Calls Tryz.prog 98 #[.agg #[.string (B e.name),.string (B e.val)],.string (B s)] w fun r w'=>r = .returned (.int .i64 (Lib.compareBytes e.name s))∧Below w.heap.size w w':=by
 have HC:=j7wb fun w=>(Tryz.strings_Compare (B e.name) (B s) w).mono fun r w' ⟨h1,h2⟩=>(show r=Ending.returned (.int .i64 (Lib.compareBytes e.name s))∧w=w' from ⟨by rw [h1,B_data,B_data],h2.symm⟩)
 go_enter Tryz.func98,Tryz.ntmps98
 go_wp2_with (go_at_call 99;refine (HC.out _).mono ?_;rintro e w' ⟨rfl,rfl⟩)
 go_ret;exact ⟨rfl,zzb⟩
def BsP (xs:List Ent) (s:List UInt8) (w:World) (e:Ending) (w':World):Prop:=e = .returned (.tuple #[.int .i64 (place xs s),.bool (((xs[place xs s]?).map Ent.name) == some s)])∧Below w.heap.size w w'
set_option maxHeartbeats 1600000 in
theorem bs_any (w:World) (b0:Nat) (A:Option Addr) (c:Nat) (xs:List Ent) (s:List UInt8) (ho:Own w b0 2 (.slice A xs.length c) xs.length (xs.flatMap Ent.cells)) (hx:xs.length≤1048576) (hr:Rises xs) :
  Calls Tryz.prog 97 #[.slice A xs.length c,.string (B s),.func (.func 98) #[] #[]] w (BsP xs s w):=by
 have HR:=j7wb fun t ht=>zc3 hr s (t:=t) ht;have HP:=j7wb (zf2 xs s);have HO:=j7wb ho;have HF:=j7wb fun e w=>zp4 e s w;clear ho hr;unfold BsP;generalize place xs s=p at *;go_enter Tryz.func97,Tryz.ntmps97;go_wp2
 go_loopw [9,10] (fun i j w'=>∃ a b:Nat,i = .int .i64 a∧j = .int .i64 b∧a≤p∧p≤b∧b≤xs.length∧Hid (Below w.heap.size w w')) (fun i j _=>(intOf j).toNat - (intOf i).toNat)
 case atStart=>exact ⟨0,xs.length,rfl,rfl,by omega,HP.out,by omega,Below.refl _ _⟩
 case round =>
  obtain ⟨a,b,rfl,rfl,hap,hpb,hb,HB⟩:=hrel;by_cases hlt:a<b
  ·have h0:(a:Int)<(b:Int):=by omega
   obtain ⟨g,off,rfl⟩:∃ g off,A=some ⟨g,off,none⟩:=by
    obtain ⟨g,off,c',e,-⟩:=HO.out.form' (by omega);injection e with e1;exact ⟨g,off,e1⟩
   have m0:(0:Int)≤((a:Int)+(b:Int)) / 2:=by omega
   have m1:((a:Int)+(b:Int)) / 2<(xs.length:Int):=by omega
   have hmx:(a+b) / 2<xs.length:=by omega
   obtain ⟨x,hxm⟩:=zal hmx;have hxe:xs[(a+b) / 2]=x:=by have:=(List.getElem?_eq_some_iff.1 hxm).2;exact this
   obtain ⟨e0,e1,hg⟩:=zg6 (HO.out.below HB.out) hxm;have hlp:=HR.out _ hmx;rw [hxe] at hlp;have HFX:=j7wb (HF.out x)
   haveI:Old wr g:=⟨hg⟩
   clear hxe hxm;by_cases hc:Lib.compareBytes x.name s<0
   ·have hlp2:=hlp.1 hc
    clear hlp;generalize Lib.compareBytes x.name s=cb at *
    go_wp2_with (go_at_call 98;refine (HFX.out _).mono ?_;rintro e w3 ⟨rfl,hb3⟩;have HB3:=j7wb (zb HB.out hb3);clear hb3)
    go_roundw
    case rel=>exact ⟨(a+b) / 2+1,b,by rw [show ((a:Int)+(b:Int)) / 2+1=(((a+b) / 2+1:Nat):Int) by omega],rfl,by omega,hpb,hb,HB3.out⟩
    case measure=>simp [intOf];omega
   ·have hlp2:¬ (a+b) / 2<p:=fun h=>hc (hlp.2 h)
    have c0:=no hc;clear hlp hc;generalize Lib.compareBytes x.name s=cb at *
    go_wp2_with (go_at_call 98;refine (HFX.out _).mono ?_;rintro e w3 ⟨rfl,hb3⟩;have HB3:=j7wb (zb HB.out hb3);clear hb3)
    go_roundw
    case rel=>exact ⟨a,(a+b) / 2,rfl,by rw [show ((a:Int)+(b:Int)) / 2=(((a+b) / 2:Nat):Int) by omega],hap,by omega,by omega,HB3.out⟩
    case measure=>simp [intOf];omega
  ·have hp:p=a:=by omega
   subst hp;have d0:=no hlt;have d1:=no (show ¬ (p:Int)<(b:Int) by omega);clear hlt;by_cases hpn:p<xs.length
   ·have p1:(p:Int)<(xs.length:Int):=by omega
    have p0:(0:Int)≤(p:Int):=by omega
    obtain ⟨g,off,rfl⟩:∃ g off,A=some ⟨g,off,none⟩:=by
     obtain ⟨g,off,c',e,-⟩:=HO.out.form' (by omega);injection e with e1;exact ⟨g,off,e1⟩
    obtain ⟨x,hxm⟩:=zal hpn;obtain ⟨e0,e1,hg⟩:=zg6 (HO.out.below HB.out) hxm;have HFX:=j7wb (HF.out x)
    have HQ:Hid ((((xs[p]?).map Ent.name) == some s)=(Lib.compareBytes x.name s == 0)):=by
     show _=_
     rw [hxm,Bool.eq_iff_iff,beq_iff_eq,beq_iff_eq,Option.map_some,Option.some.injEq];exact ⟨fun h=>by rw [h];exact zj5 _,zf1⟩
    haveI:Old wr g:=⟨hg⟩
    clear hxm;generalize Lib.compareBytes x.name s=cb at *
    go_wp2_with (go_at_call 98;refine (HFX.out _).mono ?_;rintro e w3 ⟨rfl,hb3⟩;have HB3:=j7wb (zb HB.out hb3);clear hb3)
    go_ret2;exact ⟨by rw [HQ.out];rfl,HB3.out⟩
   ·have HQ:Hid ((((xs[p]?).map Ent.name) == some s)=false):=by
     show _=_
     rw [List.getElem?_eq_none (by omega)];rfl
    have p1:=no hpn;have p2:=no (show ¬ (p:Int)<(xs.length:Int) by omega);clear hpn;go_wp2_with fail;go_ret2;exact ⟨by rw [HQ.out];rfl,HB.out⟩
end Go.Proofs.YtjcdmjdofdnaoaaGreatDoor.Tab
