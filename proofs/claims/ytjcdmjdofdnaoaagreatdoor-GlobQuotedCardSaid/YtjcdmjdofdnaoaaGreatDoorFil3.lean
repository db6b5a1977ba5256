/-
  The walks of layer 18 (files), the paths, on: Clean. Conditions: texts of at most 2^29 bytes; the library's variable MaxLen holds some number.
-/
import Derived.Test.YtjcdmjdofdnaoaaGreatDoorFil1
import Derived.Test.YtjcdmjdofdnaoaaGreatDoorHist
import Derived.Test.YtjcdmjdofdnaoaaGreatDoorPatA
import Derived.Lib.LastIndexByte
import Derived.WalkMore
set_option linter.unusedSimpArgs false
set_option linter.unusedVariables false
namespace Go.Proofs.YtjcdmjdofdnaoaaGreatDoor.Fil
open Go.ChangeShapes Go.WideShapes Go.Deep Go.RowKit Go.Shelf Pat
attribute [local go_sem] Oper.semAt_some
set_option maxRecDepth 100000
theorem _root_.Go.Proofs.YtjcdmjdofdnaoaaGreatDoor.j7k {p:Prop} (h:p):Go.RowKit.Hid p:=Go.Lib.hid h
theorem pre47 (s:List UInt8):Lib.hasPrefix s [47]=(s.head? == some 47):=by
 unfold Lib.hasPrefix
 cases s with
 | nil=>rfl
 | cons c r=>simp [List.isPrefixOf,Bool.beq_comm]
theorem prefix_b (s p:List UInt8) (w:World):Calls Tryz.prog 35 #[.string (B s),.string (B p)] w fun e w'=>e = .returned (.bool (Lib.hasPrefix s p))∧w=w' :=
 (Tryz.strings_HasPrefix (B s) (B p) w).mono fun e w' ⟨he,hw⟩=>⟨by rw [he,B_data,B_data],hw.symm⟩
structure PathI (w:World) (pre:List (List UInt8)) (W:World):Prop where
 r:∃ v,W.cell? ⟨w.heap.size,0,none⟩=some v
 z:W.frozen? ⟨w.heap.size,0,none⟩=false
 a:∀ x∈pre,nameB x=true
 b:Below w.heap.size w W
 s:w.heap.size+2≤W.heap.size
structure PathX (w:World) (pre:List (List UInt8)) (W:World):Prop where
 r:W.cell? ⟨w.heap.size,0,none⟩=some (.bool false)
 x:∃ x∈pre,nameB x=false
 b:Below w.heap.size w W
 s:w.heap.size+2≤W.heap.size
theorem PathI.lull {w W W':World} {A:Nat} {pre:List (List UInt8)} (h:PathI w pre W) (hL:Lull A W W') (hA:w.heap.size≤A):PathI w pre W':=by
 obtain ⟨v,hv⟩:=h.r;exact ⟨⟨v,hL.cell hv⟩,(hL.frozen hv).trans h.z,h.a,hL.below h.b hA (Nat.le_refl _),Nat.le_trans h.s hL.size⟩
theorem PathX.lull {w W W':World} {A:Nat} {pre:List (List UInt8)} (h:PathX w pre W) (hL:Lull A W W') (hA:w.heap.size≤A):PathX w pre W' :=
 ⟨hL.cell h.r,h.x,hL.below h.b hA (Nat.le_refl _),Nat.le_trans h.s hL.size⟩
theorem PathI.keeps {w W W':World} {b:Nat} {pre:List (List UInt8)} (h:PathI w pre W) (hk:Keeps (fun k=>k=b) W W') (hb:w.heap.size<b):PathI w pre W':=by
 obtain ⟨v,hv⟩:=h.r;have hlt:=World.block_lt_of_cell? W _ hv;have hh:=hk.block w.heap.size hlt (by omega);exact ⟨⟨v,(World.cell?_of_block (w:=W) hh).trans hv⟩,(World.frozen?_of_block (w:=W) hh).trans h.z,h.a,ze h.b hk (fun k e=>by omega),Nat.le_trans h.s hk.size⟩
theorem PathX.keeps {w W W':World} {b:Nat} {pre:List (List UInt8)} (h:PathX w pre W) (hk:Keeps (fun k=>k=b) W W') (hb:w.heap.size<b):PathX w pre W':=by
 have hlt:=World.block_lt_of_cell? W _ h.r;have hh:=hk.block w.heap.size hlt (by omega);exact ⟨(World.cell?_of_block (w:=W) hh).trans h.r,h.x,ze h.b hk (fun k e=>by omega),Nat.le_trans h.s hk.size⟩
set_option maxHeartbeats 3200000 in
theorem za4 (s:List UInt8) (w:World) (hm:MaxL w) (hs:s.length≤1073741824):Calls Tryz.prog 27 #[.string (B s)] w fun e w'=>e = .returned (.bool (pathB s))∧Below w.heap.size w w':=by
 have HPX:=j7k fun w=>prefix_b s [47] w;rw [pre47] at HPX;by_cases n1:s=[47]
 ·subst n1
  go_enter Tryz.func27,Tryz.ntmps27;go_wp2;refine bodyPost_ret (v:=(.bool true)) (by simp [results,Tryz.results27,go_sem]) rfl ?_;exact ⟨rfl,zzb⟩
 cases hh:s.head? == some 47 with
 | false =>
  rw [hh] at HPX;have HB:Hid (pathB s=false):=by show _=_;unfold pathB;rw [hh,Bool.false_and,Bool.or_false];simpa using n1
  have m1:(s == [47])=false:=by rw [beq_eq_false_iff_ne];exact n1
  clear n1;go_enter Tryz.func27,Tryz.ntmps27
  go_wp2_with (go_at_call 35;refine (HPX.out _).mono ?_;rintro e w' ⟨rfl,rfl⟩)
  refine bodyPost_ret (v:=(.bool false)) (by simp [results,Tryz.results27,go_sem]) rfl ?_;exact ⟨by rw [HB.out],zzb⟩
 | true =>
  rw [hh] at HPX
  obtain ⟨t,rfl⟩:∃ t,s=47 :: t:=by
   cases s with
   | nil=>cases hh
   | cons c r=>exact ⟨r,by simp at hh;rw [hh]⟩
  have ht:¬ t=[]:=fun e=>n1 (by rw [e]);have ht2:t.isEmpty=false:=by simpa using ht
  have hms:=hm.lt;have HM:=j7k hm;have HGV:=j7k (zc5 t (w.alloc (.cells #[.bool false] 4)) (hm.below (zzb)) (by simp at hs;omega));have HPA:=j7k fun w=>zef t w;have HIN:=j7k fun x w=>isName_any x w
  have HB:Hid (pathB (47 :: t)=(partsL t).all nameB):=by
   show _=_
   unfold pathB;rw [show ((47 :: t:List UInt8) == [47])=false by rw [beq_eq_false_iff_ne];exact n1,Bool.false_or,hh,Bool.true_and];rfl
  clear hm n1 hh;generalize pathB (47 :: t)=res at *;generalize partsL t=ps at *;refine (callsIn_wide (n:=9)).1 ?_;refine callsIn_of_wp_marks Tryz.func27 rfl trivial ?_ rfl;simp only [Tryz.ntmps27,List.size_toArray,List.length_cons,List.length_nil,Nat.reduceAdd,Nat.reduceSub,Array.replicate_succ,Array.replicate_zero,List.push_toArray,List.append_toArray,List.nil_append,List.cons_append];refine wpIn_wide.2 ?_
  go_wp2_with (first|(go_at_call 35;refine (HPX.out _).mono ?_;rintro e w' ⟨rfl,rfl⟩)|(go_at_call 36;refine (HPA.out _).mono ?_;rintro e w1 ⟨rfl,rfl⟩))
  refine (wpIn_wide (n:=9)).1 ?_;have HG:=HGV.out;simp only [World.size_alloc] at HG;have HGK:Hid (∀ k,(k=w.heap.size+1∨k=0)→k<w.heap.size+1+1∧k≠w.heap.size):=fun k hk=>by omega
  refine zdq (n:=9) (by omega) (gf:=58) rfl (enters_of Tryz.func58 (by kernel_rfl) rfl) HG (by simp) (fun k hk=>by have:=(HGK.out k hk).1;simpa using this) (fun _=>rfl)
   (fun pre W=>PathI w pre W) (fun c pre W=>c = .ret∧PathX w pre W)
   (fun s W W' hL h=>h.lull hL (by simp;omega)) (fun c s W W' hL ⟨e,h⟩=>⟨e,h.lull hL (by simp;omega)⟩)
   (fun s W W' hk h=>h.keeps hk (by simp)) (fun c s W W' hk ⟨e,h⟩=>⟨e,h.keeps hk (by simp)⟩)
   ?init
   (fun x a' W'=>a' = { tmps:=#[.string (B (47 :: t)),undef,.pointer (some ⟨w.heap.size,0,none⟩),.string (B x),.string (B (47 :: t)),.bool false,.string (B (47 :: t)),.bool true,.bool false,.string (B (47 :: t)),.string (B t),.func (.func 58) #[] #[.pointer (some ⟨w.heap.size+1,0,none⟩)],.string (B x),undef,undef,undef],defers:=[] }) (fun x a' W W' hL h=>h) ?assign ?body ?done ?stop
  case init=>exact ⟨⟨_,by go_simp;rfl⟩,by simp [go_sem],by simp,zzb,by simp⟩
  case assign =>
   intro l pre x W K hi hs hK;have HK:=j7k (hK { tmps:=#[.string (B (47 :: t)),undef,.pointer (some ⟨w.heap.size,0,none⟩),.string (B x),.string (B (47 :: t)),.bool false,.string (B (47 :: t)),.bool true,.bool false,.string (B (47 :: t)),.string (B t),.func (.func 58) #[] #[.pointer (some ⟨w.heap.size+1,0,none⟩)],.string (B x),undef,undef,undef],defers:=[] } _ (KeepsFrom.refl _ _) (fun _ _=>rfl) hi rfl);clear hK;unfold encS at *
   gi_wp2
   exact HK.out
  case body =>
   rintro l pre x a' W hs h1 rfl hlt;have hs':w.heap.size+2≤W.heap.size:=h1.s;have H1:=j7k h1;obtain ⟨v,hv⟩:=h1.r;have hz:=h1.z;have HX:=j7k fun w=>HIN.out x w
   haveI:Old W (w.heap.size):=⟨by omega⟩
   clear h1
   cases hb:nameB x with
   | true =>
    rw [hb] at HX
    gi_wp2
    refine (callsIn_wide.2 (HX.out _)).mono ?_;rintro e w3 ⟨rfl,rfl⟩
    gi_wp2
    refine ⟨KeepsFrom.refl _ _,fun _ _=>rfl,H1.out.r,H1.out.z,fun y hy=>?_,H1.out.b,H1.out.s⟩;rcases List.mem_append.1 hy with hy|hy
    ·exact H1.out.a y hy
    ·simp at hy;subst hy;exact hb
   | false =>
    rw [hb] at HX
    gi_wp2
    refine (callsIn_wide.2 (HX.out _)).mono ?_;rintro e w3 ⟨rfl,rfl⟩
    gi_wp2
    have hS:=Keeps.setCell (F:=fun k=>k=w.heap.size) W (a:=⟨w.heap.size,0,none⟩) rfl (.bool false);refine ⟨KeepsFrom.of_keeps hS (fun k hF _ hA=>by simp at hA;omega),rfl,?_,⟨x,by simp,hb⟩,ze H1.out.b hS (fun k hk=>by omega),Nat.le_trans H1.out.s hS.size⟩;exact World.cell?_setCell_same' _ _ _ (by rw [hv];rfl)
  case done =>
   rintro D W hD h1 hK;have hD':w.heap.size+1+1≤D:=by simpa using hD
   obtain ⟨v,hv⟩:=h1.r;have hz:=h1.z;have hs':=h1.s
   haveI:Old W (w.heap.size):=⟨by omega⟩
   have HR:Hid (res=true):=by show _=_;rw [HB.out,List.all_eq_true];exact h1.a
   have H1:=j7k h1;clear h1
   gi_wp2
   go_wp2;have hS:=Keeps.setCell (F:=fun k=>k=w.heap.size) W (a:=⟨w.heap.size,0,none⟩) rfl (.bool true);have q0:(W.setCell ⟨w.heap.size,0,none⟩ (.bool true)).cell? ⟨w.heap.size,0,none⟩=some (.bool true):=World.cell?_setCell_same' _ _ _ (by rw [hv];rfl);have hK':=(hS.block D (Array.getElem?_eq_some_iff.1 hK).1 (by omega)).trans hK;have hB2:=ze H1.out.b hS (fun k hk=>by omega);generalize W.setCell ⟨w.heap.size,0,none⟩ (.bool true)=W2 at *;have hL:Lull (w.heap.size+1+1) W2 (W2.putObj D (.deferred none)):=Lull.of_grown (grownBy_putObj' _ D _) (fun r e=>by cases e;exact ⟨hD',_,hK',rfl⟩);have p0:=hL.cell q0;refine ⟨by simp,.inl ⟨_,_,rfl,run_takeDeferred hK',?_⟩⟩;exact ⟨.bool true,by simp [results,Tryz.results27,go_sem,p0],by rw [HR.out],hL.below hB2 (by omega) (Nat.le_refl _)⟩
  case stop =>
   rintro D c pre W hD hpre ⟨rfl,hx⟩ hK;have hD':w.heap.size+1+1≤D:=by simpa using hD
   have hL:Lull (w.heap.size+1+1) W (W.putObj D (.deferred none)):=Lull.of_grown (grownBy_putObj' _ D _) (fun r e=>by cases e;exact ⟨hD',_,hK,rfl⟩);have p0:=hL.cell hx.r
   have HR:Hid (res=false):=by
    show _=_
    obtain ⟨x,hxm,hxb⟩:=hx.x;rw [HB.out,Bool.eq_false_iff];intro h;have:=List.all_eq_true.1 h x (hpre.subset hxm);rw [hxb] at this;cases this
   have hB2:=hL.below hx.b (by omega) (Nat.le_refl _)
   gi_wp2
   refine ⟨by simp,.inl ⟨_,_,rfl,run_takeDeferred hK,?_⟩⟩;exact ⟨.bool false,by simp [results,Tryz.results27,go_sem,p0],by rw [HR.out],hB2⟩
open Go.ChangeShapes Go.WideShapes Go.Deep Go.RowKit
def StrP (ns:List (List UInt8)) (w:World) (e:Ending) (w':World):Prop:=∃ v,e = .returned v∧Own w' w.heap.size 1 v ns.length (ns.flatMap strC)∧Below w.heap.size w w'
open Go.ChangeShapes Go.WideShapes Go.Deep Go.RowKit Pat
def downTo (s:List UInt8):Nat→Nat
 | 0=>0
 | n+1=>if s[n+1]?=some 47 then n+1 else downTo s n
theorem zc6 (s:List UInt8):∀ n,(∀ j,downTo s n<j→j≤n→s[j]?≠some 47)∧(0<downTo s n→s[downTo s n]?=some 47)
 | 0=>⟨fun j h1 h2=>by simp [downTo] at h1;omega,fun h=>by simp [downTo] at h⟩
 | n+1=>by
  obtain ⟨h1,h2⟩:=zc6 s n;unfold downTo
  split
  ·rename_i h
   exact ⟨fun j a b=>by omega,fun _=>h⟩
  ·rename_i h
   refine ⟨fun j a b=>?_,h2⟩;by_cases e:j=n+1
   ·rw [e];exact h
   ·exact h1 j a (by omega)
def dirL (s:List UInt8):List UInt8:=if downTo s (s.length - 1)=0 then [47] else s.take (downTo s (s.length - 1))
def lastN (s:List UInt8):List UInt8:=(partsL s).getLastD []
theorem zir {s:List UInt8} {i:Nat} (h:s[i]?=some 47) (hn:∀ j,i<j→s[j]?≠some 47):lastN s=s.drop (i+1):=by
 obtain ⟨h1,h2⟩:=List.getElem?_eq_some_iff.1 h
 have e:s=s.take i++47 :: s.drop (i+1):=by
  conv=>lhs;rw [← List.take_append_drop i s,List.drop_eq_getElem_cons h1,h2]
 have h3:partsL (s.drop (i+1))=[s.drop (i+1)]:=zb8 fun hm=>by
  obtain ⟨k,hk⟩:=List.mem_iff_getElem?.1 hm;rw [List.getElem?_drop] at hk;exact hn (i+1+k) (by omega) hk
 unfold lastN
 conv=>lhs;rw [e]
 rw [zfb,h3];simp
theorem last_c (s:List UInt8) (w:World) (hs:s.length≤1073741824):Calls Tryz.prog 51 #[.string (B s),.int .u8 47] w fun e w'=>e = .returned (.int .i64 (Lib.lastIndexByte (B s) 47))∧w=w' :=
 (Tryz.strings_LastIndexByte (B s) 47 (by rw [B_size];omega) w).mono fun e w' ⟨he,hw⟩=>⟨he,hw.symm⟩
theorem zn5 {s:List UInt8} (h:s.head?=some 47):∃ i:Nat,Lib.lastIndexByte (B s) 47=i∧s[i]?=some 47∧(∀ j,i<j→s[j]?≠some 47)∧i=downTo s (s.length - 1):=by
 have hb:∀ j,j<s.length→((((B s).data[j]!).toNat:Int)=47 ↔ s[j]?=some 47):=fun j hj=>by
  rw [List.getElem?_eq_getElem hj,getElem!_pos (B s).data j (by simpa [B] using hj)];have e:(B s).data[j]'(by simpa [B] using hj)=s[j]:=by simp [B]
  rw [e]
  constructor
  ·intro h
   rw [show s[j]=47 from UInt8.toNat_inj.1 (by have:((47:UInt8).toNat)=47:=rfl;omega)]
  ·intro h
   rw [Option.some.inj h];rfl
 have hz:(B s).size=s.length:=B_size s
 have h0:s[0]?=some 47:=by cases s with
  | nil=>cases h
  | cons c r=>simpa using h
 have hpos:0<s.length:=(List.getElem?_eq_some_iff.1 h0).1;rcases Lib.lastIndexByte_spec (B s) 47 with ⟨_,hn⟩|⟨i,hi,he,hc,hn⟩
 ·exact absurd ((hb 0 hpos).2 h0) (hn 0 (by omega))
 ·rw [hz] at hi
  have hi2:=(hb i hi).1 hc
  have hn2:∀ j,i<j→s[j]?≠some 47:=fun j hj hs=>by
   have hjl:=(List.getElem?_eq_some_iff.1 hs).1;exact hn j hj (by omega) ((hb j hjl).2 hs)
  refine ⟨i,he,hi2,hn2,?_⟩;obtain ⟨d1,d2⟩:=zc6 s (s.length - 1);rcases Nat.lt_trichotomy i (downTo s (s.length - 1)) with q|q|q
  ·exact absurd (d2 (by omega)) (hn2 _ q)
  ·exact q
  ·exact absurd hi2 (d1 i q (by omega))
theorem zeg {s:List UInt8} (h:pathB s=true):s.head?=some 47:=by
 unfold pathB at h;rw [Bool.or_eq_true,Bool.and_eq_true] at h;rcases h with h|h
 ·rw [beq_iff_eq] at h;rw [h];rfl
 ·exact (beq_iff_eq.1 h.1)
def partV (s:List UInt8):Value:=if pathB s=true then .tuple #[.string (B (dirL s)),.string (B (lastN s))] else .tuple #[.string (B []),.string (B [])]
set_option maxHeartbeats 1600000 in
theorem zis (s:List UInt8) (w:World) (hm:MaxL w) (hs:s.length≤1073741824):Calls Tryz.prog 29 #[.string (B s)] w fun e w'=>e = .returned (partV s)∧Below w.heap.size w w':=by
 have HIP:=j7k (za4 s w hm hs);have HPV:=j7k (show partV s=if pathB s=true then .tuple #[.string (B (dirL s)),.string (B (lastN s))] else .tuple #[.string (B []),.string (B [])] from rfl);have HLC:=j7k fun w=>last_c s w hs;clear hm
 cases hp:pathB s with
 | false =>
  rw [hp] at HIP;rw [hp,if_neg (by simp)] at HPV;clear hp;go_enter Tryz.func29,Tryz.ntmps29
  go_wp2_with (go_at_call 27;refine HIP.out.mono ?_;rintro e w1 ⟨rfl,hb⟩;have HBW:=j7k hb;clear hb)
  go_ret2;exact ⟨by rw [HPV.out];rfl,HBW.out⟩
 | true =>
  obtain ⟨i,h1,h2,h3,h4⟩:=zn5 (zeg hp);have hln:=zir h2 h3;have hil:=(List.getElem?_eq_some_iff.1 h2).1;rw [hp] at HIP;rw [hp,if_pos rfl] at HPV;rw [h1] at HLC;have HDL:=j7k (show dirL s=if i=0 then [47] else s.take i by unfold dirL;rw [← h4]);have HLN:=j7k hln;have HH:=j7k (zeg hp);clear hp h1 h2 h3 h4 hln;rcases Nat.eq_zero_or_pos i with hi|hi
  ·subst hi
   have HD2:Hid (dirL s=s.take 1):=by
    show _=_
    rw [HDL.out,if_pos rfl];have:=HH.out
    cases s with
    | nil=>cases this
    | cons c r=>simp at this;subst this;rfl
   have p1:(1:Int)≤(s.length:Int):=by omega
   go_enter Tryz.func29,Tryz.ntmps29
   go_wp2_with (first|(go_at_call 27;refine HIP.out.mono ?_;rintro e w1 ⟨rfl,hb⟩;have HBW:=j7k hb;clear hb)|(go_at_call 51;refine (HLC.out _).mono ?_;rintro e w' ⟨rfl,rfl⟩))
   (refine zq (by kernel_rfl) (by kernel_rfl) ?_;(repeat (go_big_quiet_step (fail)));refine wpQuiet_nil ?_;intro _ hw';obtain ⟨gq,hw''⟩:=hw';subst hw'')
   go_wp2;go_ret2;exact ⟨by rw [HPV.out,HD2.out,HLN.out,Nat.zero_add,List.drop_one];rfl,zj HBW.out _⟩
  ·have HD2:Hid (dirL s=s.take i):=by show _=_;rw [HDL.out,if_neg (by omega)]
   have p0:max (i:Int) 1=(i:Int):=by omega
   have p1:(i:Int)≤(s.length:Int):=by omega
   have p2:(0:Int)≤(i:Int):=by omega
   have p3:(i:Int)+1≤(s.length:Int):=by omega
   have p4:IntKind.i64.wrap ((i:Int)+1)=(i:Int)+1:=IntWalk.i64_in _ (by omega);have p5:(0:Int)≤(i:Int)+1:=by omega
   have p6:((i:Int)+1).toNat=i+1:=by omega
   go_enter Tryz.func29,Tryz.ntmps29
   go_wp2_with (first|(go_at_call 27;refine HIP.out.mono ?_;rintro e w1 ⟨rfl,hb⟩;have HBW:=j7k hb;clear hb)|(go_at_call 51;refine (HLC.out _).mono ?_;rintro e w' ⟨rfl,rfl⟩))
   (refine zq (by kernel_rfl) (by kernel_rfl) ?_;(repeat (go_big_quiet_step (fail)));refine wpQuiet_nil ?_;intro _ hw';obtain ⟨gq,hw''⟩:=hw';subst hw'')
   go_wp2;go_ret2;exact ⟨by rw [HPV.out,HD2.out,HLN.out];rfl,zj HBW.out _⟩
attribute [local go_sem] Oper.semAt_some
structure CleanI (w:World) (pre:List (List UInt8)) (v:Value) (W:World):Prop where
 o:BoxOwn W (w.heap.size+2) w.heap.size 1 v (pre.foldl step []).length ((pre.foldl step []).flatMap strC)
 z:Seat W (w.heap.size+2) v
 b:Below w.heap.size w W
 s:w.heap.size+2≤W.heap.size
theorem CleanI.lull {w W W':World} {A:Nat} {pre:List (List UInt8)} {v:Value} (h:CleanI w pre v W) (hL:Lull A W W') (hA:w.heap.size≤A):CleanI w pre v W' :=
 ⟨h.o.lull hL,h.z.lull hL,hL.below h.b hA (Nat.le_refl _),Nat.le_trans h.s hL.size⟩
theorem CleanI.keeps {w W W':World} {pre:List (List UInt8)} {v:Value} (h:CleanI w pre v W) (hk:Keeps (fun k=>k=w.heap.size+1) W W'):CleanI w pre v W':=by
 have hh:=hk.block w.heap.size h.o.lt (by omega);exact ⟨⟨Nat.lt_of_lt_of_le h.o.lt hk.size,(World.cell?_of_block (w:=W) hh).trans h.o.c,(World.frozen?_of_block (w:=W) hh).trans h.o.f,h.o.own.keeps hk (fun k hk2 _ e=>by have:=(h.z k hk2).1;omega),h.o.ne⟩,h.z.keeps hk (fun k e=>by omega),ze h.b hk (fun k e=>by omega),Nat.le_trans h.s hk.size⟩
theorem step_len (ns:List (List UInt8)) (p:List UInt8):(step ns p).length≤ns.length+1:=by
 unfold step
 split
 ·rw [List.length_dropLast];omega
 ·split
  ·omega
  ·simp
theorem zit:∀ (ps ns:List (List UInt8)),(ps.foldl step ns).length≤ns.length+ps.length
 | [],ns=>by simp
 | p :: ps,ns=>by
  have:=zit ps (step ns p);have:=step_len ns p;simp only [List.foldl_cons,List.length_cons];omega
theorem zhg (pre:List (List UInt8)) (x:List UInt8):(pre++[x]).foldl step []=step (pre.foldl step []) x:=by rw [List.foldl_append];rfl
theorem str_take (ns:List (List UInt8)) (k:Nat):(ns.take k).flatMap strC=(ns.flatMap strC).take (k*1):=by
 rw [Nat.mul_one]
 induction ns generalizing k with
 | nil=>simp
 | cons y ys ih =>
  cases k with
  | zero=>simp
  | succ k=>rw [List.take_succ_cons,List.flatMap_cons,List.flatMap_cons,ih];rfl
theorem CleanI.cut {w W:World} {pre:List (List UInt8)} {A:Option Addr} {n c:Nat} (h:CleanI w pre (.slice A n c) W) (h0:0<w.heap.size):CleanI w (pre++[[46,46]]) (.slice A (n - 1) c) (W.setCell ⟨w.heap.size,0,none⟩ (.slice A (n - 1) c))∧KeepsFrom (w.heap.size+1+1) W (W.setCell ⟨w.heap.size,0,none⟩ (.slice A (n - 1) c))∧KeepG (fun k=>k=w.heap.size+1∨k=0) W (W.setCell ⟨w.heap.size,0,none⟩ (.slice A (n - 1) c)):=by
 have hS:∀ v,Keeps (fun k=>k=w.heap.size) W (W.setCell ⟨w.heap.size,0,none⟩ v):=fun v=>Keeps.setCell (F:=fun k=>k=w.heap.size) W (a:=⟨w.heap.size,0,none⟩) rfl v;have hs:=h.s
 have hob:(Value.slice A (n - 1) c).ownBlock=(Value.slice A n c).ownBlock:=by cases A <;> rfl
 have hz:Seat W (w.heap.size+2) (.slice A (n - 1) c):=fun k hk=>h.z k (hob ▸ hk)
 have hn:n=(pre.foldl step []).length:=by
  obtain ⟨A',c',e,-⟩:=h.o.own.form0;injection e
 have hd:(pre++[[46,46]]).foldl step []=(pre.foldl step []).dropLast:=by rw [zhg];unfold step;rw [if_pos rfl]
 have ho:Own W (w.heap.size+2) 1 (.slice A (n - 1) c) (pre.foldl step []).dropLast.length ((pre.foldl step []).dropLast.flatMap strC):=by
  have ho:=h.o.own;rw [List.length_dropLast,← hn];rw [← hn] at ho;rcases Nat.eq_zero_or_pos n with h1|h1
  ·have:pre.foldl step []=[]:=List.eq_nil_of_length_eq_zero (by omega)
   rw [this] at ho ⊢;subst h1;exact ho
  ·obtain ⟨g,off,c',e,-⟩:=ho.form' h1
   injection e with e1 e2 e3;subst e1 e3;have:=ze7 (m:=n - 1) ho h1 (by omega);rw [List.dropLast_eq_take,str_take,← hn];exact this
 refine ⟨⟨⟨Nat.lt_of_lt_of_le h.o.lt (hS _).size,World.cell?_setCell_same' _ _ _ (by rw [h.o.c];rfl),by rw [World.frozen?_setCell];exact h.o.f,?_,hob ▸ h.o.ne⟩,hz.keeps (hS _) (fun k e=>by omega),ze h.b (hS _) (fun k e=>by omega),Nat.le_trans h.s (hS _).size⟩,KeepsFrom.of_keeps (hS _) (fun k hF _ hA=>by omega),KeepG.of_keeps (hS _) (fun k hk=>by omega) (fun k hk e=>by omega)⟩;rw [hd];exact ho.keeps (hS _) (fun k hk _ e=>by have:=(hz k hk).1;omega)
theorem ziu {ns:List (List UInt8)} (h:ns≠[]):joinN ns=47 :: Lib.join ns [47]:=by
 cases ns with
 | nil=>exact absurd rfl h
 | cons n r =>
  rw [Lib.join_cons];unfold joinN Lib.joinTail;simp [List.flatMap_cons,List.flatMap]
theorem zan (a b:List (List UInt8)):joinN (a++b)=joinN a++joinN b:=List.flatMap_append
theorem zbx (p:List UInt8):(joinN [p]).length=p.length+1:=by simp [joinN]
theorem zn6 (ns:List (List UInt8)) (p:List UInt8):(joinN (step ns p)).length≤(joinN ns).length+(p.length+1):=by
 unfold step
 split
 ·rcases List.eq_nil_or_concat ns with rfl|⟨a,b,rfl⟩
  ·simp [joinN]
  ·rw [List.concat_eq_append,List.dropLast_concat,zan,List.length_append];omega
 ·split
  ·omega
  ·rw [zan,List.length_append,zbx]
   exact Nat.le_refl _
theorem zhh:∀ (ps ns:List (List UInt8)),(joinN (ps.foldl step ns)).length≤(joinN ns).length+(joinN ps).length
 | [],ns=>by simp
 | p :: ps,ns=>by
  have h1:=zhh ps (step ns p);have h2:=zn6 ns p
  have h3:(joinN (p :: ps)).length=p.length+1+(joinN ps).length:=by
   rw [show p :: ps=[p]++ps from rfl,zan,List.length_append,zbx]
  rw [List.foldl_cons];omega
theorem zf9:∀ s,(joinN (partsL s)).length=s.length+1
 | []=>rfl
 | c :: r=>by
  have ih:=zf9 r;rw [zbc]
  split
  ·rw [show [] :: partsL r=[[]]++partsL r from rfl,zan,List.length_append,zbx,ih,List.length_cons]
   simp;omega
  ·cases hp:partsL r with
   | nil=>exact absurd hp (zcs r)
   | cons p ps =>
    rw [hp,show p :: ps=[p]++ps from rfl,zan,List.length_append,zbx] at ih
    show (joinN ((c :: p) :: ps)).length=_
    rw [show (c :: p) :: ps=[c :: p]++ps from rfl,zan,List.length_append,zbx,List.length_cons,List.length_cons];omega
theorem zga (dir text:List UInt8):(joinN (namesL dir text)).length≤(startL dir text).length+1:=by
 have:=zhh (partsL (startL dir text)) [];rw [zf9] at this
 simpa [joinN,namesL] using this
theorem map_B (ns:List (List UInt8)):(ns.map B).map (fun s=>s.data.toList)=ns:=by
 rw [List.map_map]
 conv=>rhs;rw [← List.map_id ns]
 exact List.map_congr_left fun x _=>B_data x
theorem join_own (w:World) (b0:Nat) (v:Value) (ns:List (List UInt8)) (sep:List UInt8) (ho:Own w b0 1 v ns.length (ns.flatMap strC)) (hn:ns.length≤1073741824) (hl:(Lib.join ns sep).length≤140737488355328) :
  Calls Tryz.prog 37 #[v,.string (B sep)] w fun e w'=>e = .returned (.string (B (Lib.join ns sep)))∧Below w.heap.size w w':=by
 rcases Nat.eq_zero_or_pos ns.length with h0|h0
 ·obtain rfl:=List.eq_nil_of_length_eq_zero h0
  obtain ⟨A,c,rfl,-⟩:=ho.form0;refine (Tryz.strings_Join_none A c (B sep) w).mono ?_;rintro e w' ⟨rfl,rfl⟩;exact ⟨rfl,Below.refl _ _⟩
 ·have hcap:=zdk ho
  obtain ⟨g,off,c,rfl,h1,h2,h3,h4⟩:=ho.form' h0
  have hj:=Tryz.strings_Join g off c (ns.map B) (B sep) w (fun j x hx=>by
   rw [List.getElem?_map] at hx
   cases hy:ns[j]? with
   | none=>rw [hy] at hx;cases hx
   | some y=>rw [hy] at hx;cases hx;exact (own_str ho hy).1) h2 (by rw [List.length_map];omega) (by rw [List.length_map];exact h3) (by rw [map_B,B_data];exact hl)
  rw [List.length_map,map_B,B_data] at hj;exact hj
set_option maxHeartbeats 6400000 in
theorem zeh (dir text:List UInt8) (w:World) (hm:MaxL w) (hd:dir.length≤268435456) (ht:text.length≤268435456):Calls Tryz.prog 20 #[.string (B dir),.string (B text)] w fun e w'=>e = .returned (.string (B (cleanL dir text)))∧Below w.heap.size w w':=by
 obtain ⟨i0,hi0,hz00,hz01,hz02⟩:=info_parts zci;have HPX:=j7k fun w=>prefix_b text [47] w;rw [pre47] at HPX;have hms:=hm.lt
 have hsl:(startL dir text).length≤536870913:=by
  unfold startL
  split
  ·omega
  ·rw [List.length_append,List.length_cons];omega
 have HGV:=j7k (zc5 (startL dir text) (w.alloc (.cells #[.slice none 0 0] 29)) (hm.below (zzb)) (by omega));have HPA:=j7k fun w=>zef (startL dir text) w;have hps:=zdo (startL dir text)
 have HFL:=j7k fun (q:List (List UInt8)) (h:q.length≤(partsL (startL dir text)).length)=>(show (q.foldl step []).length≤536870914 by have:=zit q [];simp at this;omega)
 have HCL:=j7k (show cleanL dir text=47 :: Lib.join (namesL dir text) [47] by
  unfold cleanL
  split
  ·rename_i h;rw [h];rfl
  ·rename_i h;exact ziu h)
 have HNL:=j7k (show (partsL (startL dir text)).foldl step []=namesL dir text from rfl)
 have hst:text.head?=some 47∧startL dir text=text∨text.head?≠some 47∧startL dir text=dir++47 :: text:=by
  by_cases h:text.head?=some 47
  ·exact .inl ⟨h,zmj h⟩
  ·exact .inr ⟨h,zn4 h⟩
 have hlj:(Lib.join (namesL dir text) [47]).length≤140737488355328:=by
  have h1:=zga dir text;by_cases h:namesL dir text=[]
  ·rw [h];simp [Lib.join_nil]
  ·rw [ziu h,List.length_cons] at h1
   omega
 have HLJ:=j7k hlj;clear hm hlj;generalize namesL dir text=ns at *;generalize cleanL dir text=res at *;generalize hps':partsL (startL dir text)=ps at *;clear hps';have main:∀ (st:List UInt8) (u2 u3 u8 u9 u10 u11 u12 u13:Value),True:=fun _ _ _ _ _ _ _ _ _=>trivial;rcases hst with ⟨hh,hst⟩|⟨hh,hst⟩
 all_goals
  rw [hst] at HGV HPA
  first|(have hb:(text.head? == some 47)=true:=by simpa using hh)|(have hb:(text.head? == some 47)=false:=by simpa using hh)
  rw [hb] at HPX;clear hst hh hb main;refine (callsIn_wide (n:=9)).1 ?_;refine callsIn_of_wp_marks Tryz.func20 rfl trivial ?_ rfl;simp only [Tryz.ntmps20,List.size_toArray,List.length_cons,List.length_nil,Nat.reduceAdd,Nat.reduceSub,Array.replicate_succ,Array.replicate_zero,List.push_toArray,List.append_toArray,List.nil_append,List.cons_append];refine wpIn_wide.2 ?_;go_wp2
  go_step3
  go_wp2_with (go_at_call 35;refine (HPX.out _).mono ?_;rintro e w' ⟨rfl,rfl⟩)
  go_step3
  go_wp2_with (first|(go_at_call 35;refine (HPX.out _).mono ?_;rintro e w' ⟨rfl,rfl⟩)|(go_at_call 36;refine (HPA.out _).mono ?_;rintro e w1 ⟨rfl,rfl⟩))
  refine (wpIn_wide (n:=9)).1 ?_;have HG:=HGV.out;simp only [World.size_alloc] at HG;have HGK:Hid (∀ k,(k=w.heap.size+1∨k=0)→k<w.heap.size+1+1∧k≠w.heap.size):=fun k hk=>by omega
  refine zdq (n:=9) (by omega) (gf:=58) rfl (enters_of Tryz.func58 (by kernel_rfl) rfl) HG (by simp) (fun k hk=>by have:=(HGK.out k hk).1;simpa using this) (fun _=>rfl)
   (fun q W=>∃ v,CleanI w q v W) (fun _ _ _=>False)
   (fun s W W' hL ⟨v,h⟩=>⟨v,h.lull hL (by simp;omega)⟩) (fun _ _ _ _ _ h=>h)
   (fun s W W' hk ⟨v,h⟩=>⟨v,h.keeps hk⟩) (fun _ _ _ _ _ h=>h)
   ⟨.slice none 0 0,?init⟩
   (fun x a' W'=>∃ (st:List UInt8) (u8 u9 u10 u11 u12 u13:Value),a' = { tmps:=#[.string (B dir),.string (B st),undef,undef,.string (B []),.pointer (some ⟨w.heap.size,0,none⟩),.string (B x),.string (B text),u8,u9,u10,u11,u12,u13,.string (B st),.func (.func 58) #[] #[.pointer (some ⟨w.heap.size+1,0,none⟩)],.string (B x),undef,undef,undef,undef,undef,undef,undef,undef,undef,undef,undef,undef,undef,undef,undef,undef,undef,undef,undef],defers:=[] }) (fun x a' W W' hL h=>h) ?assign ?body ?done ?stop
  case init=>exact ⟨⟨by simp;omega,by go_simp,by simp [go_sem],Own.nil _ _ _,by simp [Value.ownBlock]⟩,Seat.nil _ _,zzb,by simp⟩
  case assign =>
   intro l q x W K hi hs hK;have HK:=j7k hK;have HI:=j7k hi;clear hK hi;unfold encS at *
   gi_wp2
   exact HK.out _ _ (KeepsFrom.refl _ _) (fun _ _=>rfl) HI.out ⟨_,_,_,_,_,_,_,rfl⟩
  case body =>
   rintro l q x a' W hs ⟨v,h1⟩ ⟨st,u8,u9,u10,u11,u12,u13,rfl⟩ hlt;have hs':w.heap.size+2≤W.heap.size:=h1.s;have hc:=h1.o.c;have hf:=h1.o.f;have hql:=hlt.length_le;rw [List.length_append,List.length_singleton] at hql;have hnl:=HFL.out q (by omega);have H1:=j7k h1;have hsn:=zhg q x;obtain ⟨A,c,rfl,hA⟩:=h1.o.own.form0;have hcap:=zdk h1.o.own _ _ _ rfl
   haveI:Old W (w.heap.size):=⟨by omega⟩
   clear h1
   have same:∀ (h:step (q.foldl step []) x=q.foldl step []),CleanI w (q++[x]) (.slice A (q.foldl step []).length c) W:=fun h=>by
    rw [h] at hsn;exact ⟨by rw [hsn];exact H1.out.o,H1.out.z,H1.out.b,H1.out.s⟩
   by_cases x1:x=[]
   ·subst x1
    have HS:=j7k (same rfl);clear same hsn
    gi_wp2
    exact ⟨KeepsFrom.refl _ _,fun _ _=>rfl,_,HS.out⟩
   by_cases x2:x=[46]
   ·subst x2
    have HS:=j7k (same rfl);clear same hsn x1
    gi_wp2
    exact ⟨KeepsFrom.refl _ _,fun _ _=>rfl,_,HS.out⟩
   by_cases x3:x=[46,46]
   ·subst x3
    have HS:=j7k (H1.out.cut hms);clear same hsn x1 x2;generalize (q.foldl step []).length=n at *;have g1:IntKind.i64.wrap ((n:Int) - 1)=(n:Int) - 1:=IntWalk.i64_in _ (by omega);have g2:max ((n:Int) - 1) 0=((n - 1:Nat):Int):=by omega
    have g3:((n - 1:Nat):Int)≤(c:Int):=by omega
    gi_wp2
    obtain ⟨s1,s2,s3⟩:=HS.out;exact ⟨by simpa using s2,s3,_,s1⟩
   ·have hsx:step (q.foldl step []) x=q.foldl step []++[x]:=by unfold step;rw [if_neg x3,if_neg (by simp [x1,x2])]
    rw [hsx] at hsn;have HSN:=j7k hsn;have m1:(x == [])=false:=by rw [beq_eq_false_iff_ne];exact x1
    have m2:(x == [46])=false:=by rw [beq_eq_false_iff_ne];exact x2
    have m3:(x == [46,46])=false:=by rw [beq_eq_false_iff_ne];exact x3
    clear same hsn hsx
    gi_wp2_with ((gi_at_builtin;refine zw rfl (.tmp 29) (.tmp 31) _ rfl (w.heap.size+2) 9 i0 _ 1 16 Tryz.underlying29 hi0 hz00 hz01 hz02 rfl (by decide) _ (q.foldl step []).length ((q.foldl step []).flatMap strC) rfl (H1.out.o.own.below (zzb)) _ 1 (strC x) rfl rfl (Src.one _ _ _ _) (by simp [strC,Value.oneCell']) (by unfold maxLen;omega) (by omega) (by first|(simp;done)|omega|(simp;omega)) ?_;intro v1 w1 hown1 hg1 hat1 hty1;have HTY1:=j7k hty1;clear hty1);obtain ⟨gg,oo,cc,rfl,q1,q2,q3,q4⟩:=hown1.form;obtain ⟨s1,s2,s3,s4,s5,s6⟩:=H1.out.o.round3 (A:=w.heap.size+1+1) (G:=fun k=>k=w.heap.size+1∨k=0) (fun k hk=>(H1.out.z k hk).2) (by omega) (fun k hk=>by have:=HGK.out k hk;omega) hown1 hg1 hat1;have R:=j7k (And.intro s1 (And.intro s2 (And.intro s3 s4)));have HZ:=j7k (Seat.of_own hown1 (by omega) (by omega));clear hown1 hg1 hat1 s1 s2 s3 s4)
    obtain ⟨s1,s2,s3,s4⟩:=R.out;refine ⟨by simpa using s1,s2,_,⟨by rw [HSN.out];simpa [List.flatMap_append] using s3,HZ.out.keeps (Keeps.setCell (F:=fun k=>k=w.heap.size) w1 (a:=⟨w.heap.size,0,none⟩) rfl _) (fun k e=>by omega),ze H1.out.b s4 (fun k hk=>by omega),Nat.le_trans H1.out.s s4.size⟩⟩
  case done =>
   rintro D W hD ⟨v,h1⟩ hK;have hD':w.heap.size+1+1≤D:=by simpa using hD
   have hc:=h1.o.c;have hs':=h1.s
   haveI:Old W (w.heap.size):=⟨by omega⟩
   have hnl:=HFL.out ps (Nat.le_refl _);have ho:=h1.o.own;rw [HNL.out] at ho hnl;have HJ:=j7k fun W' (hb:Below W.heap.size W W')=>join_own W' _ v ns [47] (ho.below hb) (by omega) HLJ.out;have H1:=j7k h1;have hlj:=HLJ.out;clear h1 ho
   gi_wp2
   go_wp2_with (go_at_call 37;refine (HJ.out _ (zzb)).mono ?_;rintro e w2 ⟨rfl,hb2⟩;have HB2:=j7k hb2;clear hb2)
   rw [Exit.noGoto_ret];have hK':=(HB2.out.block D (Array.getElem?_eq_some_iff.1 hK).1).trans hK;have hL:Lull (w.heap.size+1+1) w2 (w2.putObj D (.deferred none)):=Lull.of_grown (grownBy_putObj' _ D _) (fun r e=>by cases e;exact ⟨hD',_,hK',rfl⟩);refine ⟨by simp,.inl ⟨_,_,rfl,run_takeDeferred hK',?_⟩⟩;exact ⟨_,results_tmp rfl _ _ _,by rw [HCL.out];rfl,hL.below (zb H1.out.b HB2.out) (by omega) (Nat.le_refl _)⟩
  case stop =>
   rintro D c q W _ _ h _;exact h.elim
end Go.Proofs.YtjcdmjdofdnaoaaGreatDoor.Fil
