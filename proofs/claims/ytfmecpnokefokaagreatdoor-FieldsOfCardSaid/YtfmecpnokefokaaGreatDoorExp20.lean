/-
  The walks of ref25, on: Cut, one operator at a time. Conditions: texts of at most 2^20 bytes. (Printed by gen_refcut.py.)
-/
import Derived.Test.YtfmecpnokefokaaGreatDoorTab17
import Derived.Test.YtfmecpnokefokaaGreatDoorOwn
import Derived.Test.YtfmecpnokefokaaGreatDoorHist
import Derived.Deep.RegionHeld
import Derived.Test.YtfmecpnokefokaaGreatDoorTab3
import Derived.Test.YtfmecpnokefokaaGreatDoorClass2
import Derived.Test.YtfmecpnokefokaaGreatDoorTabPlain
set_option linter.unusedSimpArgs false
set_option linter.unusedVariables false
namespace Go.Proofs.YtfmecpnokefokaaGreatDoor.Tab
open Go.ChangeShapes Go.WideShapes Go.Deep Go.RowKit
set_option maxRecDepth 100000
theorem _root_.Go.Proofs.YtfmecpnokefokaaGreatDoor.j7f {p:Prop} (h:p):Go.RowKit.Hid p:=Go.Lib.hid h
end Go.Proofs.YtfmecpnokefokaaGreatDoor.Tab
namespace Go.Proofs.YtfmecpnokefokaaGreatDoor
open Go.ChangeShapes Go.WideShapes Go.ChangeAt Go.RowKit
open Go.ChangeMaps (open_string shut_string)
set_option maxRecDepth 100000
section
variable {H : Type} {enc : TypeId × Value → H} {w : World} {base : Nat} {d : DataW H} {p : List MemPlace} {v : Value}
theorem zpt (h:DataW.Trod enc Tryz.prog w 0 (fun _=>true) true 9 v d p) (k:Value.okWide Tryz.prog w .any base 9 v):∃ s,v = .string (B s)∧s.length≤9223372036854775807:=by
 obtain ⟨a,rfl,rfl,rfl,ha⟩:=open_string Tryz.underlying9 k h;obtain ⟨s,rfl⟩:=B_all a;exact ⟨s,rfl,by rw [B_size] at ha;exact ha⟩
end
end Go.Proofs.YtfmecpnokefokaaGreatDoor
namespace Go.Proofs.YtfmecpnokefokaaGreatDoor.Tab
open Go.ChangeShapes Go.WideShapes Go.Deep Go.ChangeAt Go.RowKit
set_option maxRecDepth 100000
def Ent.Ok (x:Ent):Prop:=x.name.length≤9223372036854775807∧x.val.length≤9223372036854775807
theorem ent_cells:Tryz.prog.cellsOf 44=2:=by kernel_rfl
theorem Ent.len (x:Ent):x.cells.length=2:=rfl
theorem ent_dec {H:Type} {enc:TypeId×Value→H} {w:World} {fuel:Nat} {cs:List Value} {d:DataW H×List MemPlace}
  (h:DataW.trod enc Tryz.prog w 0 (fun _=>true) true fuel 44 cs=some d):∃ x:Ent,cs=x.cells∧x.Ok:=by
 obtain ⟨ys,n,_,_,hl,hyl,hf⟩:=DataW.trod_struct Tryz.underlying44 h;rw [ent_cells] at hl
 match cs,hl with
 | [c0,c1],_ =>
  have k0:Tryz.prog.cellsOf 9=1:=by kernel_rfl
  have h0:=hf 0 _ rfl;have h1:=hf 1 _ rfl;simp [k0] at h0 h1;have hy0:ys[0]?=some (ys[0]'(by rw [hyl];decide)):=List.getElem?_eq_getElem _;obtain ⟨s0,e0,_,w0⟩:=DataW.trod_string Tryz.underlying9 (h0.trans hy0);obtain ⟨a0,rfl⟩:=B_all s0;rw [B_size] at w0;have hy1:ys[1]?=some (ys[1]'(by rw [hyl];decide)):=List.getElem?_eq_getElem _;obtain ⟨s1,e1,_,w1⟩:=DataW.trod_string Tryz.underlying9 (h1.trans hy1);obtain ⟨a1,rfl⟩:=B_all s1;rw [B_size] at w1;simp at e0;simp at e1;subst e0;subst e1;exact ⟨⟨a0,a1⟩,rfl,w0,w1⟩
end Go.Proofs.YtfmecpnokefokaaGreatDoor.Tab
namespace Go.Proofs.YtfmecpnokefokaaGreatDoor
open Go.RowKit
section
variable {P : Program} {ops : Array Oper} {md : Region.Mode} {C : World → Prop}
end
end Go.Proofs.YtfmecpnokefokaaGreatDoor
namespace Go.Proofs.YtfmecpnokefokaaGreatDoor.Tab
open Go.ChangeShapes Go.WideShapes Go.Deep Go.ChangeAt Go.RowKit
set_option maxRecDepth 100000
structure TAct where
 kind:Int
 name:List UInt8
 val:List UInt8
def TAct.cells (x:TAct):List Value:=[.int .i64 x.kind,.string (B x.name),.string (B x.val)]
def TAct.Ok (x:TAct):Prop := -9223372036854775808≤x.kind∧x.kind≤9223372036854775807∧x.name.length≤9223372036854775807∧x.val.length≤9223372036854775807
theorem TAct.len (x:TAct):x.cells.length=3:=rfl
theorem getE_eq {xs:List Ent} (h:Rises xs) (s:List UInt8):getE xs s=if there xs s=true then xs[place xs s]? else none:=by
 unfold getE
 cases ht:there xs s with
 | true =>
  rw [if_pos rfl];have hp:=zl0 ht;obtain ⟨x,hxm⟩:=zae hp;rw [hxm];have hq:(x.name == s)=true:=by rw [(zcu h s hxm).2.2.2 rfl];exact ht
  refine List.find?_eq_some_iff_getElem.2 ⟨hq,place xs s,hp,(List.getElem?_eq_some_iff.1 hxm).2,fun j hj=>?_⟩;have:=((zcu h s (List.getElem?_eq_getElem (show j<xs.length by omega))).1 hj).2
  simpa using this
 | false =>
  rw [if_neg (by simp)];refine List.find?_eq_none.2 fun x hx=>?_;obtain ⟨k,hk⟩:=List.mem_iff_getElem?.1 hx;obtain ⟨p1,p2,p3,p4⟩:=zcu h s hk;rcases Nat.lt_trichotomy k (place xs s) with h1|h1|h1
  ·rw [(p1 h1).2];simp
  ·rw [p4 h1,ht];simp
  ·rw [p3 h1];simp
theorem own_new {w w':World} {b0 sz n:Nat} {v:Value} {xs:List Value} (h:Own w' w.heap.size sz v n xs) (hb:b0≤w.heap.size):Own w' b0 sz v n xs:=h.mono hb
structure PlayI (w w':World) (tb:Nat) (kind:Int) (lv u:Value) (xs:List Ent) (k:Nat):Prop where
 t:TabAt w' w.heap.size tb lv kind xs
 o:Own w' w.heap.size 2 u xs.length (xs.flatMap Ent.cells)
 d:∀ j,u.ownBlock=some j→lv.ownBlock≠some j∧j≠tb
 n:xs.length≤k
 b:Below w.heap.size w w'
theorem PlayI.below {w w' W:World} {tb k:Nat} {kind:Int} {lv u:Value} {xs:List Ent} (h:PlayI w w' tb kind lv u xs k) (hb:Below w'.heap.size w' W):PlayI w W tb kind lv u xs k :=
 ⟨h.t.below hb,h.o.below hb,h.d,h.n,zb h.b hb⟩
theorem PlayI.more {w w':World} {tb k:Nat} {kind:Int} {lv u:Value} {xs:List Ent} (h:PlayI w w' tb kind lv u xs k):PlayI w w' tb kind lv u xs (k+1) :=
 ⟨h.t,h.o,h.d,by have:=h.n;omega,h.b⟩
structure PlayM (w w':World) (tb:Nat) (kind:Int) (lv u:Value) (xs ys:List Ent) (k:Nat):Prop where
 t:TabAt w' w.heap.size tb lv kind xs
 o:Own w' w.heap.size 2 u ys.length (ys.flatMap Ent.cells)
 d:∀ j,u.ownBlock=some j→lv.ownBlock≠some j∧j≠tb
 n:xs.length≤k
 m:ys.length≤k+1
 b:Below w.heap.size w w'
theorem PlayM.below {w w' W:World} {tb k:Nat} {kind:Int} {lv u:Value} {xs ys:List Ent} (h:PlayM w w' tb kind lv u xs ys k) (hb:Below w'.heap.size w' W):PlayM w W tb kind lv u xs ys k :=
 ⟨h.t.below hb,h.o.below hb,h.d,h.n,h.m,zb h.b hb⟩
theorem PlayI.set {w w1 w2:World} {tb k:Nat} {kind:Int} {lv u v:Value} {xs ys:List Ent} (h:PlayI w w1 tb kind lv u xs k) (hm:ys.length≤xs.length+1) (ho:Own w2 w.heap.size 2 v ys.length (ys.flatMap Ent.cells)) (hv:v=u∨∀ k,v.ownBlock=some k→w1.heap.size≤k) (hb:Below w1.heap.size w1 w2):PlayM w w2 tb kind lv v xs ys k:=by
 refine ⟨h.t.below hb,ho,fun j hj=>?_,h.n,by have:=h.n;omega,zb h.b hb⟩;rcases hv with rfl|hv
 ·exact h.d j hj
 ·have h1:=hv j hj
  have h2:=h.t.lt;exact ⟨fun e=>by have:=h.t.own.lt j e;omega,by omega⟩
theorem PlayM.set {w w1 w2:World} {tb k:Nat} {kind:Int} {lv lv2 u:Value} {xs ys:List Ent} (h:PlayM w w1 tb kind lv u xs ys k) (ht:TabAt w2 w.heap.size tb lv2 kind ys) (ha:lv2.ownBlock=lv.ownBlock∨∀ k,lv2.ownBlock=some k→w1.heap.size≤k) (hk:Keeps (fun k=>k=tb∨(lv.ownBlock=some k∧w.heap.size≤k)) w1 w2):PlayI w w2 tb kind lv2 u ys (k+1):=by
 refine ⟨ht,h.o.keeps hk fun j hj _ hF=>?_,fun j hj=>?_,h.m,ze h.b hk fun j hF=>?_⟩
 ·have:=h.d j hj
  rcases hF with e|e
  ·exact this.2 e
  ·exact this.1 e.1
 ·have h1:=h.d j hj
  refine ⟨fun e=>?_,h1.2⟩;rcases ha with e2|e2
  ·rw [e2] at e;exact h1.1 e
  ·have:=e2 j e
   have:=h.o.lt j hj;omega
 ·rcases hF with e|e
  ·have:=h.t.ge;omega
  ·exact e.2
theorem PlayI.kept {w w1 w2:World} {tb k:Nat} {kind:Int} {lv u:Value} {xs:List Ent} (h:PlayI w w1 tb kind lv u xs k) (hk:Keeps (fun k=>k=tb∨(lv.ownBlock=some k∧w.heap.size≤k)) w1 w2):Own w2 w.heap.size 2 u xs.length (xs.flatMap Ent.cells):=h.o.keeps hk fun j hj _ hF=>by
 have:=h.d j hj;rcases hF with e|e
 ·exact this.2 e
 ·exact this.1 e.1
theorem PlayI.old {w w1:World} {tb k:Nat} {kind:Int} {lv u:Value} {xs:List Ent} (h:PlayI w w1 tb kind lv u xs k) {W:World} (hb:Below w1.heap.size w1 W):Own W w.heap.size 2 u xs.length (xs.flatMap Ent.cells):=h.o.below hb
end Go.Proofs.YtfmecpnokefokaaGreatDoor.Tab
namespace Go.Proofs.YtfmecpnokefokaaGreatDoor.Ex
open Go.ChangeShapes Go.WideShapes Go.Deep Go.RowKit Cls Md Mc Pa Li Pat Bd
set_option maxRecDepth 100000
def GetR (w0:World) (vv:Value) (g:Look):Prop :=
 ∀ (s:List UInt8) (W:World),Below w0.heap.size w0 W→s.length≤1073741824→Calls Tryz.prog 41 #[vv,.string (B s)] W fun e w'=>e = .returned (.tuple #[.string (B ((g s).getD [])),.int .i64 (if (g s).isSome=true then 1 else 0)])∧W=w'
def lookR (xs:List Tab.Ent):Look:=fun s=>if isNameB s=true then (Tab.getE xs s).map (·.val) else none
theorem zl9 (w0:World) (vv:Value) (xs:List Tab.Ent) (hv:Sl w0 Tab.Ent.cells 2 vv xs) (hx:xs.length≤1048576):GetR w0 vv (lookR xs):=by
 intro s W hW hs
 obtain ⟨V,hV⟩:∃ V,V=Value.tuple #[.string (B ((lookR xs s).getD [])),.int .i64 (if (lookR xs s).isSome=true then 1 else 0)]:=⟨_,rfl⟩
 rw [← hV];have HV:=j7f hV;clear hV;have HI:=j7f (zci s W hs);have HG:=j7f (Tab.refGet_any xs vv s W (hv.below hW) hx)
 cases hn:isNameB s with
 | false =>
  have HR:=j7f (show lookR xs s=none by unfold lookR;rw [if_neg (by rw [hn];decide)]);rw [hn] at HI;clear hn hv;go_enter Tryz.func41,Tryz.ntmps41
  go_wp2_with (go_at_call 20;refine HI.out.mono ?_;rintro e w1 ⟨rfl,rfl⟩)
  go_ret2;exact ⟨by rw [HV.out,HR.out];rfl,rfl⟩
 | true =>
  have HR:=j7f (show lookR xs s=(Tab.getE xs s).map (·.val) by unfold lookR;rw [if_pos hn]);rw [hn] at HI;clear hn hv
  cases he:Tab.getE xs s with
  | none =>
   rw [he] at HG HR;unfold Tab.getP at HG;dsimp only at HG;clear he;go_enter Tryz.func41,Tryz.ntmps41
   go_wp2_with (first|(go_at_call 20;refine HI.out.mono ?_;rintro e w1 ⟨rfl,rfl⟩)|(go_at_call 21;refine HG.out.mono ?_;rintro e w1 ⟨rfl,rfl⟩))
   go_ret2;exact ⟨by rw [HV.out,HR.out];rfl,rfl⟩
  | some u =>
   rw [he] at HG HR;unfold Tab.getP at HG;dsimp only at HG;clear he;go_enter Tryz.func41,Tryz.ntmps41
   go_wp2_with (first|(go_at_call 20;refine HI.out.mono ?_;rintro e w1 ⟨rfl,rfl⟩)|(go_at_call 21;refine HG.out.mono ?_;rintro e w1 ⟨rfl,rfl⟩))
   go_ret2;exact ⟨by rw [HV.out,HR.out];rfl,rfl⟩
def tenL:List UInt8:=[48,49,50,51,52,53,54,55,56,57]
theorem ten_at (k:Nat) (h:k<10):(tenL.take (k+1)).drop k=[UInt8.ofNat (48+k)]:=by
 match k,h with
 | 0,_=>rfl
 | 1,_=>rfl
 | 2,_=>rfl
 | 3,_=>rfl
 | 4,_=>rfl
 | 5,_=>rfl
 | 6,_=>rfl
 | 7,_=>rfl
 | 8,_=>rfl
 | 9,_=>rfl
def moreD (m:Nat):List UInt8:=if 9<m then Lib.decDigits (m / 10) else []
theorem zkm (m:Nat):Lib.decDigits m=moreD m++(tenL.take (m % 10+1)).drop (m % 10):=by
 rw [ten_at _ (Nat.mod_lt _ (by omega))];unfold moreD
 split
 ·rw [Lib.decDigits,dif_neg (by omega)]
 ·rw [Lib.decDigits_one (by omega),Nat.mod_eq_of_lt (by omega)];rfl
theorem zho:∀ (k u:Nat),u<10 ^ (k+1)→Lib.nDigits u≤k+1
 | 0,u,h=>by rw [Lib.nDigits_small (by simpa using h)];exact Nat.le_refl _
 | k+1,u,h=>by
  by_cases h1:u<10
  ·rw [Lib.nDigits_small h1];omega
  ·rw [Lib.nDigits_big h1]
   have:=zho k (u / 10) (by rw [Nat.pow_succ] at h;omega);omega
theorem zj8 (n0:Nat) (w:World) (hn:n0≤1099511627776):Calls Tryz.prog 67 #[.int .i64 n0] w fun e w'=>e = .returned (.string (B (Lib.decDigits n0)))∧w=w':=by
 have hL:=j7f (show (Lib.decDigits n0).length≤20 by
  rw [Lib.decDigits_length]
  exact zho 19 n0 (Nat.lt_of_le_of_lt hn (by decide)))
 have h0:=zkm n0;generalize Lib.decDigits n0=D at *;have hsv:tenL.length=10:=rfl
 have key:∀ n:Nat,n≤1099511627776→n % 10<10∧(0:Int)≤(n:Int) % 10∧((n:Int) % 10).toNat=n % 10∧IntKind.i64.wrap ((n:Int) % 10)=(n:Int) % 10∧IntKind.i64.wrap ((n:Int) % 10+1)=(n:Int) % 10+1∧((n:Int) % 10+1).toNat=n % 10+1∧(n:Int) % 10+1≤(tenL.length:Int)∧(n:Int) % 10≤(n:Int) % 10+1∧Int.tmod (n:Int) 10=(n:Int) % 10:=fun n hn=>by
  refine ⟨Nat.mod_lt _ (by omega),by omega,by omega,IntWalk.i64_in _ (by omega),IntWalk.i64_in _ (by omega),by omega,by rw [hsv];omega,by omega,Int.tmod_eq_emod_of_nonneg (by omega)⟩
 have HK:=j7f key;have H0:=j7f h0;clear key h0;obtain ⟨q2,q3,q4,q5,q6,q7,q8,q9,q10⟩:=HK.out n0 hn;go_enter Tryz.func67,Tryz.ntmps67;go_wp2_with fail;clear q2 q3 q4 q5 q6 q7 q8 q9 q10
 go_loopw [0,3] (fun n t wr=>∃ (m:Nat) (u:List UInt8),n = .int .i64 m∧t = .string (B u)∧m≤1099511627776∧Hid (D=moreD m++u)∧wr=w) (fun n _ _=>(intOf n).toNat)
 case atStart=>exact ⟨n0,_,rfl,rfl,hn,H0.out,rfl⟩
 case round =>
  obtain ⟨m,u,rfl,rfl,hm,HD,rfl⟩:=hrel;by_cases h9:9<m
  ·obtain ⟨a,ha⟩:∃ a,a=m / 10:=⟨_,rfl⟩
   have hq:Int.tdiv (m:Int) 10=(a:Int):=by rw [Int.tdiv_eq_ediv_of_nonneg (by omega)];omega
   have hal:a≤1099511627776:=by omega
   have HA:=j7f (show a<m by omega)
   have HN:=j7f (show D=moreD a++((tenL.take (a % 10+1)).drop (a % 10)++u) by
    rw [HD.out,show moreD m=Lib.decDigits (m / 10) from if_pos h9,← ha,zkm a,List.append_assoc])
   have hul:((tenL.take (a % 10+1)).drop (a % 10)++u).length≤20:=by
    have h1:=hL.out;rw [HN.out] at h1;rw [List.length_append] at h1;omega
   have hul2:=hul;rw [List.length_append,ten_at _ (Nat.mod_lt _ (by omega)),List.length_singleton] at hul2;have c1:(9:Int)<(m:Int):=by omega
   have c2:decide ((9:Int)<(m:Int))=true:=decide_eq_true c1;clear h9 ha HD hul;obtain ⟨q2,q3,q4,q5,q6,q7,q8,q9,q10⟩:=HK.out a hal;have q11:IntKind.i64.wrap (a:Int)=(a:Int):=IntWalk.i64_in _ (by omega);go_wp2_with fail;go_roundw
   case rel=>exact ⟨a,_,rfl,rfl,hal,HN.out,trivial⟩
   case measure=>have:=HA.out;simp [intOf];omega
  ·have HE:=j7f (show D=u by
    rw [HD.out,show moreD m=[] from if_neg h9,List.nil_append])
   have c1:=no (show ¬ (9:Int)<(m:Int) by omega);clear h9 HD;go_wp2_with fail;go_ret;exact ⟨by rw [HE.out];rfl,rfl⟩
theorem zi2 {f:Nat→Bool} {n:Nat} {e:Int} (h:e∈evs f n):∃ j:Nat,j<n∧e=(j:Int):=zd2 h
def lastE (E:List Int):Int:=if E=[] then -1 else E.getLastD 0
def headE (E:List Int):Int:=if E=[] then -1 else E.headD 0
theorem zhp (E:List Int) (k:Int):lastE (E++[k])=k:=by
 unfold lastE;rw [if_neg (by simp)];simp
theorem zn1 {E:List Int} (k:Int) (h:E≠[]):headE (E++[k])=headE E:=by
 unfold headE;rw [if_neg (by simp),if_neg h]
 cases E with
 | nil=>exact absurd rfl h
 | cons a r=>rfl
theorem zkn {f:Nat→Bool} {n:Nat} (h:evs f n≠[]):∃ j:Nat,j<n∧lastE (evs f n)=(j:Int):=by
 unfold lastE;rw [if_neg h];refine zi2 (f:=f) ?_;rw [List.getLastD_eq_getLast?,List.getLast?_eq_some_getLast h];exact List.getLast_mem h
theorem zko {f:Nat→Bool} {n:Nat} (h:evs f n≠[]):∃ j:Nat,j<n∧headE (evs f n)=(j:Int):=by
 unfold headE;rw [if_neg h];refine zi2 (f:=f) ?_
 cases he:evs f n with
 | nil=>exact absurd he h
 | cons a r=>exact List.mem_cons_self ..
theorem evs_head {f:Nat→Bool} {k n:Nat} (h0:evs f k=[]) (h:f k=true) (hk:k<n):evs f n≠[]∧(evs f n).headD 0=(k:Int):=by
 have:=evs_at h hk;rw [h0] at this
 cases he:evs f n with
 | nil=>rw [he] at this;cases this
 | cons a r=>rw [he] at this;cases this;exact ⟨by simp,rfl⟩
set_option maxHeartbeats 3200000 in
theorem zpu (v p:List UInt8) (al:Value) (w:World) (ha:Sl w atC 6 al (parse p)) (hv:v.length≤1048576) (hp:p.length≤16777216) :
  Calls Tryz.prog 68 #[.string (B v),al,.int .i64 1,.bool false] w fun e w'=>e = .returned (.string (B (cutG v [37] p)))∧Below w.heap.size w w':=by
 have hpl:=zbe p;have HM:=j7f fun s (hs:s.length≤1048576) W (hW:Below w.heap.size w W)=>zdt (parse p) s al W (ha.below hW) (by omega) (by omega);clear hpl ha
 have HE:∃ E:Nat→List Int,(E=fun n=>evs (fun n=>gm (parse p) (v.drop n)) n):=⟨_,rfl⟩
 obtain ⟨E,hE⟩:=HE;have hE0:E 0=[]:=by rw [hE];rfl
 have hEy:∀ k,gm (parse p) (v.drop k)=true→E (k+1)=E k++[(k:Int)]:=fun k h=>by rw [hE];exact zcb (f:=(fun n=>gm (parse p) (v.drop n))) h
 have hEn:∀ k,gm (parse p) (v.drop k)=false→E (k+1)=E k:=fun k h=>by rw [hE];exact evs_no (f:=(fun n=>gm (parse p) (v.drop n))) h
 have hEi:∀ k,E k≠[]→∃ j:Nat,j<k∧lastE (E k)=(j:Int):=fun k h=>by rw [hE] at h ⊢;exact zkn h
 have hR:cutG v [37] p=if E (v.length+1)=[] then v else v.take ((E (v.length+1)).getLastD 0).toNat:=by
  rw [hE];unfold cutG;rw [if_pos (by decide)];rfl
 rw [hR];generalize hRS:(if E (v.length+1)=[] then v else v.take ((E (v.length+1)).getLastD 0).toNat)=RS;have HRS:=j7f hRS.symm;have HEY:=j7f hEy;have HEN:=j7f hEn;have HEI:=j7f hEi;have H00:=j7f hE0;clear hE hE0 hEy hEn hEi hR hRS;go_enter Tryz.func68,Tryz.ntmps68;go_wp2_with fail;rw [show ({ data:=#[] }:ByteArray)=B [] from rfl]
 go_loopw [9,10] (fun b i wr=>∃ k:Nat,k≤v.length+1∧i = .int .i64 k∧b = .int .i64 (lastE (E k))∧Hid (Below w.heap.size w wr)) (fun _ i _=>v.length+1 - (intOf i).toNat)
 case atStart=>exact ⟨0,by omega,rfl,by rw [H00.out];rfl,Below.refl _ _⟩
 case round =>
  obtain ⟨k,hk,rfl,rfl,HB⟩:=hrel;by_cases hlt:k≤v.length
  ·have k0:(0:Int)≤(k:Int):=by omega
   have k1:(k:Int)≤(v.length:Int):=by omega
   have d0:decide ((k:Int)≤(v.length:Int))=true:=decide_eq_true k1;have HMK:=j7f (HM.out (v.drop k) (by simp;omega) _ HB.out)
   cases hg:gm (parse p) (v.drop k) with
   | false =>
    rw [hg] at HMK;have HX:=j7f (HEN.out k hg);clear hg
    go_wp2_with (go_at_call 104;refine HMK.out.mono ?_;rintro e w2 ⟨rfl,hb⟩;have HB2:=j7f (zb HB.out hb);clear hb)
    go_roundw
    case rel=>exact ⟨k+1,by omega,by go_num,by rw [HX.out],HB2.out⟩
    case measure=>simp [intOf];omega
   | true =>
    rw [hg] at HMK;have HX:=j7f (HEY.out k hg);clear hg;by_cases hne:E k=[]
    ·have HY:=j7f (show lastE (E (k+1))=(k:Int) by rw [HX.out,hne];rfl)
     have HZ:=j7f (show lastE (E k) = -1 by rw [hne];rfl);rw [HZ.out];clear hne
     go_wp2_with (go_at_call 104;refine HMK.out.mono ?_;rintro e w2 ⟨rfl,hb⟩;have HB2:=j7f (zb HB.out hb);clear hb)
     go_roundw
     case rel=>exact ⟨k+1,by omega,by go_num,by rw [HY.out],HB2.out⟩
     case measure=>simp [intOf];omega
    ·obtain ⟨j,hj,hje⟩:=HEI.out k hne
     have HY:=j7f (show lastE (E (k+1))=(k:Int) by rw [HX.out,zhp]);rw [hje];have e0:decide ((j:Int)<0)=false:=decide_eq_false (by omega);clear hne hje
     go_wp2_with (go_at_call 104;refine HMK.out.mono ?_;rintro e w2 ⟨rfl,hb⟩;have HB2:=j7f (zb HB.out hb);clear hb)
     go_roundw
     case rel=>exact ⟨k+1,by omega,by go_num,by rw [HY.out],HB2.out⟩
     case measure=>simp [intOf];omega
  ·have hk2:k=v.length+1:=by omega
   subst hk2;have d0:decide (((v.length+1:Nat):Int)≤(v.length:Int))=false:=decide_eq_false (by omega);have d1:decide ((v.length:Int)+1≤(v.length:Int))=false:=decide_eq_false (by omega);clear hlt;by_cases hne:E (v.length+1)=[]
   ·have HRV:=j7f (HRS.out.trans (if_pos hne))
    rw [hne];have HZ:=j7f (show lastE [] = -1 from rfl);rw [HZ.out];clear hne;go_wp2_with fail;go_ret;exact ⟨by rw [HRV.out];rfl,HB.out⟩
   ·obtain ⟨j,hj,hje⟩:=HEI.out _ hne
    have hjd:(E (v.length+1)).getLastD 0=(j:Int):=by rw [← hje];unfold lastE;rw [if_neg hne]
    have HRV:=j7f (HRS.out.trans (if_neg hne));rw [hjd] at HRV;rw [hje];have e0:decide ((j:Int)<0)=false:=decide_eq_false (by omega);have e1:(0:Int)≤(j:Int):=by omega
    have e2:(j:Int)≤(v.length:Int):=by omega
    have e3:j≤v.length:=by omega
    clear hne hje hjd;go_wp2_with fail;go_ret;exact ⟨by rw [HRV.out];rfl,HB.out⟩
set_option maxHeartbeats 3200000 in
theorem zpv (v p:List UInt8) (al:Value) (w:World) (ha:Sl w atC 6 al (parse p)) (hv:v.length≤1048576) (hp:p.length≤16777216) :
  Calls Tryz.prog 68 #[.string (B v),al,.int .i64 1,.bool true] w fun e w'=>e = .returned (.string (B (cutG v [37,37] p)))∧Below w.heap.size w w':=by
 have hpl:=zbe p;have HM:=j7f fun s (hs:s.length≤1048576) W (hW:Below w.heap.size w W)=>zdt (parse p) s al W (ha.below hW) (by omega) (by omega);clear hpl ha
 have HE:∃ E:Nat→List Int,(E=fun n=>evs (fun n=>gm (parse p) (v.drop n)) n):=⟨_,rfl⟩
 obtain ⟨E,hE⟩:=HE;have hE0:E 0=[]:=by rw [hE];rfl
 have hEy:∀ k,gm (parse p) (v.drop k)=true→E (k+1)=E k++[(k:Int)]:=fun k h=>by rw [hE];exact zcb (f:=(fun n=>gm (parse p) (v.drop n))) h
 have hEn:∀ k,gm (parse p) (v.drop k)=false→E (k+1)=E k:=fun k h=>by rw [hE];exact evs_no (f:=(fun n=>gm (parse p) (v.drop n))) h
 have hEi:∀ k,E k≠[]→∃ j:Nat,j<k∧headE (E k)=(j:Int):=fun k h=>by rw [hE] at h ⊢;exact zko h
 have hR:cutG v [37,37] p=if E (v.length+1)=[] then v else v.take ((E (v.length+1)).headD 0).toNat:=by
  rw [hE];unfold cutG;rw [if_pos (by decide)];rfl
 rw [hR];generalize hRS:(if E (v.length+1)=[] then v else v.take ((E (v.length+1)).headD 0).toNat)=RS;have HRS:=j7f hRS.symm;have HEY:=j7f hEy;have HEN:=j7f hEn;have HEI:=j7f hEi;have H00:=j7f hE0;clear hE hE0 hEy hEn hEi hR hRS;go_enter Tryz.func68,Tryz.ntmps68;go_wp2_with fail;rw [show ({ data:=#[] }:ByteArray)=B [] from rfl]
 go_loopw [9,10] (fun b i wr=>∃ k:Nat,k≤v.length+1∧i = .int .i64 k∧b = .int .i64 (headE (E k))∧Hid (Below w.heap.size w wr)) (fun _ i _=>v.length+1 - (intOf i).toNat)
 case atStart=>exact ⟨0,by omega,rfl,by rw [H00.out];rfl,Below.refl _ _⟩
 case round =>
  obtain ⟨k,hk,rfl,rfl,HB⟩:=hrel;by_cases hlt:k≤v.length
  ·have k0:(0:Int)≤(k:Int):=by omega
   have k1:(k:Int)≤(v.length:Int):=by omega
   have d0:decide ((k:Int)≤(v.length:Int))=true:=decide_eq_true k1;have HMK:=j7f (HM.out (v.drop k) (by simp;omega) _ HB.out)
   cases hg:gm (parse p) (v.drop k) with
   | false =>
    rw [hg] at HMK;have HX:=j7f (HEN.out k hg);clear hg
    go_wp2_with (go_at_call 104;refine HMK.out.mono ?_;rintro e w2 ⟨rfl,hb⟩;have HB2:=j7f (zb HB.out hb);clear hb)
    go_roundw
    case rel=>exact ⟨k+1,by omega,by go_num,by rw [HX.out],HB2.out⟩
    case measure=>simp [intOf];omega
   | true =>
    rw [hg] at HMK;have HX:=j7f (HEY.out k hg);clear hg;by_cases hne:E k=[]
    ·have HY:=j7f (show headE (E (k+1))=(k:Int) by rw [HX.out,hne];rfl)
     have HZ:=j7f (show headE (E k) = -1 by rw [hne];rfl);rw [HZ.out];clear hne
     go_wp2_with (go_at_call 104;refine HMK.out.mono ?_;rintro e w2 ⟨rfl,hb⟩;have HB2:=j7f (zb HB.out hb);clear hb)
     go_roundw
     case rel=>exact ⟨k+1,by omega,by go_num,by rw [HY.out],HB2.out⟩
     case measure=>simp [intOf];omega
    ·obtain ⟨j,hj,hje⟩:=HEI.out k hne
     have HY:=j7f (show headE (E (k+1))=(j:Int) by rw [HX.out,zn1 _ hne,hje]);rw [hje];have e0:decide ((j:Int)<0)=false:=decide_eq_false (by omega);clear hne hje
     go_wp2_with (go_at_call 104;refine HMK.out.mono ?_;rintro e w2 ⟨rfl,hb⟩;have HB2:=j7f (zb HB.out hb);clear hb)
     go_roundw
     case rel=>exact ⟨k+1,by omega,by go_num,by rw [HY.out],HB2.out⟩
     case measure=>simp [intOf];omega
  ·have hk2:k=v.length+1:=by omega
   subst hk2;have d0:decide (((v.length+1:Nat):Int)≤(v.length:Int))=false:=decide_eq_false (by omega);have d1:decide ((v.length:Int)+1≤(v.length:Int))=false:=decide_eq_false (by omega);clear hlt;by_cases hne:E (v.length+1)=[]
   ·have HRV:=j7f (HRS.out.trans (if_pos hne))
    rw [hne];have HZ:=j7f (show headE [] = -1 from rfl);rw [HZ.out];clear hne;go_wp2_with fail;go_ret;exact ⟨by rw [HRV.out];rfl,HB.out⟩
   ·obtain ⟨j,hj,hje⟩:=HEI.out _ hne
    have hjd:(E (v.length+1)).headD 0=(j:Int):=by rw [← hje];unfold headE;rw [if_neg hne]
    have HRV:=j7f (HRS.out.trans (if_neg hne));rw [hjd] at HRV;rw [hje];have e0:decide ((j:Int)<0)=false:=decide_eq_false (by omega);have e1:(0:Int)≤(j:Int):=by omega
    have e2:(j:Int)≤(v.length:Int):=by omega
    have e3:j≤v.length:=by omega
    clear hne hje hjd;go_wp2_with fail;go_ret;exact ⟨by rw [HRV.out];rfl,HB.out⟩
set_option maxHeartbeats 3200000 in
theorem zpw (v p:List UInt8) (al:Value) (w:World) (ha:Sl w atC 6 al (parse p)) (hv:v.length≤1048576) (hp:p.length≤16777216) :
  Calls Tryz.prog 68 #[.string (B v),al,.int .i64 2,.bool false] w fun e w'=>e = .returned (.string (B (cutG v [35] p)))∧Below w.heap.size w w':=by
 have hpl:=zbe p;have HM:=j7f fun s (hs:s.length≤1048576) W (hW:Below w.heap.size w W)=>zdt (parse p) s al W (ha.below hW) (by omega) (by omega);clear hpl ha
 have HE:∃ E:Nat→List Int,(E=fun n=>evs (fun n=>gm (parse p) (v.take n)) n):=⟨_,rfl⟩
 obtain ⟨E,hE⟩:=HE;have hE0:E 0=[]:=by rw [hE];rfl
 have hEy:∀ k,gm (parse p) (v.take k)=true→E (k+1)=E k++[(k:Int)]:=fun k h=>by rw [hE];exact zcb (f:=(fun n=>gm (parse p) (v.take n))) h
 have hEn:∀ k,gm (parse p) (v.take k)=false→E (k+1)=E k:=fun k h=>by rw [hE];exact evs_no (f:=(fun n=>gm (parse p) (v.take n))) h
 have hEi:∀ k,E k≠[]→∃ j:Nat,j<k∧headE (E k)=(j:Int):=fun k h=>by rw [hE] at h ⊢;exact zko h
 have hEh:∀ k,E k=[]→gm (parse p) (v.take k)=true→k<v.length+1→E (v.length+1)≠[]∧(E (v.length+1)).headD 0=(k:Int):=fun k h0 h hk=>by rw [hE] at h0 ⊢;exact evs_head (f:=(fun n=>gm (parse p) (v.take n))) h0 h hk
 have hR:cutG v [35] p=if E (v.length+1)=[] then v else v.drop ((E (v.length+1)).headD 0).toNat:=by
  rw [hE];unfold cutG;rw [if_neg (by decide)];rfl
 rw [hR];generalize hRS:(if E (v.length+1)=[] then v else v.drop ((E (v.length+1)).headD 0).toNat)=RS;have HRS:=j7f hRS.symm;have HEY:=j7f hEy;have HEN:=j7f hEn;have HEI:=j7f hEi;have HEH:=j7f hEh;have H00:=j7f hE0;clear hE hE0 hEy hEn hEi hR hRS hEh;go_enter Tryz.func68,Tryz.ntmps68;go_wp2_with fail;rw [show ({ data:=#[] }:ByteArray)=B [] from rfl]
 go_loopw [9,10] (fun b i wr=>∃ k:Nat,k≤v.length+1∧i = .int .i64 k∧b = .int .i64 (-1)∧E k=[]∧Hid (Below w.heap.size w wr)) (fun _ i _=>v.length+1 - (intOf i).toNat)
 case atStart=>exact ⟨0,by omega,rfl,rfl,H00.out,Below.refl _ _⟩
 case round =>
  obtain ⟨k,hk,rfl,rfl,hEk,HB⟩:=hrel;have HEK:=j7f hEk;clear hEk;by_cases hlt:k≤v.length
  ·have k0:(0:Int)≤(k:Int):=by omega
   have k1:(k:Int)≤(v.length:Int):=by omega
   have d0:decide ((k:Int)≤(v.length:Int))=true:=decide_eq_true k1;have HMK:=j7f (HM.out (v.take k) (by simp;omega) _ HB.out)
   cases hg:gm (parse p) (v.take k) with
   | false =>
    rw [hg] at HMK;have HX:=j7f ((HEN.out k hg).trans HEK.out);clear hg
    go_wp2_with (go_at_call 104;refine HMK.out.mono ?_;rintro e w2 ⟨rfl,hb⟩;have HB2:=j7f (zb HB.out hb);clear hb)
    go_roundw
    case rel=>exact ⟨k+1,by omega,by go_num,rfl,HX.out,HB2.out⟩
    case measure=>simp [intOf];omega
   | true =>
    rw [hg] at HMK;have HX:=j7f (HEH.out k HEK.out hg (by omega));clear hg
    go_wp2_with (go_at_call 104;refine HMK.out.mono ?_;rintro e w2 ⟨rfl,hb⟩;have HB2:=j7f (zb HB.out hb);clear hb)
    go_ret;exact ⟨by rw [HRS.out,if_neg HX.out.1,HX.out.2];rfl,HB2.out⟩
  ·have hk2:k=v.length+1:=by omega
   subst hk2;have d0:decide (((v.length+1:Nat):Int)≤(v.length:Int))=false:=decide_eq_false (by omega);have d1:decide ((v.length:Int)+1≤(v.length:Int))=false:=decide_eq_false (by omega);clear hlt;go_wp2_with fail;go_ret;exact ⟨by rw [HRS.out,if_pos HEK.out];rfl,HB.out⟩
set_option maxHeartbeats 3200000 in
theorem zpx (v p:List UInt8) (al:Value) (w:World) (ha:Sl w atC 6 al (parse p)) (hv:v.length≤1048576) (hp:p.length≤16777216) :
  Calls Tryz.prog 68 #[.string (B v),al,.int .i64 2,.bool true] w fun e w'=>e = .returned (.string (B (cutG v [35,35] p)))∧Below w.heap.size w w':=by
 have hpl:=zbe p;have HM:=j7f fun s (hs:s.length≤1048576) W (hW:Below w.heap.size w W)=>zdt (parse p) s al W (ha.below hW) (by omega) (by omega);clear hpl ha
 have HE:∃ E:Nat→List Int,(E=fun n=>evs (fun n=>gm (parse p) (v.take n)) n):=⟨_,rfl⟩
 obtain ⟨E,hE⟩:=HE;have hE0:E 0=[]:=by rw [hE];rfl
 have hEy:∀ k,gm (parse p) (v.take k)=true→E (k+1)=E k++[(k:Int)]:=fun k h=>by rw [hE];exact zcb (f:=(fun n=>gm (parse p) (v.take n))) h
 have hEn:∀ k,gm (parse p) (v.take k)=false→E (k+1)=E k:=fun k h=>by rw [hE];exact evs_no (f:=(fun n=>gm (parse p) (v.take n))) h
 have hEi:∀ k,E k≠[]→∃ j:Nat,j<k∧lastE (E k)=(j:Int):=fun k h=>by rw [hE] at h ⊢;exact zkn h
 have hR:cutG v [35,35] p=if E (v.length+1)=[] then v else v.drop ((E (v.length+1)).getLastD 0).toNat:=by
  rw [hE];unfold cutG;rw [if_neg (by decide)];rfl
 rw [hR];generalize hRS:(if E (v.length+1)=[] then v else v.drop ((E (v.length+1)).getLastD 0).toNat)=RS;have HRS:=j7f hRS.symm;have HEY:=j7f hEy;have HEN:=j7f hEn;have HEI:=j7f hEi;have H00:=j7f hE0;clear hE hE0 hEy hEn hEi hR hRS;go_enter Tryz.func68,Tryz.ntmps68;go_wp2_with fail;rw [show ({ data:=#[] }:ByteArray)=B [] from rfl]
 go_loopw [9,10] (fun b i wr=>∃ k:Nat,k≤v.length+1∧i = .int .i64 k∧b = .int .i64 (lastE (E k))∧Hid (Below w.heap.size w wr)) (fun _ i _=>v.length+1 - (intOf i).toNat)
 case atStart=>exact ⟨0,by omega,rfl,by rw [H00.out];rfl,Below.refl _ _⟩
 case round =>
  obtain ⟨k,hk,rfl,rfl,HB⟩:=hrel;by_cases hlt:k≤v.length
  ·have k0:(0:Int)≤(k:Int):=by omega
   have k1:(k:Int)≤(v.length:Int):=by omega
   have d0:decide ((k:Int)≤(v.length:Int))=true:=decide_eq_true k1;have HMK:=j7f (HM.out (v.take k) (by simp;omega) _ HB.out)
   cases hg:gm (parse p) (v.take k) with
   | false =>
    rw [hg] at HMK;have HX:=j7f (HEN.out k hg);clear hg
    go_wp2_with (go_at_call 104;refine HMK.out.mono ?_;rintro e w2 ⟨rfl,hb⟩;have HB2:=j7f (zb HB.out hb);clear hb)
    go_roundw
    case rel=>exact ⟨k+1,by omega,by go_num,by rw [HX.out],HB2.out⟩
    case measure=>simp [intOf];omega
   | true =>
    rw [hg] at HMK;have HX:=j7f (HEY.out k hg);clear hg;by_cases hne:E k=[]
    ·have HY:=j7f (show lastE (E (k+1))=(k:Int) by rw [HX.out,hne];rfl)
     have HZ:=j7f (show lastE (E k) = -1 by rw [hne];rfl);rw [HZ.out];clear hne
     go_wp2_with (go_at_call 104;refine HMK.out.mono ?_;rintro e w2 ⟨rfl,hb⟩;have HB2:=j7f (zb HB.out hb);clear hb)
     go_roundw
     case rel=>exact ⟨k+1,by omega,by go_num,by rw [HY.out],HB2.out⟩
     case measure=>simp [intOf];omega
    ·obtain ⟨j,hj,hje⟩:=HEI.out k hne
     have HY:=j7f (show lastE (E (k+1))=(k:Int) by rw [HX.out,zhp]);rw [hje];have e0:decide ((j:Int)<0)=false:=decide_eq_false (by omega);clear hne hje
     go_wp2_with (go_at_call 104;refine HMK.out.mono ?_;rintro e w2 ⟨rfl,hb⟩;have HB2:=j7f (zb HB.out hb);clear hb)
     go_roundw
     case rel=>exact ⟨k+1,by omega,by go_num,by rw [HY.out],HB2.out⟩
     case measure=>simp [intOf];omega
  ·have hk2:k=v.length+1:=by omega
   subst hk2;have d0:decide (((v.length+1:Nat):Int)≤(v.length:Int))=false:=decide_eq_false (by omega);have d1:decide ((v.length:Int)+1≤(v.length:Int))=false:=decide_eq_false (by omega);clear hlt;by_cases hne:E (v.length+1)=[]
   ·have HRV:=j7f (HRS.out.trans (if_pos hne))
    rw [hne];have HZ:=j7f (show lastE [] = -1 from rfl);rw [HZ.out];clear hne;go_wp2_with fail;go_ret;exact ⟨by rw [HRV.out];rfl,HB.out⟩
   ·obtain ⟨j,hj,hje⟩:=HEI.out _ hne
    have hjd:(E (v.length+1)).getLastD 0=(j:Int):=by rw [← hje];unfold lastE;rw [if_neg hne]
    have HRV:=j7f (HRS.out.trans (if_neg hne));rw [hjd] at HRV;rw [hje];have e0:decide ((j:Int)<0)=false:=decide_eq_false (by omega);have e1:(0:Int)≤(j:Int):=by omega
    have e2:(j:Int)≤(v.length:Int):=by omega
    have e3:j≤v.length:=by omega
    clear hne hje hjd;go_wp2_with fail;go_ret;exact ⟨by rw [HRV.out];rfl,HB.out⟩
end Go.Proofs.YtfmecpnokefokaaGreatDoor.Ex
