/-
  Trees of files, on: the walk of Make, where it makes. Conditions: paths of at most 2^30 bytes, fewer than 10000 files; the library's variable MaxLen holds some number.
-/
import Derived.Test.YtjcdmjdofdnaoaaGreatDoorTree2
set_option linter.unusedSimpArgs false
set_option linter.unusedVariables false
namespace Go.Proofs.YtjcdmjdofdnaoaaGreatDoor.Fil
open Go.ChangeShapes Go.WideShapes Go.Deep Go.RowKit
theorem _root_.Go.Proofs.YtjcdmjdofdnaoaaGreatDoor.j7ac {p:Prop} (h:p):Go.RowKit.Hid p:=Go.Lib.hid h
theorem kd_mem {x:List Fl} (h:RowF x) {f:Fl} (hf:f∈x):kd x (nms f.path)=some f.kind:=by
 obtain ⟨h1,h2,_⟩:=h.p f hf;obtain ⟨e,hn⟩:=nms_ok h1;have hk:nms f.path≠[]:=fun q=>by rw [q] at e;exact h2 e.symm
 unfold kd;rw [if_neg hk,if_pos (List.all_eq_true.2 hn),e]
 have:x.find? (fun g=>g.path == f.path)=some f:=by
  have hd:=h.d;clear h h1 h2 e hn hk
  induction x with
  | nil=>cases hf
  | cons g r ih =>
   obtain ⟨d1,d2⟩:=List.pairwise_cons.1 hd;by_cases q:g.path=f.path
   ·rcases List.mem_cons.1 hf with rfl|hf
    ·simp
    ·exact absurd q (d1 f hf)
   ·rcases List.mem_cons.1 hf with rfl|hf
    ·exact absurd rfl q
    ·rw [List.find?_cons,show (g.path == f.path)=false by rw [beq_eq_false_iff_ne];exact q]
     exact ih hf d2
 rw [this];rfl
theorem zl6 {x:List Fl} {ks:List (List UInt8)} {k:Int} (hk:kd x ks=some k) (hne:ks≠[]):∃ f∈x,f.path=txt ks∧f.kind=k∧nms f.path=ks:=by
 have hn:=zkd (x:=x) (ks:=ks) (by rw [hk];rfl);unfold kd at hk;rw [if_neg hne,if_pos (List.all_eq_true.2 hn)] at hk
 cases hf:x.find? (fun f=>f.path == txt ks) with
 | none=>rw [hf] at hk;cases hk
 | some f =>
  rw [hf] at hk;have hp:=List.find?_some hf;simp at hp;exact ⟨f,List.mem_of_find?_eq_some hf,hp,by simpa using hk,by rw [hp];exact zcd hn⟩
def lastsL (x:List Fl) (p:List UInt8):List (List UInt8):=(x.filter fun f=>dirL f.path == p).map fun f=>lastN f.path
theorem zh5 {x:List Fl} (h:RowF x) {p:List UInt8} (hp:pathB p=true) (a:List UInt8):a∈lastsL x p ↔ (kd x (nms p++[a])).isSome=true:=by
 unfold lastsL;rw [List.mem_map]
 constructor
 ·rintro ⟨f,hf,rfl⟩
  rw [List.mem_filter] at hf;obtain ⟨h1,h2,_⟩:=h.p f hf.1;have hs:=(za3 h1 h2).2.1;have hd:dirL f.path=p:=by simpa using hf.2
  rw [hd] at hs;rw [← hs,kd_mem h hf.1];rfl
 ·intro hk
  obtain ⟨k,hk⟩:=Option.isSome_iff_exists.1 hk;obtain ⟨f,hf,_,_,hn⟩:=zl6 hk (by simp);obtain ⟨h1,h2,_⟩:=h.p f hf;obtain ⟨s1,s2,_⟩:=za3 h1 h2;rw [hn] at s2;have hh:=List.append_inj' s2 rfl;refine ⟨f,List.mem_filter.2 ⟨hf,?_⟩,?_⟩
  ·rw [beq_iff_eq,← (nms_ok s1).1,← hh.1,(nms_ok hp).1]
  ·have:=hh.2;simp at this;exact this.symm
def putL:List (List UInt8)→List UInt8→List (List UInt8)
 | [],s=>[s]
 | a :: r,s=>if s≤a then (if a=s then a :: r else s :: a :: r) else a :: putL r s
theorem zf4 (s:List UInt8):∀ (l:List (List UInt8)) (a:List UInt8),a∈putL l s ↔ a=s∨a∈l
 | [],a=>by simp [putL]
 | b :: r,a=>by
  unfold putL
  split
  ·split
   ·rename_i _ h;subst h;simp
   ·simp
  ·rw [List.mem_cons,zf4 s r a,List.mem_cons]
   constructor
   ·rintro (h|h|h)
    ·exact .inr (.inl h)
    ·exact .inl h
    ·exact .inr (.inr h)
   ·rintro (h|h|h)
    ·exact .inr (.inl h)
    ·exact .inl h
    ·exact .inr (.inr h)
abbrev Rise (l:List (List UInt8)):Prop:=l.Pairwise (· < ·)
theorem zfn {a b:List UInt8} (h:a≤b) (hn:a≠b):a<b:=by
 rcases List.le_iff_lt_or_eq.1 h with h|h
 ·exact h
 ·exact absurd h hn
theorem lt_of_not_le {a b:List UInt8} (h:¬ a≤b):b<a:=by simpa using h
theorem zh6 (s:List UInt8):∀ (l:List (List UInt8)),Rise l→Rise (putL l s)
 | [],_=>by simp [putL,Rise]
 | b :: r,h=>by
  obtain ⟨h1,h2⟩:=List.pairwise_cons.1 h;unfold putL
  split
  ·rename_i hs
   split
   ·exact h
   ·rename_i hne
    have hlt:s<b:=zfn hs (fun e=>hne e.symm);refine List.pairwise_cons.2 ⟨fun a ha=>?_,h⟩;rcases List.mem_cons.1 ha with rfl|ha
    ·exact hlt
    ·exact List.lt_trans hlt (h1 a ha)
  ·rename_i hs
   refine List.pairwise_cons.2 ⟨fun a ha=>?_,zh6 s r h2⟩;rcases (zf4 s r a).1 ha with rfl|ha
   ·exact lt_of_not_le hs
   ·exact h1 a ha
theorem zbn (a:List UInt8):∀ (l acc:List (List UInt8)),a∈l.foldl putL acc ↔ a∈l∨a∈acc
 | [],acc=>by simp
 | b :: r,acc=>by
  rw [List.foldl_cons,zbn a r,zf4,List.mem_cons]
  constructor
  ·rintro (h|h|h)
   ·exact .inl (.inr h)
   ·exact .inl (.inl h)
   ·exact .inr h
  ·rintro ((h|h)|h)
   ·exact .inr (.inl h)
   ·exact .inl h
   ·exact .inr (.inr h)
theorem zb5:∀ (l acc:List (List UInt8)),Rise acc→Rise (l.foldl putL acc)
 | [],_,h=>h
 | b :: r,acc,h=>zb5 r _ (zh6 b acc h)
theorem zgt {l:List (List UInt8)} (h:Rise l):l.Nodup:=h.imp fun {a b} hlt e=>by subst e;exact absurd hlt (by simp)
theorem zl7 {l m:List (List UInt8)} (hl:Rise l) (hm:Rise m) (h:∀ a,a∈l ↔ a∈m):l=m:=by
 refine List.Perm.eq_of_pairwise (le:=fun a b=>a≤b) (fun a b _ _ h1 h2=>List.le_antisymm h1 h2) (hl.imp fun {a b} q=>List.le_of_lt q) (hm.imp fun {a b} q=>List.le_of_lt q) ((List.perm_ext_iff_of_nodup (zgt hl) (zgt hm)).2 h)
def namesR (x:List Fl) (p:List UInt8):List (List UInt8):=(lastsL x p).foldl putL []
theorem zp7 {x:List Fl} (h:RowF x) {p:List UInt8} (hp:pathB p=true) {ss:List (List UInt8)} (hs:Rise ss) (hm:∀ a,a∈ss ↔ (kd x (nms p++[a])).isSome=true):ss=namesR x p:=by
 refine zl7 hs (zb5 _ _ List.Pairwise.nil) (fun a=>?_);rw [hm,namesR,zbn,zh5 h hp];simp
def dropL (x:List Fl) (p:List UInt8):List Fl:=x.filter fun f => !(f.path == p)
theorem zl8 {x:List Fl} {p:List UInt8} (hp:pathB p=true) (ks:List (List UInt8)) (hne:p≠[47]):kd (dropL x p) ks=if ks=nms p then none else kd x ks:=by
 obtain ⟨e,hnm⟩:=nms_ok hp;have hk:nms p≠[]:=fun q=>by rw [q] at e;exact hne e.symm
 by_cases h1:ks=[]
 ·subst h1;rw [if_neg (fun q=>hk q.symm)];rfl
 ·unfold kd
  rw [if_neg h1,if_neg h1];by_cases h2:ks.all nameB=true
  ·rw [if_pos h2,if_pos h2]
   unfold dropL;by_cases h3:ks=nms p
   ·rw [if_pos h3,h3,e]
    have:(x.filter fun f => !(f.path == p)).find? (fun f=>f.path == p)=none:=by
     rw [List.find?_eq_none];intro f hf;have:=(List.mem_filter.1 hf).2
     simpa using this
    rw [this];rfl
   ·rw [if_neg h3,List.find?_filter]
    congr 1
    congr 1
    funext f
    cases hq:f.path == txt ks with
    | false=>simp
    | true =>
     have:f.path≠p:=fun q=>h3 (zl5 (List.all_eq_true.1 h2) hnm (by rw [e,← q];exact (by simpa using hq:f.path=txt ks).symm));simp [this]
  ·rw [if_neg h2,if_neg h2]
   split <;> rfl
theorem row_drop {x:List Fl} (h:RowF x) {p:List UInt8} (hp:pathB p=true) (hne:p≠[47]) (hno:∀ a,kd x (nms p++[a])=none):RowF (dropL x p):=by
 have hks:=fun ks=>zl8 (x:=x) hp ks hne;refine ⟨fun f hf=>h.p f (List.mem_filter.1 hf).1,h.d.sublist List.filter_sublist,fun ks a ha=>?_⟩;rw [hks] at ha ⊢;by_cases q:ks++[a]=nms p
 ·rw [if_pos q] at ha;cases ha
 ·rw [if_neg q] at ha
  have hu:=h.u ks a ha;rw [if_neg,hu];intro q2;rw [q2,hno a] at ha;cases ha
theorem drop_len {x:List Fl} (h:RowF x) {p:List UInt8} (hp:pathB p=true) (hne:p≠[47]) (hk:(kd x (nms p)).isSome=true):(dropL x p).length+1=x.length:=by
 obtain ⟨k,hk2⟩:=Option.isSome_iff_exists.1 hk;clear hk;obtain ⟨e,hnm⟩:=nms_ok hp;have hk0:nms p≠[]:=fun q=>by rw [q] at e;exact hne e.symm
 obtain ⟨f,hf,h1,_,_⟩:=zl6 hk2 hk0;rw [e] at h1;have hd:=h.d;unfold dropL;clear h hk2 hp hne e hnm hk0;subst h1
 induction x with
 | nil=>cases hf
 | cons g r ih =>
  obtain ⟨d1,d2⟩:=List.pairwise_cons.1 hd;rcases List.mem_cons.1 hf with rfl|hf
  ·rw [List.filter_cons_of_neg (by simp),List.filter_eq_self.2 (fun b hb=>by simpa using fun q=>d1 b hb q.symm)]
   rfl
  ·rw [List.filter_cons_of_pos (by simpa using d1 f hf)]
   have:=ih hf d2;simp only [List.length_cons];omega
open Go.ChangeShapes Go.WideShapes Go.Deep Go.RowKit Pat
set_option maxRecDepth 100000
def inTree (tb:Nat) (x:List Fl) (nb:List (List UInt8)→Nat) (mp:List (List UInt8)→Option Nat) (j:Nat):Prop:=j=tb∨∃ ks,(kd x ks).isSome=true∧(j=nb ks∨mp ks=some j)
theorem zlb (w:World):Calls Tryz.prog 15 #[] w fun e w'=>e = .returned (.pointer (some ⟨w.heap.size+1,0,none⟩))∧TreeAt w' w.heap.size (w.heap.size+1) [] (fun _=>w.heap.size) (fun _=>none)∧Below w.heap.size w w':=by
 go_enter Tryz.func15,Tryz.ntmps15;go_wp2;go_ret;refine ⟨rfl,⟨by simp,by omega,by go_simp,by go_simp,fun j=>by simp [go_sem],⟨by simp,List.Pairwise.nil,fun ks a h=>?_⟩,fun ks k hk=>?_,fun ks _ _ a=>?_,fun ks r _ h=>(by cases h),fun ks js h1 h2 _=>?_,fun ks js r h1 h2 h=>(by cases h)⟩,zzb⟩
 all_goals have hz:∀ ks:List (List UInt8),ks≠[]→kd [] ks=none:=fun ks hne=>by unfold kd;rw [if_neg hne];split <;> rfl
 ·rw [hz _ (by simp)] at h;cases h
 ·have e:ks=[]:=by
   by_cases q:ks=[]
   ·exact q
   ·rw [hz ks q] at hk;cases hk
  subst e;cases hk;exact ⟨Nat.le_refl _,by simp;omega,by omega,by go_simp,by go_simp,fun j=>by simp [go_sem]⟩
 ·exact hz _ (by simp)
 ·have e:∀ ks:List (List UInt8),(kd [] ks).isSome=true→ks=[]:=fun ks h=>by
   by_cases q:ks=[]
   ·exact q
   ·rw [hz ks q] at h;cases h
  rw [e ks h1,e js h2]
theorem kind_any (w:World) (b0 tb:Nat) (x:List Fl) (nb:List (List UInt8)→Nat) (mp:List (List UInt8)→Option Nat) (p:List UInt8) (h:TreeAt w b0 tb x nb mp) (hm:MaxL w) (hl:p.length≤1073741824) :
  Calls Tryz.prog 56 #[.pointer (some ⟨tb,0,none⟩),.string (B p)] w fun e w'=>e = .returned (.int .i64 (if pathB p=true then kindL x p else 0))∧Below w.heap.size w w':=by
 have HIP:=j7ac (za4 p w hm hl)
 cases hp:pathB p with
 | false =>
  rw [hp] at HIP;go_enter Tryz.func56,Tryz.ntmps56
  go_wp2_with (go_at_call 27;refine HIP.out.mono ?_;rintro e w1 ⟨rfl,hb⟩;have HB:=j7ac hb;clear hb)
  go_ret;exact ⟨rfl,HB.out⟩
 | true =>
  rw [hp] at HIP;have HF:=j7ac fun W (hW:Below w.heap.size w W)=>find_any W b0 tb x nb mp p (h.below hW) (hm.below hW) hp hl;have hkk:=zce h.ok hp;have HT:=j7ac h;unfold nodeV at HF
  cases hk:kd x (nms p) with
  | none =>
   rw [hk] at HF hkk;simp only [Option.isSome_none,Bool.false_eq_true,if_false] at HF;unfold ptrV at HF;have HKK:=j7ac hkk;clear h hm hkk hk hp;go_enter Tryz.func56,Tryz.ntmps56
   go_wp2_with (first|(go_at_call 27;refine HIP.out.mono ?_;rintro e w1 ⟨rfl,hb⟩;have HB:=j7ac hb;clear hb)|(go_at_call 28;refine (HF.out _ HB.out).mono ?_;rintro e w2 ⟨rfl,hb⟩;have HB2:=j7ac (zb HB.out hb);clear hb))
   go_ret;exact ⟨by rw [HKK.out];rfl,HB2.out⟩
  | some k =>
   rw [hk] at HF hkk;simp only [Option.isSome_some,if_true] at HF;unfold ptrV at HF;have HKK:=j7ac hkk;have HN:=j7ac fun W (hW:Below w.heap.size w W)=>(h.below hW).n (nms p) k hk;clear h hm hkk hk hp;go_enter Tryz.func56,Tryz.ntmps56
   go_wp2_with (first|(go_at_call 27;refine HIP.out.mono ?_;rintro e w1 ⟨rfl,hb⟩;have HB:=j7ac hb;clear hb)|(go_at_call 28;refine (HF.out _ HB.out).mono ?_;rintro e w2 ⟨rfl,hb⟩;have HB2:=j7ac (zb HB.out hb);obtain ⟨n1,n2,n3,n4,n5,n6⟩:=HN.out _ HB2.out;haveI:Old w2 (nb (nms p)):=⟨n2⟩;clear hb n6))
   go_ret;exact ⟨by rw [HKK.out];rfl,HB2.out⟩
def makeN (x:List Fl) (p:List UInt8) (k:Int):Int :=
 if pathB p=true then (if k<1∨3<k then 8 else if kindL x p≠0 then 6 else if kindL x (dirL p)=0 then 3 else if kindL x (dirL p)≠1 then 11 else if 10000≤x.length then 12 else 0) else 10
def makeL (x:List Fl) (p:List UInt8) (k:Int):List Fl:=if makeN x p k=0 then x++[⟨p,k⟩] else x
structure MakeP (b0 tb:Nat) (x y:List Fl) (nb:List (List UInt8)→Nat) (mp:List (List UInt8)→Option Nat) (n:Int) (w:World) (e:Ending) (w':World):Prop where
 e:e = .returned (.int .i64 n)
 t:∃ nb' mp',TreeAt w' b0 tb y nb' mp'∧∀ j,inTree tb y nb' mp' j→inTree tb x nb mp j∨w.heap.size≤j
 k:Keeps (fun j=>inTree tb x nb mp j∧b0≤j) w w'
theorem MakeP.same {b0 tb:Nat} {x:List Fl} {nb:List (List UInt8)→Nat} {mp:List (List UInt8)→Option Nat} {n:Int} {w w':World} (h:TreeAt w b0 tb x nb mp) (hb:Below w.heap.size w w'):MakeP b0 tb x x nb mp n w (.returned (.int .i64 n)) w' :=
 ⟨rfl,⟨nb,mp,h.below hb,fun j hj=>.inl hj⟩,Keeps.of_below hb⟩
set_option maxHeartbeats 3200000 in
theorem make_no (w:World) (b0 tb:Nat) (x:List Fl) (nb:List (List UInt8)→Nat) (mp:List (List UInt8)→Option Nat) (p:List UInt8) (k:Int) (h:TreeAt w b0 tb x nb mp) (hm:MaxL w) (hl:p.length≤1073741824) (hx:x.length<10000) (hn:makeN x p k≠0) :
  Calls Tryz.prog 16 #[.pointer (some ⟨tb,0,none⟩),.string (B p),.int .i64 k] w (MakeP b0 tb x x nb mp (makeN x p k) w):=by
 have HIP:=j7ac (za4 p w hm hl);have HT:=j7ac h;have hmn:makeN x p k=if pathB p=true then (if k<1∨3<k then 8 else if kindL x p≠0 then 6 else if kindL x (dirL p)=0 then 3 else if kindL x (dirL p)≠1 then 11 else if 10000≤x.length then 12 else 0) else 10:=rfl
 cases hp:pathB p with
 | false =>
  rw [hp] at HIP;rw [hp,if_neg (by simp)] at hmn;have HMN:=j7ac hmn;clear hn h hm hmn hp;go_enter Tryz.func16,Tryz.ntmps16
  go_wp2_with (go_at_call 27;refine HIP.out.mono ?_;rintro e w1 ⟨rfl,hb⟩;have HB:=j7ac hb;clear hb)
  go_ret;rw [HMN.out];exact MakeP.same HT.out HB.out
 | true =>
  rw [hp] at HIP;rw [hp,if_pos rfl] at hmn;by_cases k1:k<1
  ·rw [if_pos (.inl k1)] at hmn
   have HMN:=j7ac hmn;clear hn h hm hmn hp;go_enter Tryz.func16,Tryz.ntmps16
   go_wp2_with (go_at_call 27;refine HIP.out.mono ?_;rintro e w1 ⟨rfl,hb⟩;have HB:=j7ac hb;clear hb)
   go_ret;rw [HMN.out];exact MakeP.same HT.out HB.out
  by_cases k2:3<k
  ·rw [if_pos (.inr k2)] at hmn
   have HMN:=j7ac hmn;have d1:=no k1;clear hn h hm hmn hp k1;go_enter Tryz.func16,Tryz.ntmps16
   go_wp2_with (go_at_call 27;refine HIP.out.mono ?_;rintro e w1 ⟨rfl,hb⟩;have HB:=j7ac hb;clear hb)
   go_ret;rw [HMN.out];exact MakeP.same HT.out HB.out
  rw [if_neg (by omega)] at hmn;have d1:=no k1;have d2:=no k2;have HF:=j7ac fun W (hW:Below w.heap.size w W)=>find_any W b0 tb x nb mp p (h.below hW) (hm.below hW) hp hl;have hkk:=zce h.ok hp;unfold nodeV at HF
  cases hk:kd x (nms p) with
  | some kk =>
   rw [hk] at HF hkk;have hpos:=kd_pos h.ok hk;rw [if_pos (by rw [hkk];simp;omega)] at hmn;simp only [Option.isSome_some,if_true] at HF;unfold ptrV at HF;have HMN:=j7ac hmn;clear hn h hm hkk hk hp hmn k1 k2 hpos;go_enter Tryz.func16,Tryz.ntmps16
   go_wp2_with (first|(go_at_call 27;refine HIP.out.mono ?_;rintro e w1 ⟨rfl,hb⟩;have HB:=j7ac hb;clear hb)|(go_at_call 28;refine (HF.out _ HB.out).mono ?_;rintro e w2 ⟨rfl,hb⟩;have HB2:=j7ac (zb HB.out hb);clear hb))
   go_ret;rw [HMN.out];exact MakeP.same HT.out HB2.out
  | none =>
   rw [hk] at HF hkk;rw [if_neg (by rw [hkk];simp)] at hmn;simp only [Option.isSome_none,Bool.false_eq_true,if_false] at HF;have hne:p≠[47]:=fun q=>by rw [q] at hk;cases hk
   obtain ⟨hpd,hsp,hla⟩:=za3 hp hne
   have hdl:(dirL p).length≤1073741824:=by
    unfold dirL
    split
    ·simp
    ·rw [List.length_take];omega
   have HPA:=j7ac fun W (hW:Below w.heap.size w W)=>zis p W (hm.below hW) hl;unfold partV at HPA;rw [hp,if_pos rfl] at HPA;have HFD:=j7ac fun W (hW:Below w.heap.size w W)=>find_any W b0 tb x nb mp (dirL p) (h.below hW) (hm.below hW) hpd hdl;have hkd:=zce h.ok hpd;unfold nodeV at HFD;unfold ptrV at HF HFD
   cases hk2:kd x (nms (dirL p)) with
   | none =>
    rw [hk2] at HFD hkd;rw [if_pos (by rw [hkd];rfl)] at hmn;simp only [Option.isSome_none,Bool.false_eq_true,if_false] at HFD;have HMN:=j7ac hmn;clear hn h hm hkk hk hp hmn k1 k2 hkd hk2 hsp hla hpd hdl;go_enter Tryz.func16,Tryz.ntmps16
    go_wp2_with (first
     | (go_at_call 27;refine HIP.out.mono ?_;rintro e w1 ⟨rfl,hb⟩;have HB:=j7ac hb;clear hb)
     | (go_at_call 28;(with_reducible refine (HF.out _ HB.out).mono ?_);rintro e w2 ⟨rfl,hb⟩;have HB2:=j7ac (zb HB.out hb);clear hb)
     | (go_at_call 29;(with_reducible refine (HPA.out _ HB2.out).mono ?_);rintro e w3 ⟨rfl,hb⟩;have HB3:=j7ac (zb HB2.out hb);clear hb)
     | (go_at_call 28;(with_reducible refine (HFD.out _ HB3.out).mono ?_);rintro e w4 ⟨rfl,hb⟩;have HB4:=j7ac (zb HB3.out hb);clear hb))
    go_ret;rw [HMN.out];exact MakeP.same HT.out HB4.out
   | some kk =>
    rw [hk2] at HFD hkd;have hpos:=kd_pos h.ok hk2;simp only [Option.getD_some] at hkd;rw [if_neg (by rw [hkd];omega)] at hmn;simp only [Option.isSome_some,if_true] at HFD;by_cases hd1:kk=1
    ·rw [if_neg (by rw [hkd];simp;exact hd1),if_neg (by omega)] at hmn
     exact absurd hmn hn
    rw [if_pos (by rw [hkd];exact hd1)] at hmn;have HMN:=j7ac hmn;have HN:=j7ac fun W (hW:Below w.heap.size w W)=>(h.below hW).n (nms (dirL p)) kk hk2;have d3:(kk != 1)=true:=by simpa using hd1
    clear hn h hm hkk hk hp hmn k1 k2 hkd hk2 hsp hla hpd hdl hd1 hpos;go_enter Tryz.func16,Tryz.ntmps16
    go_wp2_with (first
     | (go_at_call 27;refine HIP.out.mono ?_;rintro e w1 ⟨rfl,hb⟩;have HB:=j7ac hb;clear hb)
     | (go_at_call 28;(with_reducible refine (HF.out _ HB.out).mono ?_);rintro e w2 ⟨rfl,hb⟩;have HB2:=j7ac (zb HB.out hb);clear hb)
     | (go_at_call 29;(with_reducible refine (HPA.out _ HB2.out).mono ?_);rintro e w3 ⟨rfl,hb⟩;have HB3:=j7ac (zb HB2.out hb);clear hb)
     | (go_at_call 28;(with_reducible refine (HFD.out _ HB3.out).mono ?_);rintro e w4 ⟨rfl,hb⟩;have HB4:=j7ac (zb HB3.out hb);obtain ⟨n1,n2,n3,n4,n5,n6⟩:=HN.out _ HB4.out;haveI:Old w4 (nb (nms (dirL p))):=⟨n2⟩;clear hb n6))
    go_ret;rw [HMN.out];exact MakeP.same HT.out HB4.out
theorem zbo {P:Program} {w:World} {ops:Array Oper} {rest:List Oper} {o:Oper} {a:Act} {Q:Exit→Act→World→Prop} {Post:World→Prop} (hg:o.guard=none) (m x v:Operand) (t:TypeId) (hop:o.op=Op.mapUpdate t m x v)
  (mv kv vv:Value) (hm:a.eval m=mv) (hx:a.eval x=kv) (hv:a.eval v=vv) (hr:∃ w',(Instr.mapUpdate t mv kv vv).run P w = .ok () w'∧Post w') (h:∀ w',Post w'→wpList P ops Q rest (a.put o.dst undef) w'):wpList P ops Q (o :: rest) a w:=by
 refine wpList_plain hg fun K' hK'=>?_;obtain ⟨w',hrun,hp⟩:=hr;unfold Oper.wp;simp [execOp,hop,hm,hx,hv,hrun,Result.andThen];exact hK' _ _ (h w' hp)
theorem zlc {tb B0:Nat} {x:List Fl} {p:List UInt8} {k:Int} {nb:List (List UInt8)→Nat} {mp:List (List UInt8)→Option Nat} (hp:pathB p=true) (hne:p≠[47]) (hn:kd x (nms p)=none) {B:Nat} (hB:B0≤B) :
  ∀ j,inTree tb (x++[⟨p,k⟩]) (fun ks=>if ks=nms p then B else nb ks) (fun ks=>if ks=nms p then none else mp ks) j→inTree tb x nb mp j∨B0≤j:=by
 intro j hj;have hks:=zg7 (k:=k) hp hne hn;rcases hj with rfl|⟨ks,h1,h2⟩
 ·exact .inl (.inl rfl)
 ·rw [hks] at h1
  dsimp only at h2;by_cases e:ks=nms p
  ·rw [if_pos e] at h2
   rcases h2 with h2|h2
   ·exact .inr (by omega)
   ·rw [if_pos e] at h2;cases h2
  ·rw [if_neg e,if_neg e] at h2
   rw [if_neg e] at h1;exact .inl (.inr ⟨ks,h1,h2⟩)
theorem zif {tb B0:Nat} {x:List Fl} {nb:List (List UInt8)→Nat} {mp:List (List UInt8)→Option Nat} {ds:List (List UInt8)} {B:Nat} (hB:B0≤B):∀ j,inTree tb x nb (fun ks=>if ks=ds then some B else mp ks) j→inTree tb x nb mp j∨B0≤j:=by
 intro j hj;rcases hj with rfl|⟨ks,h1,h2⟩
 ·exact .inl (.inl rfl)
 ·rcases h2 with h2|h2
  ·exact .inl (.inr ⟨ks,h1,.inl h2⟩)
  ·dsimp only at h2
   by_cases e:ks=ds
   ·rw [if_pos e] at h2;cases h2;exact .inr hB
   ·rw [if_neg e] at h2;exact .inl (.inr ⟨ks,h1,.inr h2⟩)
set_option maxHeartbeats 6400000 in
theorem make_yes (w:World) (b0 tb:Nat) (x:List Fl) (nb:List (List UInt8)→Nat) (mp:List (List UInt8)→Option Nat) (p:List UInt8) (k:Int) (h:TreeAt w b0 tb x nb mp) (hm:MaxL w) (hl:p.length≤1073741824) (hx:x.length<10000) (hb0:b0≤w.heap.size) (hn:makeN x p k=0) :
  Calls Tryz.prog 16 #[.pointer (some ⟨tb,0,none⟩),.string (B p),.int .i64 k] w (MakeP b0 tb x (x++[⟨p,k⟩]) nb mp 0 w):=by
 have HIP:=j7ac (za4 p w hm hl);have hmn:makeN x p k=if pathB p=true then (if k<1∨3<k then 8 else if kindL x p≠0 then 6 else if kindL x (dirL p)=0 then 3 else if kindL x (dirL p)≠1 then 11 else if 10000≤x.length then 12 else 0) else 10:=rfl;rw [hn] at hmn
 have hp:pathB p=true:=by
  cases hp:pathB p with
  | true=>rfl
  | false=>rw [hp,if_neg (by simp)] at hmn;cases hmn
 rw [hp,if_pos rfl] at hmn;have hk12:¬ (k<1∨3<k):=fun q=>by rw [if_pos q] at hmn;cases hmn
 rw [if_neg hk12] at hmn
 have hk0:kindL x p=0:=by
  by_cases q:kindL x p=0
  ·exact q
  ·rw [if_pos q] at hmn;cases hmn
 rw [if_neg (by simp [hk0])] at hmn;have hk:=zce h.ok hp;rw [hk0] at hk
 have hkn:kd x (nms p)=none:=by
  cases q:kd x (nms p) with
  | none=>rfl
  | some kk=>have:=kd_pos h.ok q;rw [q] at hk;simp at hk;omega
 have hne:p≠[47]:=fun q=>by rw [q] at hkn;cases hkn
 obtain ⟨hpd,hsp,hla⟩:=za3 hp hne;have hd0:kindL x (dirL p)≠0:=fun q=>by rw [if_pos q] at hmn;cases hmn
 rw [if_neg hd0] at hmn
 have hd1:kindL x (dirL p)=1:=by
  by_cases q:kindL x (dirL p)=1
  ·exact q
  ·rw [if_pos q] at hmn;cases hmn
 have hkd:=zce h.ok hpd;rw [hd1] at hkd
 have hds:kd x (nms (dirL p))=some 1:=by
  cases q:kd x (nms (dirL p)) with
  | none=>rw [q] at hkd;cases hkd
  | some kk=>rw [q] at hkd;simp at hkd;rw [← hkd]
 have hdl:(dirL p).length≤1073741824:=by
  unfold dirL
  split
  ·simp
  ·rw [List.length_take];omega
 have HPA:=j7ac fun W (hW:Below w.heap.size w W)=>zis p W (hm.below hW) hl;unfold partV at HPA;rw [hp,if_pos rfl] at HPA;rw [hp] at HIP;have HF:=j7ac fun W (hW:Below w.heap.size w W)=>find_any W b0 tb x nb mp p (h.below hW) (hm.below hW) hp hl;have HFD:=j7ac fun W (hW:Below w.heap.size w W)=>find_any W b0 tb x nb mp (dirL p) (h.below hW) (hm.below hW) hpd hdl;unfold nodeV ptrV at HF HFD;rw [hkn] at HF;rw [hds] at HFD;simp only [Option.isSome_none,Bool.false_eq_true,if_false] at HF;simp only [Option.isSome_some,if_true] at HFD;have d1:=no (show ¬ k<1 by omega);have d2:=no (show ¬ 3<k by omega);have HN:=j7ac fun W (hW:Below w.heap.size w W)=>(h.below hW).n (nms (dirL p)) 1 hds;have d4:=no (show ¬ (10000:Int)≤(x.length:Int) by omega)
 have HT:=j7ac h;have hlt:=h.lt;have HIM:=j7ac fun (B:Nat) (hB:w.heap.size≤B) (mp:List (List UInt8)→Option Nat)=>zlc (tb:=tb) (x:=x) (p:=p) (k:=k) (nb:=nb) (mp:=mp) hp hne hkn hB
 cases hmp:mp (nms (dirL p)) with
 | some r =>
  have HMD:=j7ac fun W (hW:Below w.heap.size w W)=>(h.below hW).made (k:=k) hp hne hkn hds rfl rfl hmp (by omega) (by omega) (by have:=hW.size;omega) (by omega);have hnil:=fun w=>eqlSome r w;have HIN:Hid (inTree tb x nb mp r):=.inr ⟨nms (dirL p),by rw [hds];rfl,.inr hmp⟩;clear h hm hk hp hmn hkd hk0 hd1 hd0 hkn hds hsp hla hpd hdl hk12 hne hn;go_enter Tryz.func16,Tryz.ntmps16
  go_wp2_with (first
   | (go_at_call 27;refine HIP.out.mono ?_;rintro e w1 ⟨rfl,hb⟩;have HB:=j7ac hb;clear hb)
   | (go_at_call 28;(with_reducible refine (HF.out _ HB.out).mono ?_);rintro e w2 ⟨rfl,hb⟩;have HB2:=j7ac (zb HB.out hb);clear hb)
   | (go_at_call 29;(with_reducible refine (HPA.out _ HB2.out).mono ?_);rintro e w3 ⟨rfl,hb⟩;have HB3:=j7ac (zb HB2.out hb);clear hb)
   | (go_at_call 28;(with_reducible refine (HFD.out _ HB3.out).mono ?_);rintro e w4 ⟨rfl,hb⟩;have HB4:=j7ac (zb HB3.out hb);obtain ⟨n1,n2,n3,n4,n5,n6⟩:=HN.out _ HB4.out;rw [hmp] at n5;have ht:=HT.out.below HB4.out;have t0:=ht.t0;have t1:=ht.t1;haveI:Old w4 tb:=⟨ht.lt⟩;haveI:Old w4 (nb (nms (dirL p))):=⟨n2⟩;clear hb n6 ht)
   | (at_mapUpdate;refine zbo rfl (.tmp 58) (.tmp 59) (.tmp 62) 72 rfl _ _ _ rfl rfl rfl (HMD.out _ HB4.out) ?_;rintro w5 ⟨c5,f5,l5,k5,r5,tn5⟩;have HK5:=j7ac k5;have HTN:=j7ac tn5;haveI:Old w5 tb:=⟨l5⟩;clear k5 tn5))
  go_ret;have hz4:=HB4.out.size;refine ⟨rfl,⟨_,_,HTN.out,HIM.out _ hz4 mp⟩,?_⟩;exact ((Keeps.of_below (za HB4.out _)).trans (HK5.out.mono fun j _ e=>by rw [e];exact ⟨HIN.out,r5⟩)).trans (Keeps.setCell w5 ⟨.inl rfl,HT.out.ge⟩ _)
 | none =>
  have hnil:=eqlNil;have hmk:=fun w=>run_makeMap (P:=Tryz.prog) 72 w
  have HMD:=j7ac fun W (hW:Below w.heap.size w W)=>by
   have hz:((W.setCell ⟨nb (nms (dirL p)),1,none⟩ (.map (some W.heap.size))).alloc (.map #[] 0)).heap.size=W.heap.size+1:=by simp [World.setCell]
   have T2:=(h.below hW).mapped hds hmp (by have:=hW.size;omega)
   haveI:Old W (nb (nms (dirL p))):=⟨((h.below hW).n _ 1 hds).2.1⟩
   rw [zfo] at T2;have hmd:=T2.made (k:=k) hp hne hkn hds rfl rfl (if_pos rfl) (by omega) (by omega) (by rw [hz];have:=hW.size;omega) (by omega);rw [hz] at hmd;exact hmd
  have HIN:Hid (inTree tb x nb mp (nb (nms (dirL p)))):=.inr ⟨nms (dirL p),by rw [hds];rfl,.inl rfl⟩;have hmpp:=hmp;clear h hm hk hp hmn hkd hk0 hd1 hd0 hkn hds hsp hla hpd hdl hk12 hne hn;go_enter Tryz.func16,Tryz.ntmps16
  go_wp2_with (first
   | (go_at_call 27;refine HIP.out.mono ?_;rintro e w1 ⟨rfl,hb⟩;have HB:=j7ac hb;clear hb)
   | (go_at_call 28;(with_reducible refine (HF.out _ HB.out).mono ?_);rintro e w2 ⟨rfl,hb⟩;have HB2:=j7ac (zb HB.out hb);clear hb)
   | (go_at_call 29;(with_reducible refine (HPA.out _ HB2.out).mono ?_);rintro e w3 ⟨rfl,hb⟩;have HB3:=j7ac (zb HB2.out hb);clear hb)
   | (go_at_call 28;(with_reducible refine (HFD.out _ HB3.out).mono ?_);rintro e w4 ⟨rfl,hb⟩;have HB4:=j7ac (zb HB3.out hb);obtain ⟨n1,n2,n3,n4,n5,n6⟩:=HN.out _ HB4.out;rw [hmpp] at n5;have n61:=n6 1;have ht:=HT.out.below HB4.out;have t0:=ht.t0;have t1:=ht.t1;haveI:Old w4 tb:=⟨ht.lt⟩;haveI:Old w4 (nb (nms (dirL p))):=⟨n2⟩;clear hb n6 ht)
   | (at_mapUpdate;refine zbo rfl (.tmp 58) (.tmp 59) (.tmp 62) 72 rfl _ _ _ rfl rfl rfl (HMD.out _ HB4.out) ?_;rintro w5 ⟨c5,f5,l5,k5,r5,tn5⟩;have HK5:=j7ac k5;have HTN:=j7ac tn5;haveI:Old w5 tb:=⟨l5⟩;clear k5 tn5))
  go_ret;have hz4:=HB4.out.size;refine ⟨rfl,⟨_,_,HTN.out,fun j hj=>?_⟩,?_⟩
  ·rcases HIM.out _ (by omega) _ j hj with q|q
   ·exact zif hz4 j q
   ·exact .inr q
  ·have e1:Keeps (fun j=>inTree tb x nb mp j∧b0≤j) w4 (w4.setCell ⟨nb (nms (dirL p)),1,none⟩ (.map (some w4.heap.size))):=Keeps.setCell w4 ⟨HIN.out,n1⟩ _
   have e2:=e1.trans (Keeps.of_below (za (za (Below.refl _ _) (.map #[] 0)) (.cells #[.int .i64 k,.map none] 74)));have e3:Keeps (fun j=>(inTree tb x nb mp j∧b0≤j)∨w4.heap.size≤j) w4 w5:=(e2.mono fun j _ q=>.inl q).trans (HK5.out.mono fun j _ q=>.inr (by omega))
   have e4:Keeps (fun j=>inTree tb x nb mp j∧b0≤j) w4 w5:=⟨e3.os,e3.tape,e3.output,e3.size,fun j hj hF=>e3.block j hj (fun q=>q.elim hF (fun z=>by omega)),e3.ty⟩
   exact ((Keeps.of_below HB4.out).trans e4).trans (Keeps.setCell w5 ⟨.inl rfl,HT.out.ge⟩ _)
end Go.Proofs.YtjcdmjdofdnaoaaGreatDoor.Fil
