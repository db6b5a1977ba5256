/-
  The walks of layer 16 (pattern): classes named in a text, by the reference and by the program. Conditions: texts of at most 2^30 bytes.
-/
import Derived.Test.YtjcdmjdofdnaoaaGreatDoorGwOpen
import Derived.Test.YtjcdmjdofdnaoaaGreatDoorFil3
import Derived.Test.YtjcdmjdofdnaoaaGreatDoorTab
import Derived.Test.YtjcdmjdofdnaoaaGreatDoorRegA
import Derived.Test.YtjcdmjdofdnaoaaGreatDoorSpecA
import Derived.Test.YtjcdmjdofdnaoaaGreatDoorLitV
import Derived.Test.YtjcdmjdofdnaoaaGreatDoorPartsA
import Derived.Test.YtjcdmjdofdnaoaaGreatDoorQuo1
set_option linter.unusedSimpArgs false
set_option linter.unusedVariables false
namespace Go.Proofs.YtjcdmjdofdnaoaaGreatDoor.Gw
open Go.ChangeShapes Go.WideShapes Go.Deep Go.RowKit Fil Spc Mc Quo Pat
set_option maxRecDepth 100000
theorem _root_.Go.Proofs.YtjcdmjdofdnaoaaGreatDoor.j7ob {p:Prop} (h:p):Go.RowKit.Hid p:=Go.Lib.hid h
theorem zpd {F:Nat→Prop} {w w':World} {b0 tb:Nat} {lv:Value} {kind:Int} {xs:List Tab.Ent} (h:Tab.TabAt w b0 tb lv kind xs) (hk:Keeps F w w') (hF:∀ k,F k→k<b0):Tab.TabAt w' b0 tb lv kind xs:=by
 have hn:¬ F tb:=fun e=>by have:=hF _ e;have:=h.ge;omega
 have hb:=hk.block tb h.lt hn;exact ⟨Nat.lt_of_lt_of_le h.lt hk.size,h.ge,(World.cell?_of_block (w:=w) hb).trans h.c0,(World.cell?_of_block (w:=w) hb).trans h.c1,fun j=>(World.frozen?_of_block (w:=w) hb).trans (h.f0 j),znf h.own hk hF,h.ne,h.r⟩
theorem zpe {w:World} {b:Nat} {u0 u1 u2:Value} (h:BoxN w b [u0,u1,u2]) (z0 z1 z2:Value) :
  BoxN (((w.setCell ⟨b,0,none⟩ z0).setCell ⟨b,1,none⟩ z1).setCell ⟨b,2,none⟩ z2) b [z0,z1,z2]∧Keeps (fun k=>k=b) w (((w.setCell ⟨b,0,none⟩ z0).setCell ⟨b,1,none⟩ z1).setCell ⟨b,2,none⟩ z2):=by
 have k0 (w:World) (n:Nat) (z:Value):Keeps (fun k=>k=b) w (w.setCell ⟨b,n,none⟩ z):=Keeps.setCell (F:=fun k=>k=b) w (a:=⟨b,n,none⟩) rfl _;exact ⟨zao (zao (zao h 0 (by simp) z0) 1 (by simp) z1) 2 (by simp) z2,((k0 _ _ _).trans (k0 _ _ _)).trans (k0 _ _ _)⟩
def ComP (ys:List Tab.Ent) (w:World) (e:Ending) (w':World):Prop:=∃ (fp:Option Addr) (dr:List UInt8) (tb b0:Nat) (lv:Value),e = .returned (.agg #[.pointer fp,.string (B dr),.pointer (some ⟨tb,0,none⟩)])∧Tab.TabAt w' b0 tb lv 1 ys∧Below w.heap.size w w'
set_option maxHeartbeats 3200000 in
theorem of27_any (x:WdV) (y:Wd) (w:World) (h:WdAt w x y) (hm:MaxL w) (h1:y.f.length≤20) (h2:∀ f∈y.f,f.path.length≤100) (h3:y.d.length≤100) (h4:y.v.length≤20) (h5:∀ e∈y.v,e.name.length≤100∧e.val.length≤100) :
  Calls Tryz.prog 12 #[wdV x y] w (ComP (Tab.ofL 1 y.v) w):=by
 have HF:Hid (∀ W,Below w.heap.size w W→Calls Tryz.prog 8 #[x.f] W fun e w'=>∃ p,e = .returned (.pointer p)∧Below W.heap.size W w'):=j7ob fun W hW=>(Fil.of_any y.f x.f W (h.f.below hW) (hm.below hW) (by omega) (fun f hf=>by have:=h2 f hf;omega)).mono fun e w' hh=>⟨_,hh.1,hh.2.2⟩
 have HC:Hid (∀ W,Below w.heap.size w W→Calls Tryz.prog 20 #[.string { data:=#[47] },.string (B y.d)] W fun e w'=>e = .returned (.string (B (cleanL [47] y.d)))∧Below W.heap.size W w'):=j7ob fun W hW=>zeh [47] y.d W (hm.below hW) (by decide) (by omega)
 have HTA:Hid (∀ W,Below w.heap.size w W→Calls Tryz.prog 21 #[.int .i64 1,x.v] W fun e w'=>∃ tb lv,e = .returned (.pointer (some ⟨tb,0,none⟩))∧Tab.TabAt w' tb tb lv 1 (Tab.ofL 1 y.v)∧W.heap.size≤tb∧Below W.heap.size W w'):=j7ob fun W hW=>(Tab.of_ok 1 y.v x.v W (by decide) (by decide) (h.v.below hW) (by omega) (fun e he=>by have:=h5 e he;omega)).mono fun e w' hh=>by
  obtain ⟨a,⟨lv,b⟩,c⟩:=hh;exact ⟨_,lv,a,b,Nat.le_refl _,c⟩
 obtain ⟨vf,vv,va,vu,vb,vs⟩:=x;unfold wdV;dsimp only at HF HTA ⊢;clear h hm h1 h2 h3 h4 h5;generalize cleanL [47] y.d=cd at *;generalize Tab.ofL 1 y.v=ys at *;generalize y.d=yd at *;go_enter Tryz.func12,Tryz.ntmps12;go_wp2;have HB:=j7ob ((BoxN.new w [vf,.string (B yd),vv,va,vu,vb,vs] 26).below (za (Below.refl _ _) (.cells #[.pointer none,.string (B []),.pointer none] 49)));have HR:=j7ob (BoxN.new (w.alloc (.cells #[vf,.string (B yd),vv,va,vu,vb,vs] 26)) [.pointer none,.string (B []),.pointer none] 49);rw [World.size_alloc] at HR;have HBE:=j7ob (za (za (Below.refl w.heap.size w) (.cells #[vf,.string (B yd),vv,va,vu,vb,vs] 26)) (.cells #[.pointer none,.string (B []),.pointer none] 49));refine zn (fun W=>W.cell? ⟨w.heap.size,0,none⟩=some vf∧W.cell? ⟨w.heap.size,1,none⟩=some (.string (B yd))∧W.cell? ⟨w.heap.size,2,none⟩=some vv) [10] (by kernel_rfl) ?_
 have HB:=j7ob (HB.out.below (zg (Below.refl _ _)));have HR:=j7ob (HR.out.below (zg (Below.refl _ _)));have HBE:=j7ob (zg HBE.out);have HT:Hid True:=j7ob trivial;generalize World.drew _=D at *;refine zzk (i:=0) (some 3) rfl rfl (fun _=>⟨HB.out.c 0 _ rfl,HB.out.c 1 _ rfl,HB.out.c 2 _ rfl⟩) ?_
 try simp only [Act.put,zzt,zzz,zzs]
 refine zi (i:=1) [2,5,8,9,10] (some 4) (v:=?v1_2z26) rfl rfl (by kernel_rfl) (by kernel_rfl) (by kernel_rfl) (by kernel_rfl) (by kernel_rfl) (fun _ _ _ h=>h) (Or.inl ⟨by rfl,?y1_2z26⟩) (fun _=>⟨HB.out.c 0 _ rfl,HB.out.c 1 _ rfl,HB.out.c 2 _ rfl⟩) ?r1_2z26
 case y1_2z26 =>
  intro w hSw
  (try dsimp only at hSw)
  go_split_ands
  go_simp
  try with_reducible rfl
 try simp only [Act.put,zzt,zzz,zzs]
 refine zzk (i:=3) (some 6) rfl rfl (fun _=>⟨HB.out.c 0 _ rfl,HB.out.c 1 _ rfl,HB.out.c 2 _ rfl⟩) ?_
 try simp only [Act.put,zzt,zzz,zzs]
 refine zi (i:=4) [5,8,9,10] (some 7) (v:=?v4_4z26) rfl rfl (by kernel_rfl) (by kernel_rfl) (by kernel_rfl) (by kernel_rfl) (by kernel_rfl) (fun _ _ _ h=>h) (Or.inl ⟨by rfl,?y4_4z26⟩) (fun _=>⟨HB.out.c 0 _ rfl,HB.out.c 1 _ rfl,HB.out.c 2 _ rfl⟩) ?r4_4z26
 case y4_4z26 =>
  intro w hSw
  (try dsimp only at hSw)
  go_split_ands
  go_simp
  try with_reducible rfl
 try simp only [Act.put,zzt,zzz,zzs]
 refine zzk (i:=6) (some 9) rfl rfl (fun _=>⟨HB.out.c 0 _ rfl,HB.out.c 1 _ rfl,HB.out.c 2 _ rfl⟩) ?_
 try simp only [Act.put,zzt,zzz,zzs]
 refine zi (i:=7) [8,9,10] (some 10) (v:=?v7_6z26) rfl rfl (by kernel_rfl) (by kernel_rfl) (by kernel_rfl) (by kernel_rfl) (by kernel_rfl) (fun _ _ _ h=>h) (Or.inl ⟨by rfl,?y7_6z26⟩) (fun _=>⟨HB.out.c 0 _ rfl,HB.out.c 1 _ rfl,HB.out.c 2 _ rfl⟩) ?r7_6z26
 case y7_6z26 =>
  intro w hSw
  (try dsimp only at hSw)
  go_split_ands
  go_simp
  try with_reducible rfl
 try simp only [Act.put,zzt,zzz,zzs]
 refine zc (rs:=[2]) (by kernel_rfl) (by simp) ?_;refine AllReadyK.cons (i:=2) rfl (fun K hK=>?_) ?_
 ·go_simp
  refine (HF.out D HBE.out).mono ?_;rintro e w4 ⟨fp,rfl,hb1⟩;dsimp only;have HB:=j7ob (HB.out.below hb1);have HR:=j7ob (HR.out.below hb1)
  try have HT:=j7ob (Tab.TabAt.below HT.out hb1)
  have HBE:=j7ob (zb HBE.out hb1);clear hb1
  obtain ⟨D,rfl⟩:∃ D,D=w4:=⟨_,rfl⟩
  refine hK.out _ _ (fun _=>⟨HB.out.c 0 _ rfl,HB.out.c 1 _ rfl,HB.out.c 2 _ rfl⟩) ?_;clear hK K
  try simp only [Act.put,zzt,zzz,zzs]
  refine zc (rs:=[5]) (by kernel_rfl) (by simp) ?_;refine AllReadyK.cons (i:=5) rfl (fun K hK=>?_) ?_
  ·go_simp
   refine (HC.out D HBE.out).mono ?_;rintro e w4 ⟨rfl,hb1⟩;dsimp only;have HB:=j7ob (HB.out.below hb1);have HR:=j7ob (HR.out.below hb1)
   try have HT:=j7ob (Tab.TabAt.below HT.out hb1)
   have HBE:=j7ob (zb HBE.out hb1);clear hb1
   obtain ⟨D,rfl⟩:∃ D,D=w4:=⟨_,rfl⟩
   refine hK.out _ _ (fun _=>⟨HB.out.c 0 _ rfl,HB.out.c 1 _ rfl,HB.out.c 2 _ rfl⟩) ?_;clear hK K
   try simp only [Act.put,zzt,zzz,zzs]
   refine zc (rs:=[8]) (by kernel_rfl) (by simp) ?_;refine AllReadyK.cons (i:=8) rfl (fun K hK=>?_) ?_
   ·go_simp
    refine (HTA.out D HBE.out).mono ?_;rintro e w4 ⟨tb,lv,rfl,ht,hge,hb1⟩;dsimp only;have HGE:=j7ob (Nat.lt_of_lt_of_le HR.out.lt hge);have HB:=j7ob (HB.out.below hb1);have HR:=j7ob (HR.out.below hb1);have HT:=j7ob ht;have HBE:=j7ob (zb HBE.out hb1);clear hb1 ht hge
    obtain ⟨D,rfl⟩:∃ D,D=w4:=⟨_,rfl⟩
    refine hK.out _ _ (fun _=>⟨HB.out.c 0 _ rfl,HB.out.c 1 _ rfl,HB.out.c 2 _ rfl⟩) ?_;clear hK K
    try simp only [Act.put,zzt,zzz,zzs]
    refine zzk (i:=9) (some 12) rfl rfl (fun _=>⟨HB.out.c 0 _ rfl,HB.out.c 1 _ rfl,HB.out.c 2 _ rfl⟩) ?_
    try simp only [Act.put,zzt,zzz,zzs]
    refine zc (rs:=[10]) (by kernel_rfl) (by simp) ?_;refine AllReadyK.cons (i:=10) rfl (fun K hK=>?_) ?_
    ·have k0:=HR.out.c 0 _ rfl
     have k1:=HR.out.c 1 _ rfl;have k2:=HR.out.c 2 _ rfl;have f0:=HR.out.f 0;have f1:=HR.out.f 1;have f2:=HR.out.f 2
     haveI:Old D (w.heap.size+1):=⟨HR.out.lt⟩
     go_simp;obtain ⟨hbx,hk⟩:=zpe HR.out (.pointer fp) (.string (B cd)) (.pointer (some ⟨tb,0,none⟩));have HB:=j7ob (HB.out.keeps hk (by omega));have HR:=j7ob hbx;have HT:=j7ob (zpd HT.out hk (fun k e=>by have:=HGE.out;omega));have HBE:=j7ob (ze HBE.out hk (fun k e=>by omega));clear hbx hk k0 k1 k2 f0 f1 f2;generalize World.setCell _ _ _=D at *;refine hK.out _ _ (fun h=>Bool.noConfusion ((show unl _ _=false by kernel_rfl).symm.trans h)) ?_;clear hK K
     try simp only [Act.put,zzt,zzz,zzs]
     refine zt (by kernel_rfl) ?_ _;have r0:=HR.out.c 0 _ rfl;have r1:=HR.out.c 1 _ rfl;have r2:=HR.out.c 2 _ rfl
     haveI:Old D (w.heap.size+1):=⟨HR.out.lt⟩
     go_wp2;refine bodyPost_ret (v:=.agg #[.pointer fp,.string (B cd),.pointer (some ⟨tb,0,none⟩)]) (by simp [results,Tryz.results12,go_sem,r0,r1,r2]) rfl ?_;exact ⟨_,_,_,_,_,rfl,HT.out,HBE.out⟩
    exact AllReadyK.nil
   exact AllReadyK.nil
  exact AllReadyK.nil
 exact AllReadyK.nil
end Go.Proofs.YtjcdmjdofdnaoaaGreatDoor.Gw
namespace Go.Proofs.YtjcdmjdofdnaoaaGreatDoor.Li
open Cls Md Mc _root_.Go.Proofs.YtjcdmjdofdnaoaaGreatDoor.Pa Quo Lx
def SaysQ (l:List Pc) (v:List UInt8):Prop:=Says l v∧∀ p∈l,p.qu=false→∀ b∈p.tx,safeB b=true
theorem zcz {a b:List Pc} {v w:List UInt8} (ha:SaysQ a v) (hb:SaysQ b w):SaysQ (a++b) (v++w) :=
 ⟨says_app ha.1 hb.1,fun p hp=>(List.mem_append.1 hp).elim (ha.2 p) (hb.2 p)⟩
theorem zc8 {pl:List UInt8} (h:∀ b∈pl,safeB b=true):SaysQ (flushP pl) pl:=by
 refine ⟨zmw pl,fun p hp _=>?_⟩;unfold flushP at hp
 split at hp
 ·cases hp
 ·rw [List.mem_singleton.1 hp];exact h
theorem zpf (t:List UInt8):SaysQ [⟨false,true,t⟩] t:=⟨zjd true t,fun p hp h=>by rw [List.mem_singleton.1 hp] at h;cases h⟩
theorem zdl (s:List UInt8) (L:List Part) (tt:Nat):∀ (f at_:Nat) (here:List UInt8) (x:Bool),∀ p∈dblP s L tt f at_ here x,p.qu=true
 | 0,_,_,_,p,hp=>by cases hp
 | f+1,at_,here,x,p,hp=>by
  rw [dblP] at hp
  split at hp
  ·split at hp
   ·exact zdl s L tt f _ _ _ p hp
   ·split at hp
    ·exact zdl s L tt f _ _ _ p hp
    ·split at hp
     ·exact zdl s L tt f _ _ _ p hp
     ·rcases List.mem_append.1 hp with h|h
      ·split at h
       ·cases h
       ·rw [List.mem_singleton.1 h]
      ·rcases List.mem_cons.1 h with h|h
       ·rw [h]
       ·exact zdl s L tt f _ _ _ p h
  ·split at hp
   ·cases hp
   ·rw [List.mem_singleton.1 hp]
def FromQ (s:List UInt8) (L:List Part) (n:Nat) (v:List UInt8):Prop:=∀ f pl,s.length<f+n→(∀ b∈pl,safeB b=true)→SaysQ (eachP s L f n pl) (pl++v)
theorem zpg (s:List UInt8) (L:List Part):FromQ s L s.length []:=by
 intro f pl h hs
 obtain ⟨f,rfl⟩:∃ g,f=g+1:=⟨f - 1,by omega⟩
 rw [zcw (by omega),List.append_nil];exact zc8 hs
theorem fromQ_bt {s:List UInt8} {L:List Part} {n:Nat} {v:List UInt8} {b:UInt8} (hn:n<s.length) (hA:atP L n=none) (hb:s.getD n 0=b) (hsb:safeB b=true) (h:FromQ s L (n+1) v):FromQ s L n (b :: v):=by
 intro f pl hf hs
 obtain ⟨f,rfl⟩:∃ g,f=g+1:=⟨f - 1,by omega⟩
 rw [zca hn hA,hb];have:=h f (pl++[b]) (by omega) (fun c hc=>(List.mem_append.1 hc).elim (hs c) (fun q=>by rw [List.mem_singleton.1 q];exact hsb))
 rwa [List.append_assoc] at this
theorem zhv {s:List UInt8} {L:List Part} {n:Nat} {v:List UInt8} {p:Part} {t:List UInt8} (hn:n<s.length) (hA:atP L n=some p) (hc:p.c=88∨p.c=83) (hl:n<p.fin) (hq:quoP s p=some ⟨false,true,t⟩) (h:FromQ s L p.fin v):FromQ s L n (t++v):=by
 intro f pl hf hs
 obtain ⟨f,rfl⟩:∃ g,f=g+1:=⟨f - 1,by omega⟩
 have hlo:loneP p=false:=by unfold loneP;rcases hc with e|e <;> rw [e] <;> rfl
 rw [zbm hn hA,if_neg (by rw [hlo];rcases hc with e|e <;> rw [e] <;> decide),if_pos hc,hq];dsimp only;refine zcz (zc8 hs) ?_;exact zcz (zpf t) (h f [] (by omega) (fun _ h=>by cases h))
theorem zph {s:List UInt8} {L:List Part} {n:Nat} {v:List UInt8} {p:Part} {t:List UInt8} (hn:n<s.length) (hA:atP L n=some p) (hc:p.c=68) (hl:n<p.fin) (hd:Says (dblP s L (insT p) (s.length+1) (insF p) [] false) t) (h:FromQ s L p.fin v):FromQ s L n (t++v):=by
 intro f pl hf hs
 obtain ⟨f,rfl⟩:∃ g,f=g+1:=⟨f - 1,by omega⟩
 have hlo:loneP p=false:=by unfold loneP;rw [hc];rfl
 rw [zbm hn hA,if_neg (by rw [hlo,hc];decide),if_neg (by rw [hc];decide),if_pos hc]
 have hd2:SaysQ (dblP s L (insT p) (s.length+1) (insF p) [] false) t:=⟨hd,fun q hq hx=>by rw [zdl _ _ _ _ _ _ _ q hq] at hx;cases hx⟩
 have:=zcz (zcz (zc8 hs) hd2) (h f [] (by omega) (fun _ h=>by cases h));rw [List.nil_append,List.append_assoc pl] at this;exact this
def Seg.sf:Seg→Prop
 | bt b=>safeB b=true
 | _=>True
theorem zpi (g:Seg) (hg:g.ok) (hf:g.sf) {s pre post:List UInt8} {A Z:List Part} {n:Nat} {v:List UInt8} (hs:s=pre++g.text++post) (hA:∀ r∈A,r.fr<pre.length) (hZ:∀ r∈Z,pre.length+g.text.length≤r.fr)
  (h:FromQ s (A++(g.parts pre.length n++Z)) (pre.length+g.text.length) v):FromQ s (A++(g.parts pre.length n++Z)) pre.length (g.val++v):=by
 have hpos:=text_pos g;have hlen:pre.length<s.length:=by rw [hs];simp only [List.length_append];omega
 cases g with
 | bt b =>
  refine fromQ_bt hlen (zln ?_) ?_ hf h
  ·intro r hr
   rcases List.mem_append.1 hr with k|k
   ·have:=hA r k;omega
   ·have:=hZ r k;omega
  ·rw [hs];simp [Seg.text,List.getD_eq_getElem?_getD]
 | es b =>
  refine zhv (p:=⟨88,pre.length,pre.length+2,-1,false⟩) hlen (ze5 rfl ?_) (.inl rfl) (by dsimp only;omega) ?_ h
  ·intro r hr;have:=hZ r hr;omega
  ·have hb:b≠10:=hg
   have:=sub_at (pre++[92]) [b] post (a:=pre.length+1) (b:=pre.length+2) (by simp) (by simp);unfold quoP;rw [if_neg (show ¬ (88:UInt8)=83 by decide),hs];dsimp only [Seg.text];simp only [List.append_assoc,List.cons_append,List.nil_append] at this ⊢;rw [this,if_neg (by simp [hb])];rfl
 | sq t =>
  have hl:(Seg.sq t).text.length=t.length+2:=by simp [Seg.text]
  refine zhv (p:=⟨83,pre.length,pre.length+t.length+2,-1,false⟩) hlen (ze5 rfl ?_) (.inr rfl) (by dsimp only;omega) ?_ (by rw [hl] at h;exact h)
  ·intro r hr;have:=hZ r hr;omega
  ·rw [hs]
   have:=quo_sg pre t ([39]++post) ⟨83,pre.length,pre.length+t.length+2,-1,false⟩ rfl (ins_1 _ (by decide +kernel) _ _ _ _) (by rw [insT_c _ (by decide +kernel) (by decide +kernel) _ _ _ (by omega)];omega);simp only [Seg.text,List.append_assoc,List.cons_append,List.nil_append,Seg.val] at this ⊢;exact this
 | dq t =>
  have hl:(Seg.dq t).text.length=(t.flatMap dblE).length+2:=by simp only [Seg.text,List.length_cons,List.length_append,List.length_nil]
  have hsl:s.length=pre.length+((t.flatMap dblE).length+2)+post.length:=by rw [hs,List.length_append,List.length_append,hl]
  have hfr:=dqP_fr (pre.length+1) n t;refine zph (p:=⟨68,pre.length,pre.length+(t.flatMap dblE).length+2,-1,false⟩) hlen (ze5 (Z:=dqP (pre.length+1) n t++Z) rfl ?_) rfl (by dsimp only;omega) ?_ (by rw [hl] at h;exact h)
  ·intro r hr
   rcases List.mem_append.1 hr with k|k
   ·have:=hfr r k;omega
   ·have:=hZ r k;omega
  ·rw [ins_1 _ (by decide +kernel),insT_c _ (by decide +kernel) (by decide +kernel) _ _ _ (by omega)]
   have:=dbl_says s n Z t (pre++[34]) ([34]++post) (A++[⟨68,pre.length,pre.length+(t.flatMap dblE).length+2,-1,false⟩]) (s.length+1) [] (by rw [hs];simp [Seg.text]) (by
    intro r hr;have:=hZ r hr;rw [hl] at this;simp only [List.length_append,List.length_cons,List.length_nil];omega) (by
    intro r hr;rcases List.mem_append.1 hr with k|k
    ·have:=hA r k;simp only [List.length_append,List.length_cons,List.length_nil];omega
    ·cases List.mem_singleton.1 k;simp only [List.length_append,List.length_cons,List.length_nil];omega) (by omega)
   simp only [List.length_append,List.length_cons,List.length_nil,List.append_assoc,List.cons_append,List.nil_append,Nat.zero_add] at this;rw [show pre.length+(t.flatMap dblE).length+2 - 1=pre.length+1+(t.flatMap dblE).length by omega];exact this
theorem zna (s post:List UInt8) (v:List UInt8) (l:List Seg):∀ (pre:List UInt8) (A Z:List Part) (n:Nat),(∀ g∈l,g.ok)→(∀ g∈l,g.sf)→s=pre++segT l++post→(∀ r∈A,r.fr<pre.length)→(∀ r∈Z,pre.length+(segT l).length≤r.fr) →
  FromQ s (A++(segP pre.length n l++Z)) (pre.length+(segT l).length) v→FromQ s (A++(segP pre.length n l++Z)) pre.length (segV l++v):=by
 induction l with
 | nil=>intro pre A Z n _ _ _ _ _ h;exact h
 | cons g l ih =>
  intro pre A Z n hg hf hs hA hZ h;have hT:segT (g :: l)=g.text++segT l:=List.flatMap_cons;have hV:segV (g :: l)=g.val++segV l:=List.flatMap_cons;rw [hT] at hs hZ h;rw [hV,List.append_assoc];simp only [segP,List.append_assoc,List.length_append] at hs hZ h ⊢;refine zpi g (hg g List.mem_cons_self) (hf g List.mem_cons_self) (post:=segT l++post) (by rw [hs];simp) hA ?_ ?_
  ·intro r hr
   rcases List.mem_append.1 hr with k|k
   ·exact (segP_fr _ _ _ r k).1
   ·have:=hZ r k;omega
  ·have:=ih (pre++g.text) (A++g.parts pre.length n) Z (n+(g.parts pre.length n).length) (fun k hk=>hg k (List.mem_cons_of_mem _ hk)) (fun k hk=>hf k (List.mem_cons_of_mem _ hk)) (by rw [hs];simp) (by
    intro r hr;rw [List.length_append];rcases List.mem_append.1 hr with k|k
    ·have:=hA r k;omega
    ·exact (zje g _ _ r k).2) (by intro r hr;have:=hZ r hr;rw [List.length_append];omega)
   simp only [List.length_append,List.append_assoc] at this;refine this ?_;rw [← Nat.add_assoc] at h;exact h
theorem zk5 (l:List Seg) (hg:∀ g∈l,g.ok) (hf:∀ g∈l,g.sf):SaysQ (piecesL (segT l)) (segV l):=by
 have h1:=(par_segs l first 0 [] hg zot).1
 have hP:partsL (segT l)=segP 0 0 l:=by
  unfold partsL par;rw [h1];exact fin_map (segP_fin l 0 0)
 unfold piecesL;rw [hP]
 have:=zna (segT l) [] [] l [] [] [] 0 hg hf (by simp) (by simp) (by simp) (by
  simp only [List.nil_append,List.append_nil,List.length_nil,Nat.zero_add]
  exact zpg _ _)
 simp only [List.nil_append,List.append_nil,List.length_nil] at this;have h2:=this ((segT l).length+1) [] (by omega) (fun _ h=>by cases h)
 rwa [List.nil_append] at h2
end Go.Proofs.YtjcdmjdofdnaoaaGreatDoor.Li
namespace Go.Proofs.YtjcdmjdofdnaoaaGreatDoor.Pa
open Cls Md Mc
def Nx (p:Nat) (x y:St):Prop:=∃ j,j<x.l.length∧(y.l.map (·.2)=(x.l.map (·.2)).drop j∨y.l.map (·.2)=p :: (x.l.map (·.2)).drop j)
theorem Nx.same {p:Nat} {x y:St} (h:0<x.l.length) (e:y.l.map (·.2)=x.l.map (·.2)):Nx p x y:=⟨0,h,.inl (by simpa using e)⟩
theorem Nx.push {p:Nat} {x:St} (h:0<x.l.length) (c:UInt8):Nx p x (x.push c p):=⟨0,h,.inr (by simp [St.push])⟩
theorem Nx.pop {p:Nat} {x:St} (h:1<x.l.length):Nx p x x.pop:=⟨1,h,.inl (by simp [St.pop])⟩
theorem Nx.mark {p:Nat} {x y:St} (h:Nx p x y) (f:Bool):Nx p x (y.mark f):=h
theorem zjv (x:St) (c:UInt8):(x.turn c).l.map (·.2)=x.l.map (·.2):=by
 obtain ⟨l,f⟩:=x
 cases l with
 | nil=>rfl
 | cons a r=>rfl
theorem Nx.turn {p:Nat} {x:St} (h:0<x.l.length) (c:UInt8):Nx p x (x.turn c):=Nx.same h (zjv x c)
def fp (x:St):List Nat:=(frs x).map (·.2)
theorem fp_eq (x:St):fp x=(x.l.map (·.2)).reverse.drop 1:=by
 unfold fp frs;rw [List.map_drop,List.map_reverse]
theorem fp_len (x:St):(fp x).length=x.l.length - 1:=by
 rw [fp_eq];simp
def FP (s:List UInt8) (k:Nat):List Nat:=fp (run (s.take k))
def scanR (s:List UInt8) (fr n:Nat):Nat→Nat→UInt8→UInt8×Nat×Bool
 | 0,_,c=>(c,s.length,true)
 | f+1,k,c=>if fr∈FP s k then scanR s fr n f (k+1) ((lets (run (s.take k)).l).getD n 84) else (c,k,false)
def upR (o:List Part) (n pl:Nat):Nat→Int
 | 0 => -1
 | k+1=>if 1<n∧(o.getD k pt0).fr=pl then (k:Int) else upR o n pl k
def partR (s:List UInt8) (o:List Part) (fr n:Nat):Part :=
 finP s ⟨cnt (scanR s fr n (s.length - fr) (fr+1) 84).1,fr,(scanR s fr n (s.length - fr) (fr+1) 84).2.1,upR o n ((FP s (fr+1)).getD (n - 2) 0) o.length,(scanR s fr n (s.length - fr) (fr+1) 84).2.2⟩
def ofR (s:List UInt8):Nat→List Part
 | 0=>[]
 | k+1=>if k∈FP s (k+1) then ofR s k++[partR s (ofR s k) k ((FP s (k+1)).idxOf k+1)] else ofR s k
end Go.Proofs.YtjcdmjdofdnaoaaGreatDoor.Pa
namespace Go.Proofs.YtjcdmjdofdnaoaaGreatDoor.Li
open Cls Md Mc _root_.Go.Proofs.YtjcdmjdofdnaoaaGreatDoor.Pa Quo
theorem inner_no {c:UInt8} (h:c∈innerL):c≠88:=by
 rintro rfl
 revert h
 decide
open Go.RowKit Cls Md Mc _root_.Go.Proofs.YtjcdmjdofdnaoaaGreatDoor.Pa
def turnables:List UInt8:=[76,79,69,65,82]
def turned:List UInt8:=[79,73,86,65,67,69]
def Bec (c c':UInt8):Prop:=c'=c∨(c∈turnables∧c'∈turned)
def Nx3 (p:Nat) (x y:St):Prop :=
 ∃ l':List (UInt8×Nat),l'.map (·.2)=x.l.map (·.2)∧(∀ (i:Nat) (c:UInt8) (q:Nat),x.l[i]?=some (c,q)→∃ c',l'[i]?=some (c',q)∧Bec c c') ∧
  ∃ j,j<x.l.length∧((y.l=l'.drop j∧(j≤1∨(j=2∧x.top=76)))∨∃ c,y.l=(c,p) :: l'.drop j∧(j=0∨(j=1∧x.top=76)))
theorem Nx3.same {p:Nat} {x y:St} (h:0<x.l.length) (e:y.l=x.l):Nx3 p x y:=⟨x.l,rfl,fun _ c _ h=>⟨c,h,.inl rfl⟩,0,h,.inl ⟨by simpa using e,.inl (by omega)⟩⟩
theorem Nx3.push {p:Nat} {x:St} (h:0<x.l.length) (c:UInt8):Nx3 p x (x.push c p):=⟨x.l,rfl,fun _ c _ h=>⟨c,h,.inl rfl⟩,0,h,.inr ⟨c,by simp [St.push],.inl rfl⟩⟩
theorem Nx3.pop {p:Nat} {x:St} (h:1<x.l.length):Nx3 p x x.pop:=⟨x.l,rfl,fun _ c _ h=>⟨c,h,.inl rfl⟩,1,h,.inl ⟨by simp [St.pop],.inl (by omega)⟩⟩
theorem Nx3.mark {p:Nat} {x y:St} (h:Nx3 p x y) (f:Bool):Nx3 p x (y.mark f):=h
theorem turn_get {x:St} (c:UInt8) (ht:x.top∈turnables) (hc:c∈turned):∀ (i:Nat) (d:UInt8) (q:Nat),x.l[i]?=some (d,q)→∃ d',(x.turn c).l[i]?=some (d',q)∧Bec d d':=by
 obtain ⟨l,f⟩:=x;intro i d q h
 cases l with
 | nil=>exact ⟨d,h,.inl rfl⟩
 | cons a r =>
  cases i with
  | zero =>
   simp only [List.getElem?_cons_zero,Option.some.injEq] at h;subst h;exact ⟨c,rfl,.inr ⟨ht,hc⟩⟩
  | succ i=>exact ⟨d,h,.inl rfl⟩
theorem Nx3.turn {p:Nat} {x:St} (h:0<x.l.length) (ht:x.top∈turnables) (c:UInt8) (hc:c∈turned):Nx3 p x (x.turn c) :=
 ⟨(x.turn c).l,zjv x c,turn_get c ht hc,0,h,.inl ⟨by simp,.inl (by omega)⟩⟩
def FR (s:List UInt8) (k:Nat):List (UInt8×Nat):=frs (run (s.take k))
theorem turn_top {x:St} (h:0<x.l.length) (c:UInt8):(x.turn c).top=c:=by
 obtain ⟨l,f⟩:=x
 cases l with
 | nil=>simp at h
 | cons a r=>rfl
def Bs (s:List UInt8) (B:List Nat) (a:Nat):Prop:=FP s a=B∨(FP s a=B++[a - 1]∧1≤a∧(a<s.length→a - 1 ∉ FP s (a+1)))
def ExOk (x:List UInt8):Prop:=(∃ r,x=96 :: r)∨∃ c r,x=36 :: c :: r
end Go.Proofs.YtjcdmjdofdnaoaaGreatDoor.Li
namespace Go.Proofs.YtjcdmjdofdnaoaaGreatDoor.Pat
open Go.ChangeShapes Go.WideShapes Go.Deep Go.RowKit
set_option maxRecDepth 100000
theorem wrapb (k:Nat) (h:k<256):IntKind.u8.wrap (k:Int)=((UInt8.ofNat k).toNat:Int):=by
 rw [wraps_u8 _ (by omega) (by omega)];simp;omega
end Go.Proofs.YtjcdmjdofdnaoaaGreatDoor.Pat
