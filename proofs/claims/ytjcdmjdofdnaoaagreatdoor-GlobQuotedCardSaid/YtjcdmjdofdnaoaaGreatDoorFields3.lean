/-
  The walks of layer 26 (fields): the maker's functions, on (printed by gen_fields.py). Conditions: at most 2^33 bytes.
-/
import Derived.Test.YtjcdmjdofdnaoaaGreatDoorFields2
set_option linter.unusedSimpArgs false
set_option linter.unusedVariables false
namespace Go.Proofs.YtjcdmjdofdnaoaaGreatDoor
open Go.ChangeShapes Go.WideShapes Go.Deep Go.RowKit
set_option maxRecDepth 100000
theorem _root_.Go.Proofs.YtjcdmjdofdnaoaaGreatDoor.j7f {p:Prop} (h:p):Go.RowKit.Hid p:=Go.Lib.hid h
theorem zaj {w:World} {b0:Nat} {v:Value} {l:List UInt8} {b:UInt8} (h:Own w b0 1 v (l.length+1) (l.flatMap byteC++[.int .u8 b.toNat])):Own w b0 1 v (l++[b]).length ((l++[b]).flatMap byteC):=by
 rw [List.length_append,List.flatMap_append];exact h
theorem src_on {F:Nat→Prop} {w w1 w':World} {x:Value} {m:Nat} {news:List Value} (h:Src w x m news) (hb:Below w.heap.size w w1) (hk:Keeps F w1 w') (hx:∀ k,x.ownBlock=some k→¬ F k):Src w' x m news:=(h.below hb).keeps hk hx
theorem zo (w:World) (cs:List Value) (t:TypeId) (m k:Nat) (hk:k=w.heap.size):Src (w.alloc (.cells cs.toArray t)) (.slice (some ⟨k,0,none⟩) m m) m cs:=by
 subst hk;exact Src.one w cs t m
theorem hx_of {T:Value} {n g b0 m c:Nat} (h:∀ k,T.ownBlock=some k→k<n) (hn:n≤g):∀ k,(Value.slice (some ⟨g,0,none⟩) m c).ownBlock=some k→¬ (T.ownBlock=some k∧b0≤k):=by
 intro k e hf;have e1:g=k:=Option.some.inj e;have:=h k hf.1;omega
def begunW (w:World) (mb:Nat) (u:Un):World:=((w.setCell ⟨mb,3,none⟩ (.bool true)).setCell ⟨mb,4,none⟩ (.bool false)).alloc (.cells #[.int .u8 u.b.toNat,.bool u.none,.bool u.quoted,.bool u.parts] 146)
theorem MkAt.begin {w:World} {b0 mb:Nat} {lv tv pv:Value} {m:Mk} (h:MkAt w b0 mb lv tv pv m) (u:Un):AddSt w (begunW w mb u) b0 mb w.heap.size lv tv pv tv pv u { m with begun:=true,mark:=false } m.text m.pat:=by
 have k1:=((KeepsM.refl b0 w).set h.c.ge h.c.ty 3 (.bool true)).set h.c.ge (h.c.set3 true).ty 4 (.bool false);have hb:=za (Below.refl ((w.setCell ⟨mb,3,none⟩ (.bool true)).setCell ⟨mb,4,none⟩ (.bool false)).heap.size ((w.setCell ⟨mb,3,none⟩ (.bool true)).setCell ⟨mb,4,none⟩ (.bool false))) (.cells #[.int .u8 u.b.toNat,.bool u.none,.bool u.quoted,.bool u.parts] 146);have hu:=UBox.new ((w.setCell ⟨mb,3,none⟩ (.bool true)).setCell ⟨mb,4,none⟩ (.bool false)) u;rw [show ((w.setCell ⟨mb,3,none⟩ (.bool true)).setCell ⟨mb,4,none⟩ (.bool false)).heap.size=w.heap.size by simp [World.setCell]] at hu;exact ⟨((h.c.set3 true).set4 false).below hb,((h.o.set h.c.ty 3 _).set (h.c.set3 true).ty 4 _).below hb,k1.below hb,hu⟩
theorem AddSt.set2 {w W:World} {b0 mb ub:Nat} {lv tv pv T P:Value} {u:Un} {m:Mk} {text pat:List UInt8} (h:AddSt w W b0 mb ub lv tv pv T P u m text pat) (x:Value):AddSt w (W.setCell ⟨mb,2,none⟩ x) b0 mb ub lv tv x T P u m text pat :=
 ⟨h.c.set2 x,h.o.set h.c.ty 2 x,h.k.set h.c.ge h.c.ty 2 x,h.u.keepsM ((KeepsM.refl b0 W).set h.c.ge h.c.ty 2 x)⟩
theorem AddSt.bw {w W:World} {b0 mb ub:Nat} {lv tv pv T P:Value} {u:Un} {m:Mk} {text pat:List UInt8} (h:AddSt w W b0 mb ub lv tv pv T P u m text pat):b0≤W.heap.size:=Nat.le_of_lt (Nat.lt_of_le_of_lt h.c.ge h.c.lt)
structure AddPost (b0 mb:Nat) (lv:Value) (m:Mk) (w:World) (e:Ending) (w':World):Prop where
 e:e = .returned (.tuple #[])
 h:∃ tv pv,MkAt w' b0 mb lv tv pv m∧KeepsM b0 w w'
theorem zau {b0 mb:Nat} {lv:Value} {m:Mk} {w w':World} {e:Ending} (h:e = .returned (.tuple #[])∧∃ tv pv,MkAt w' b0 mb lv tv pv m∧KeepsM b0 w w'):AddPost b0 mb lv m w e w':=⟨h.1,h.2⟩
set_option maxHeartbeats 2000000 in
theorem add_none (w:World) (b0 mb:Nat) (lv tv pv:Value) (m:Mk) (u:Un) (h:MkAt w b0 mb lv tv pv m) (hn:u.none=true) :
  Calls Tryz.prog 67 #[.pointer (some ⟨mb,0,none⟩),u.val] w (AddPost b0 mb lv (addM m u) w):=by
 have hlt:=h.c.lt
 haveI:Old w mb:=⟨hlt⟩
 have hc3:=h.c.c3;have hc4:=h.c.c4;have hf:=h.c.f0;have H:=j7f h;clear h;unfold Un.val;rw [hn];go_enter Tryz.func67,Tryz.ntmps67;go_wp2
 go_end0
 refine zau ⟨rfl,tv,pv,?_⟩;rw [show addM m u = { m with begun:=true,mark:=false } by simp [addM,hn]];have HA:=H.out.begin u;unfold begunW at HA;rw [hn] at HA;exact ⟨⟨HA.c,HA.o⟩,HA.k⟩
set_option maxHeartbeats 4000000 in
theorem zny (w:World) (b0 mb:Nat) (lv tv pv:Value) (m:Mk) (u:Un) (h:MkAt w b0 mb lv tv pv m) (hn:u.none=false) (hq:u.quoted=false) (ht:m.text.length≤8589934592) (hp:m.pat.length≤17179869184) :
  Calls Tryz.prog 67 #[.pointer (some ⟨mb,0,none⟩),u.val] w (AddPost b0 mb lv (addM m u) w):=by
 obtain ⟨i8,hi8,hz80,hz81,hz82⟩:=info_parts zhd;have hlt:=h.c.lt
 haveI:Old w mb:=⟨hlt⟩
 have hc3:=h.c.c3;have hc2:=h.c.c2;have hc4:=h.c.c4;have hf:=h.c.f0;have HGE:=j7f h.c.ge;have HA:=j7f (h.begin u);have HE:=j7f (show addM m u=⟨m.l,m.text++[u.b],(m.pat)++[u.b],true,false⟩ by simp [addM,hn,hq]);clear h;unfold Un.val begunW at *;rw [hn,hq] at *;go_enter Tryz.func67,Tryz.ntmps67;go_wp2
 obtain ⟨W,hW⟩:∃ W,W=((w.setCell ⟨mb,3,none⟩ (.bool true)).setCell ⟨mb,4,none⟩ (.bool false)).alloc (.cells #[.int .u8 u.b.toNat,.bool false,.bool false,.bool u.parts] 146):=⟨_,rfl⟩
 rw [← hW] at HA ⊢;have hbw:b0≤W.heap.size:=HA.out.bw;clear hW;have HTV:=j7f (show ∀ k,tv.ownBlock=some k→k<W.heap.size from HA.out.o.ot.lt)
 have hpl:(m.pat).length≤17179869185:=by first|omega|(simp;omega)
 refine zn (fun W=>W.cell? ⟨mb,1,none⟩=some tv∧W.cell? ⟨mb,2,none⟩=some pv∧W.cell? ⟨w.heap.size,0,none⟩=some (.int .u8 u.b.toNat)) [20,23] (by kernel_rfl) ?_
 obtain ⟨D,hD⟩:∃ D,D=W.drew:=⟨_,rfl⟩
 have HA:=j7f (HA.out.below (zg (Below.refl _ _)));have hDs:D.heap.size=W.heap.size:=by rw [hD];rfl
 rw [← hD] at HA ⊢;clear hD;refine zzl (i:=0) rfl (fun _=>⟨HA.out.c.c1,HA.out.c.c2,HA.out.u.c0⟩) ?_
 try simp only [Act.put,zzt,zzz,zzs]
 refine zzl (i:=1) rfl (fun _=>⟨HA.out.c.c1,HA.out.c.c2,HA.out.u.c0⟩) ?_
 try simp only [Act.put,zzt,zzz,zzs]
 refine zzl (i:=2) rfl (fun _=>⟨HA.out.c.c1,HA.out.c.c2,HA.out.u.c0⟩) ?_
 try simp only [Act.put,zzt,zzz,zzs]
 refine zzl (i:=3) rfl (fun _=>⟨HA.out.c.c1,HA.out.c.c2,HA.out.u.c0⟩) ?_
 try simp only [Act.put,zzt,zzz,zzs]
 refine zzl (i:=4) rfl (fun _=>⟨HA.out.c.c1,HA.out.c.c2,HA.out.u.c0⟩) ?_
 try simp only [Act.put,zzt,zzz,zzs]
 refine z6 (i:=5) [9,17,18,19,20,21,22,23] (v:=?v5_6) rfl (by kernel_rfl) (by kernel_rfl) (by kernel_rfl) (by kernel_rfl) (by kernel_rfl) (fun _ _ _ h=>h) (Or.inl ⟨by rfl,?y5_6⟩) (fun _=>⟨HA.out.c.c1,HA.out.c.c2,HA.out.u.c0⟩) ?r5_6
 case y5_6 =>
  intro w hSw
  (try dsimp only at hSw)
  go_split_ands
  go_simp
  try with_reducible rfl
 try simp only [Act.put,zzt,zzz,zzs]
 refine zzl (i:=6) rfl (fun _=>⟨HA.out.c.c1,HA.out.c.c2,HA.out.u.c0⟩) ?_
 try simp only [Act.put,zzt,zzz,zzs]
 refine z6 (i:=7) [8,9,17,18,19,20,21,22,23] (v:=?v7_8) rfl (by kernel_rfl) (by kernel_rfl) (by kernel_rfl) (by kernel_rfl) (by kernel_rfl) (fun _ _ _ h=>h) (Or.inl ⟨by rfl,?y7_8⟩) (fun _=>⟨HA.out.c.c1,HA.out.c.c2,HA.out.u.c0⟩) ?r7_8
 case y7_8 =>
  intro w hSw
  (try dsimp only at hSw)
  go_split_ands
  go_simp
  try with_reducible rfl
 try simp only [Act.put,zzt,zzz,zzs]
 refine zzl (i:=10) rfl (fun _=>⟨HA.out.c.c1,HA.out.c.c2,HA.out.u.c0⟩) ?_
 try simp only [Act.put,zzt,zzz,zzs]
 refine zzl (i:=11) rfl (fun _=>⟨HA.out.c.c1,HA.out.c.c2,HA.out.u.c0⟩) ?_
 try simp only [Act.put,zzt,zzz,zzs]
 refine zzl (i:=12) rfl (fun _=>⟨HA.out.c.c1,HA.out.c.c2,HA.out.u.c0⟩) ?_
 try simp only [Act.put,zzt,zzz,zzs]
 refine z6 (i:=13) [17,18,19,20,21,22,23] (v:=?v13_12) rfl (by kernel_rfl) (by kernel_rfl) (by kernel_rfl) (by kernel_rfl) (by kernel_rfl) (fun _ _ _ h=>h) (Or.inl ⟨by rfl,?y13_12⟩) (fun _=>⟨HA.out.c.c1,HA.out.c.c2,HA.out.u.c0⟩) ?r13_12
 case y13_12 =>
  intro w hSw
  (try dsimp only at hSw)
  go_split_ands
  go_simp
  try with_reducible rfl
 try simp only [Act.put,zzt,zzz,zzs]
 refine zzl (i:=14) rfl (fun _=>⟨HA.out.c.c1,HA.out.c.c2,HA.out.u.c0⟩) ?_
 try simp only [Act.put,zzt,zzz,zzs]
 refine z6 (i:=15) [16,17,18,19,20,21,22,23] (v:=?v15_14) rfl (by kernel_rfl) (by kernel_rfl) (by kernel_rfl) (by kernel_rfl) (by kernel_rfl) (fun _ _ _ h=>h) (Or.inl ⟨by rfl,?y15_14⟩) (fun _=>⟨HA.out.c.c1,HA.out.c.c2,HA.out.u.c0⟩) ?r15_14
 case y15_14 =>
  intro w hSw
  (try dsimp only at hSw)
  go_split_ands
  go_simp
  try with_reducible rfl
 try simp only [Act.put,zzt,zzz,zzs]
 refine zc (rs:=[8,16]) (by kernel_rfl) (by simp) ?_;refine AllReadyK.cons (i:=8) rfl (fun K hK=>?_) ?_
 ·go_simp
  have HA:=j7f (HA.out.below (za (Below.refl _ _) (.cells #[.int .u8 u.b.toNat] 5)));refine hK.out _ _ (fun _=>⟨HA.out.c.c1,HA.out.c.c2,HA.out.u.c0⟩) ?_;clear hK K
  try simp only [Act.put,zzt,zzz,zzs]
  refine zc (rs:=[9,16]) (by kernel_rfl) (by simp) ?_;refine AllReadyK.cons (i:=9) rfl (fun K hK=>?_) ?_
  ·(refine zk _ rfl (.tmp 28) (.tmp 31) _ rfl b0 5 i8 _ 1 1 Tryz.underlying97 hi8 hz80 hz81 hz82 rfl (by decide) _ m.text.length (m.text.flatMap byteC) rfl (HA.out.o.ot) _ 1 [.int .u8 u.b.toNat] rfl rfl (by first|(refine zo _ _ _ _ _ ?_;first|rfl|(simp;done)|omega|(simp;omega))|(refine Src.below (zo _ _ _ _ _ ?_) (za (Below.refl _ _) _);first|rfl|(simp;done)|omega|(simp;omega))) (by simp [Value.oneCell']) (by unfold maxLen;omega) (by omega) (by first|(simp;done)|omega|(simp;omega)) ?_;intro v9 w9 hown9 hg9 hat9 hty9;have HTY9:=j7f hty9;clear hty9)
   have HA:=j7f (HA.out.appT (zaj hown9) hg9 hat9 HTY9.out);have hbw9:=HA.out.bw;obtain ⟨g9,o9,c9,rfl,-,-,-,-⟩:=hown9.form;refine hK.out _ _ (fun _=>⟨HA.out.c.c1,HA.out.c.c2,HA.out.u.c0⟩) ?_;clear hK K
   try simp only [Act.put,zzt,zzz,zzs]
   refine zc (rs:=[16]) (by kernel_rfl) (by simp) ?_;refine AllReadyK.cons (i:=16) rfl (fun K hK=>?_) ?_
   ·go_simp
    have HA:=j7f (HA.out.below (za (Below.refl _ _) (.cells #[.int .u8 u.b.toNat] 5)));refine hK.out _ _ (fun _=>⟨HA.out.c.c1,HA.out.c.c2,HA.out.u.c0⟩) ?_;clear hK K
    try simp only [Act.put,zzt,zzz,zzs]
    refine zc (rs:=[17]) (by kernel_rfl) (by simp) ?_;refine AllReadyK.cons (i:=17) rfl (fun K hK=>?_) ?_
    ·(refine zk _ rfl (.tmp 36) (.tmp 39) _ rfl b0 5 i8 _ 1 1 Tryz.underlying97 hi8 hz80 hz81 hz82 rfl (by decide) _ (m.pat).length ((m.pat).flatMap byteC) rfl (HA.out.o.op) _ 1 [.int .u8 u.b.toNat] rfl rfl (by first|(refine zo _ _ _ _ _ ?_;first|rfl|(simp;done)|omega|(simp;omega))|(refine src_on (zo _ _ _ _ _ ?_) (Below.refl _ _) hg9 (hx_of HTV.out ?_) <;> (first|rfl|(simp;done)|omega|(simp;omega)))|(refine src_on (zo _ _ _ _ _ ?_) (za (Below.refl _ _) _) hg9 (hx_of HTV.out ?_) <;> (first|rfl|(simp;done)|omega|(simp;omega)))) (by simp [Value.oneCell']) (by unfold maxLen;omega) (by omega) (by first|(simp;done)|omega|(simp;omega)) ?_;intro v17 w17 hown17 hg17 hat17 hty17;have HTY17:=j7f hty17;clear hty17)
     have HA:=j7f (HA.out.appP (zaj hown17) hg17 hat17 HTY17.out);obtain ⟨g17,o17,c17,rfl,-,-,-,-⟩:=hown17.form;refine hK.out _ _ (fun _=>⟨HA.out.c.c1,HA.out.c.c2,HA.out.u.c0⟩) ?_;clear hK K
     try simp only [Act.put,zzt,zzz,zzs]
     refine zzl (i:=18) rfl (fun _=>⟨HA.out.c.c1,HA.out.c.c2,HA.out.u.c0⟩) ?_
     try simp only [Act.put,zzt,zzz,zzs]
     refine zzl (i:=19) rfl (fun _=>⟨HA.out.c.c1,HA.out.c.c2,HA.out.u.c0⟩) ?_
     try simp only [Act.put,zzt,zzz,zzs]
     refine zc (rs:=[20]) (by kernel_rfl) (by simp) ?_;refine AllReadyK.cons (i:=20) rfl (fun K hK=>?_) ?_
     ·have hc1:=HA.out.c.c1
      have hf1:=HA.out.c.f0;go_simp;refine hK.out _ _ (fun h=>Bool.noConfusion ((show unl _ _=false by kernel_rfl).symm.trans h)) ?_;clear hK K
      try simp only [Act.put,zzt,zzz,zzs]
      refine zzl (i:=21) rfl (fun h=>Bool.noConfusion ((show unl _ _=false by kernel_rfl).symm.trans h)) ?_
      try simp only [Act.put,zzt,zzz,zzs]
      refine zzl (i:=22) rfl (fun h=>Bool.noConfusion ((show unl _ _=false by kernel_rfl).symm.trans h)) ?_
      try simp only [Act.put,zzt,zzz,zzs]
      refine zc (rs:=[23]) (by kernel_rfl) (by simp) ?_;refine AllReadyK.cons (i:=23) rfl (fun K hK=>?_) ?_
      ·have hc2:=(HA.out.c.set1 (.slice (some ⟨g9,o9,none⟩) (m.text.length+1) c9)).c2
       have hf2:=(HA.out.c.set1 (.slice (some ⟨g9,o9,none⟩) (m.text.length+1) c9)).f0;go_simp;refine hK.out _ _ (fun h=>Bool.noConfusion ((show unl _ _=false by kernel_rfl).symm.trans h)) ?_;clear hK K
       try simp only [Act.put,zzt,zzz,zzs]
       refine zt (by kernel_rfl) ?_ _;go_wp2
       go_end0
       refine zau ⟨rfl,(.slice (some ⟨g9,o9,none⟩) (m.text.length+1) c9),(.slice (some ⟨g17,o17,none⟩) ((m.pat).length+1) c17),?_,?_⟩
       ·rw [HE.out]
        exact ⟨(HA.out.c.set1 (.slice (some ⟨g9,o9,none⟩) (m.text.length+1) c9)).set2 (.slice (some ⟨g17,o17,none⟩) ((m.pat).length+1) c17),(HA.out.o.set HA.out.c.ty 1 (.slice (some ⟨g9,o9,none⟩) (m.text.length+1) c9)).set (HA.out.c.set1 (.slice (some ⟨g9,o9,none⟩) (m.text.length+1) c9)).ty 2 (.slice (some ⟨g17,o17,none⟩) ((m.pat).length+1) c17)⟩
       ·exact (HA.out.k.set HA.out.c.ge HA.out.c.ty 1 (.slice (some ⟨g9,o9,none⟩) (m.text.length+1) c9)).set HA.out.c.ge (HA.out.c.set1 (.slice (some ⟨g9,o9,none⟩) (m.text.length+1) c9)).ty 2 (.slice (some ⟨g17,o17,none⟩) ((m.pat).length+1) c17)
      exact AllReadyK.nil
     exact AllReadyK.nil
    exact AllReadyK.nil
   exact AllReadyK.nil
  refine AllReadyK.cons (i:=16) rfl (fun K hK=>?_) ?_
  ·go_simp
   have HA:=j7f (HA.out.below (za (Below.refl _ _) (.cells #[.int .u8 u.b.toNat] 5)));refine hK.out _ _ (fun _=>⟨HA.out.c.c1,HA.out.c.c2,HA.out.u.c0⟩) ?_;clear hK K
   try simp only [Act.put,zzt,zzz,zzs]
   refine zc (rs:=[9]) (by kernel_rfl) (by simp) ?_;refine AllReadyK.cons (i:=9) rfl (fun K hK=>?_) ?_
   ·(refine zk _ rfl (.tmp 28) (.tmp 31) _ rfl b0 5 i8 _ 1 1 Tryz.underlying97 hi8 hz80 hz81 hz82 rfl (by decide) _ m.text.length (m.text.flatMap byteC) rfl (HA.out.o.ot) _ 1 [.int .u8 u.b.toNat] rfl rfl (by first|(refine zo _ _ _ _ _ ?_;first|rfl|(simp;done)|omega|(simp;omega))|(refine Src.below (zo _ _ _ _ _ ?_) (za (Below.refl _ _) _);first|rfl|(simp;done)|omega|(simp;omega))) (by simp [Value.oneCell']) (by unfold maxLen;omega) (by omega) (by first|(simp;done)|omega|(simp;omega)) ?_;intro v9 w9 hown9 hg9 hat9 hty9;have HTY9:=j7f hty9;clear hty9)
    have HA:=j7f (HA.out.appT (zaj hown9) hg9 hat9 HTY9.out);have hbw9:=HA.out.bw;obtain ⟨g9,o9,c9,rfl,-,-,-,-⟩:=hown9.form;refine hK.out _ _ (fun _=>⟨HA.out.c.c1,HA.out.c.c2,HA.out.u.c0⟩) ?_;clear hK K
    try simp only [Act.put,zzt,zzz,zzs]
    refine zc (rs:=[17]) (by kernel_rfl) (by simp) ?_;refine AllReadyK.cons (i:=17) rfl (fun K hK=>?_) ?_
    ·(refine zk _ rfl (.tmp 36) (.tmp 39) _ rfl b0 5 i8 _ 1 1 Tryz.underlying97 hi8 hz80 hz81 hz82 rfl (by decide) _ (m.pat).length ((m.pat).flatMap byteC) rfl (HA.out.o.op) _ 1 [.int .u8 u.b.toNat] rfl rfl (by first|(refine zo _ _ _ _ _ ?_;first|rfl|(simp;done)|omega|(simp;omega))|(refine src_on (zo _ _ _ _ _ ?_) (Below.refl _ _) hg9 (hx_of HTV.out ?_) <;> (first|rfl|(simp;done)|omega|(simp;omega)))|(refine src_on (zo _ _ _ _ _ ?_) (za (Below.refl _ _) _) hg9 (hx_of HTV.out ?_) <;> (first|rfl|(simp;done)|omega|(simp;omega)))) (by simp [Value.oneCell']) (by unfold maxLen;omega) (by omega) (by first|(simp;done)|omega|(simp;omega)) ?_;intro v17 w17 hown17 hg17 hat17 hty17;have HTY17:=j7f hty17;clear hty17)
     have HA:=j7f (HA.out.appP (zaj hown17) hg17 hat17 HTY17.out);obtain ⟨g17,o17,c17,rfl,-,-,-,-⟩:=hown17.form;refine hK.out _ _ (fun _=>⟨HA.out.c.c1,HA.out.c.c2,HA.out.u.c0⟩) ?_;clear hK K
     try simp only [Act.put,zzt,zzz,zzs]
     refine zzl (i:=18) rfl (fun _=>⟨HA.out.c.c1,HA.out.c.c2,HA.out.u.c0⟩) ?_
     try simp only [Act.put,zzt,zzz,zzs]
     refine zzl (i:=19) rfl (fun _=>⟨HA.out.c.c1,HA.out.c.c2,HA.out.u.c0⟩) ?_
     try simp only [Act.put,zzt,zzz,zzs]
     refine zc (rs:=[20]) (by kernel_rfl) (by simp) ?_;refine AllReadyK.cons (i:=20) rfl (fun K hK=>?_) ?_
     ·have hc1:=HA.out.c.c1
      have hf1:=HA.out.c.f0;go_simp;refine hK.out _ _ (fun h=>Bool.noConfusion ((show unl _ _=false by kernel_rfl).symm.trans h)) ?_;clear hK K
      try simp only [Act.put,zzt,zzz,zzs]
      refine zzl (i:=21) rfl (fun h=>Bool.noConfusion ((show unl _ _=false by kernel_rfl).symm.trans h)) ?_
      try simp only [Act.put,zzt,zzz,zzs]
      refine zzl (i:=22) rfl (fun h=>Bool.noConfusion ((show unl _ _=false by kernel_rfl).symm.trans h)) ?_
      try simp only [Act.put,zzt,zzz,zzs]
      refine zc (rs:=[23]) (by kernel_rfl) (by simp) ?_;refine AllReadyK.cons (i:=23) rfl (fun K hK=>?_) ?_
      ·have hc2:=(HA.out.c.set1 (.slice (some ⟨g9,o9,none⟩) (m.text.length+1) c9)).c2
       have hf2:=(HA.out.c.set1 (.slice (some ⟨g9,o9,none⟩) (m.text.length+1) c9)).f0;go_simp;refine hK.out _ _ (fun h=>Bool.noConfusion ((show unl _ _=false by kernel_rfl).symm.trans h)) ?_;clear hK K
       try simp only [Act.put,zzt,zzz,zzs]
       refine zt (by kernel_rfl) ?_ _;go_wp2
       go_end0
       refine zau ⟨rfl,(.slice (some ⟨g9,o9,none⟩) (m.text.length+1) c9),(.slice (some ⟨g17,o17,none⟩) ((m.pat).length+1) c17),?_,?_⟩
       ·rw [HE.out]
        exact ⟨(HA.out.c.set1 (.slice (some ⟨g9,o9,none⟩) (m.text.length+1) c9)).set2 (.slice (some ⟨g17,o17,none⟩) ((m.pat).length+1) c17),(HA.out.o.set HA.out.c.ty 1 (.slice (some ⟨g9,o9,none⟩) (m.text.length+1) c9)).set (HA.out.c.set1 (.slice (some ⟨g9,o9,none⟩) (m.text.length+1) c9)).ty 2 (.slice (some ⟨g17,o17,none⟩) ((m.pat).length+1) c17)⟩
       ·exact (HA.out.k.set HA.out.c.ge HA.out.c.ty 1 (.slice (some ⟨g9,o9,none⟩) (m.text.length+1) c9)).set HA.out.c.ge (HA.out.c.set1 (.slice (some ⟨g9,o9,none⟩) (m.text.length+1) c9)).ty 2 (.slice (some ⟨g17,o17,none⟩) ((m.pat).length+1) c17)
      exact AllReadyK.nil
     exact AllReadyK.nil
    exact AllReadyK.nil
   exact AllReadyK.nil
  exact AllReadyK.nil
 refine AllReadyK.cons (i:=16) rfl (fun K hK=>?_) ?_
 ·go_simp
  have HA:=j7f (HA.out.below (za (Below.refl _ _) (.cells #[.int .u8 u.b.toNat] 5)));refine hK.out _ _ (fun _=>⟨HA.out.c.c1,HA.out.c.c2,HA.out.u.c0⟩) ?_;clear hK K
  try simp only [Act.put,zzt,zzz,zzs]
  refine zc (rs:=[8]) (by kernel_rfl) (by simp) ?_;refine AllReadyK.cons (i:=8) rfl (fun K hK=>?_) ?_
  ·go_simp
   have HA:=j7f (HA.out.below (za (Below.refl _ _) (.cells #[.int .u8 u.b.toNat] 5)));refine hK.out _ _ (fun _=>⟨HA.out.c.c1,HA.out.c.c2,HA.out.u.c0⟩) ?_;clear hK K
   try simp only [Act.put,zzt,zzz,zzs]
   refine zc (rs:=[9]) (by kernel_rfl) (by simp) ?_;refine AllReadyK.cons (i:=9) rfl (fun K hK=>?_) ?_
   ·(refine zk _ rfl (.tmp 28) (.tmp 31) _ rfl b0 5 i8 _ 1 1 Tryz.underlying97 hi8 hz80 hz81 hz82 rfl (by decide) _ m.text.length (m.text.flatMap byteC) rfl (HA.out.o.ot) _ 1 [.int .u8 u.b.toNat] rfl rfl (by first|(refine zo _ _ _ _ _ ?_;first|rfl|(simp;done)|omega|(simp;omega))|(refine Src.below (zo _ _ _ _ _ ?_) (za (Below.refl _ _) _);first|rfl|(simp;done)|omega|(simp;omega))) (by simp [Value.oneCell']) (by unfold maxLen;omega) (by omega) (by first|(simp;done)|omega|(simp;omega)) ?_;intro v9 w9 hown9 hg9 hat9 hty9;have HTY9:=j7f hty9;clear hty9)
    have HA:=j7f (HA.out.appT (zaj hown9) hg9 hat9 HTY9.out);have hbw9:=HA.out.bw;obtain ⟨g9,o9,c9,rfl,-,-,-,-⟩:=hown9.form;refine hK.out _ _ (fun _=>⟨HA.out.c.c1,HA.out.c.c2,HA.out.u.c0⟩) ?_;clear hK K
    try simp only [Act.put,zzt,zzz,zzs]
    refine zc (rs:=[17]) (by kernel_rfl) (by simp) ?_;refine AllReadyK.cons (i:=17) rfl (fun K hK=>?_) ?_
    ·(refine zk _ rfl (.tmp 36) (.tmp 39) _ rfl b0 5 i8 _ 1 1 Tryz.underlying97 hi8 hz80 hz81 hz82 rfl (by decide) _ (m.pat).length ((m.pat).flatMap byteC) rfl (HA.out.o.op) _ 1 [.int .u8 u.b.toNat] rfl rfl (by first|(refine zo _ _ _ _ _ ?_;first|rfl|(simp;done)|omega|(simp;omega))|(refine src_on (zo _ _ _ _ _ ?_) (Below.refl _ _) hg9 (hx_of HTV.out ?_) <;> (first|rfl|(simp;done)|omega|(simp;omega)))|(refine src_on (zo _ _ _ _ _ ?_) (za (Below.refl _ _) _) hg9 (hx_of HTV.out ?_) <;> (first|rfl|(simp;done)|omega|(simp;omega)))) (by simp [Value.oneCell']) (by unfold maxLen;omega) (by omega) (by first|(simp;done)|omega|(simp;omega)) ?_;intro v17 w17 hown17 hg17 hat17 hty17;have HTY17:=j7f hty17;clear hty17)
     have HA:=j7f (HA.out.appP (zaj hown17) hg17 hat17 HTY17.out);obtain ⟨g17,o17,c17,rfl,-,-,-,-⟩:=hown17.form;refine hK.out _ _ (fun _=>⟨HA.out.c.c1,HA.out.c.c2,HA.out.u.c0⟩) ?_;clear hK K
     try simp only [Act.put,zzt,zzz,zzs]
     refine zzl (i:=18) rfl (fun _=>⟨HA.out.c.c1,HA.out.c.c2,HA.out.u.c0⟩) ?_
     try simp only [Act.put,zzt,zzz,zzs]
     refine zzl (i:=19) rfl (fun _=>⟨HA.out.c.c1,HA.out.c.c2,HA.out.u.c0⟩) ?_
     try simp only [Act.put,zzt,zzz,zzs]
     refine zc (rs:=[20]) (by kernel_rfl) (by simp) ?_;refine AllReadyK.cons (i:=20) rfl (fun K hK=>?_) ?_
     ·have hc1:=HA.out.c.c1
      have hf1:=HA.out.c.f0;go_simp;refine hK.out _ _ (fun h=>Bool.noConfusion ((show unl _ _=false by kernel_rfl).symm.trans h)) ?_;clear hK K
      try simp only [Act.put,zzt,zzz,zzs]
      refine zzl (i:=21) rfl (fun h=>Bool.noConfusion ((show unl _ _=false by kernel_rfl).symm.trans h)) ?_
      try simp only [Act.put,zzt,zzz,zzs]
      refine zzl (i:=22) rfl (fun h=>Bool.noConfusion ((show unl _ _=false by kernel_rfl).symm.trans h)) ?_
      try simp only [Act.put,zzt,zzz,zzs]
      refine zc (rs:=[23]) (by kernel_rfl) (by simp) ?_;refine AllReadyK.cons (i:=23) rfl (fun K hK=>?_) ?_
      ·have hc2:=(HA.out.c.set1 (.slice (some ⟨g9,o9,none⟩) (m.text.length+1) c9)).c2
       have hf2:=(HA.out.c.set1 (.slice (some ⟨g9,o9,none⟩) (m.text.length+1) c9)).f0;go_simp;refine hK.out _ _ (fun h=>Bool.noConfusion ((show unl _ _=false by kernel_rfl).symm.trans h)) ?_;clear hK K
       try simp only [Act.put,zzt,zzz,zzs]
       refine zt (by kernel_rfl) ?_ _;go_wp2
       go_end0
       refine zau ⟨rfl,(.slice (some ⟨g9,o9,none⟩) (m.text.length+1) c9),(.slice (some ⟨g17,o17,none⟩) ((m.pat).length+1) c17),?_,?_⟩
       ·rw [HE.out]
        exact ⟨(HA.out.c.set1 (.slice (some ⟨g9,o9,none⟩) (m.text.length+1) c9)).set2 (.slice (some ⟨g17,o17,none⟩) ((m.pat).length+1) c17),(HA.out.o.set HA.out.c.ty 1 (.slice (some ⟨g9,o9,none⟩) (m.text.length+1) c9)).set (HA.out.c.set1 (.slice (some ⟨g9,o9,none⟩) (m.text.length+1) c9)).ty 2 (.slice (some ⟨g17,o17,none⟩) ((m.pat).length+1) c17)⟩
       ·exact (HA.out.k.set HA.out.c.ge HA.out.c.ty 1 (.slice (some ⟨g9,o9,none⟩) (m.text.length+1) c9)).set HA.out.c.ge (HA.out.c.set1 (.slice (some ⟨g9,o9,none⟩) (m.text.length+1) c9)).ty 2 (.slice (some ⟨g17,o17,none⟩) ((m.pat).length+1) c17)
      exact AllReadyK.nil
     exact AllReadyK.nil
    exact AllReadyK.nil
   exact AllReadyK.nil
  exact AllReadyK.nil
 exact AllReadyK.nil
set_option maxHeartbeats 4000000 in
theorem add_true (w:World) (b0 mb:Nat) (lv tv pv:Value) (m:Mk) (u:Un) (h:MkAt w b0 mb lv tv pv m) (hn:u.none=false) (hq:u.quoted=true) (ht:m.text.length≤8589934592) (hp:m.pat.length≤17179869184) :
  Calls Tryz.prog 67 #[.pointer (some ⟨mb,0,none⟩),u.val] w (AddPost b0 mb lv (addM m u) w):=by
 obtain ⟨i8,hi8,hz80,hz81,hz82⟩:=info_parts zhd;have hlt:=h.c.lt
 haveI:Old w mb:=⟨hlt⟩
 have hc3:=h.c.c3;have hc2:=h.c.c2;have hc4:=h.c.c4;have hf:=h.c.f0;have HGE:=j7f h.c.ge;have HA:=j7f (h.begin u);have HE:=j7f (show addM m u=⟨m.l,m.text++[u.b],(m.pat++[(92:UInt8)])++[u.b],true,false⟩ by simp [addM,hn,hq]);clear h;unfold Un.val begunW at *;rw [hn,hq] at *;go_enter Tryz.func67,Tryz.ntmps67;have hbw0:b0≤w.heap.size:=Nat.le_trans HGE.out (Nat.le_of_lt hlt)
 go_wp2_with (at_builtin;(have HA:=j7f (HA.out.below (za (Below.refl _ _) (.cells #[.int .u8 (92:UInt8).toNat] 5)));(at_builtin;refine zm _ rfl (.tmp 18) (.tmp 19) _ rfl b0 5 i8 _ 1 1 Tryz.underlying97 hi8 hz80 hz81 hz82 rfl (by decide) _ m.pat.length (m.pat.flatMap byteC) rfl (HA.out.o.op) _ 1 [.int .u8 (92:UInt8).toNat] rfl rfl (zo _ _ _ _ _ (by first|rfl|(simp;done)|omega)) (by simp [Value.oneCell']) (by unfold maxLen;omega) (by omega) (by first|(simp;done)|omega|(simp;omega)) ?_;intro v20 w20 hown20 hg20 hat20 hty20;have HTY20:=j7f hty20;clear hty20);have HA:=j7f (HA.out.appP (zaj hown20) hg20 hat20 HTY20.out);obtain ⟨g20,o20,c20,rfl,-,-,-,-⟩:=hown20.form;have hc20:=HA.out.c.c2;have hf20:=HA.out.c.f0))
 have HA:=j7f (HA.out.set2 (.slice (some ⟨g20,o20,none⟩) (m.pat.length+1) c20))
 obtain ⟨W,hW⟩:∃ W,W=w20.setCell ⟨mb,2,none⟩ (.slice (some ⟨g20,o20,none⟩) (m.pat.length+1) c20):=⟨_,rfl⟩
 rw [← hW] at HA ⊢;have hbw:b0≤W.heap.size:=HA.out.bw;clear hW;have HTV:=j7f (show ∀ k,tv.ownBlock=some k→k<W.heap.size from HA.out.o.ot.lt)
 have hpl:(m.pat++[(92:UInt8)]).length≤17179869185:=by first|omega|(simp;omega)
 obtain ⟨PP,hPP⟩:∃ PP,PP=m.pat++[(92:UInt8)]:=⟨_,rfl⟩
 rw [← hPP] at HA HE hpl;clear hPP;refine zn (fun W=>W.cell? ⟨mb,1,none⟩=some tv∧W.cell? ⟨mb,2,none⟩=some (.slice (some ⟨g20,o20,none⟩) (m.pat.length+1) c20)∧W.cell? ⟨w.heap.size,0,none⟩=some (.int .u8 u.b.toNat)) [20,23] (by kernel_rfl) ?_
 obtain ⟨D,hD⟩:∃ D,D=W.drew:=⟨_,rfl⟩
 have HA:=j7f (HA.out.below (zg (Below.refl _ _)));have hDs:D.heap.size=W.heap.size:=by rw [hD];rfl
 rw [← hD] at HA ⊢;clear hD;refine zzl (i:=0) rfl (fun _=>⟨HA.out.c.c1,HA.out.c.c2,HA.out.u.c0⟩) ?_
 try simp only [Act.put,zzt,zzz,zzs]
 refine zzl (i:=1) rfl (fun _=>⟨HA.out.c.c1,HA.out.c.c2,HA.out.u.c0⟩) ?_
 try simp only [Act.put,zzt,zzz,zzs]
 refine zzl (i:=2) rfl (fun _=>⟨HA.out.c.c1,HA.out.c.c2,HA.out.u.c0⟩) ?_
 try simp only [Act.put,zzt,zzz,zzs]
 refine zzl (i:=3) rfl (fun _=>⟨HA.out.c.c1,HA.out.c.c2,HA.out.u.c0⟩) ?_
 try simp only [Act.put,zzt,zzz,zzs]
 refine zzl (i:=4) rfl (fun _=>⟨HA.out.c.c1,HA.out.c.c2,HA.out.u.c0⟩) ?_
 try simp only [Act.put,zzt,zzz,zzs]
 refine z6 (i:=5) [9,17,18,19,20,21,22,23] (v:=?v5_6) rfl (by kernel_rfl) (by kernel_rfl) (by kernel_rfl) (by kernel_rfl) (by kernel_rfl) (fun _ _ _ h=>h) (Or.inl ⟨by rfl,?y5_6⟩) (fun _=>⟨HA.out.c.c1,HA.out.c.c2,HA.out.u.c0⟩) ?r5_6
 case y5_6 =>
  intro w hSw
  (try dsimp only at hSw)
  go_split_ands
  go_simp
  try with_reducible rfl
 try simp only [Act.put,zzt,zzz,zzs]
 refine zzl (i:=6) rfl (fun _=>⟨HA.out.c.c1,HA.out.c.c2,HA.out.u.c0⟩) ?_
 try simp only [Act.put,zzt,zzz,zzs]
 refine z6 (i:=7) [8,9,17,18,19,20,21,22,23] (v:=?v7_8) rfl (by kernel_rfl) (by kernel_rfl) (by kernel_rfl) (by kernel_rfl) (by kernel_rfl) (fun _ _ _ h=>h) (Or.inl ⟨by rfl,?y7_8⟩) (fun _=>⟨HA.out.c.c1,HA.out.c.c2,HA.out.u.c0⟩) ?r7_8
 case y7_8 =>
  intro w hSw
  (try dsimp only at hSw)
  go_split_ands
  go_simp
  try with_reducible rfl
 try simp only [Act.put,zzt,zzz,zzs]
 refine zzl (i:=10) rfl (fun _=>⟨HA.out.c.c1,HA.out.c.c2,HA.out.u.c0⟩) ?_
 try simp only [Act.put,zzt,zzz,zzs]
 refine zzl (i:=11) rfl (fun _=>⟨HA.out.c.c1,HA.out.c.c2,HA.out.u.c0⟩) ?_
 try simp only [Act.put,zzt,zzz,zzs]
 refine zzl (i:=12) rfl (fun _=>⟨HA.out.c.c1,HA.out.c.c2,HA.out.u.c0⟩) ?_
 try simp only [Act.put,zzt,zzz,zzs]
 refine z6 (i:=13) [17,18,19,20,21,22,23] (v:=?v13_12) rfl (by kernel_rfl) (by kernel_rfl) (by kernel_rfl) (by kernel_rfl) (by kernel_rfl) (fun _ _ _ h=>h) (Or.inl ⟨by rfl,?y13_12⟩) (fun _=>⟨HA.out.c.c1,HA.out.c.c2,HA.out.u.c0⟩) ?r13_12
 case y13_12 =>
  intro w hSw
  (try dsimp only at hSw)
  go_split_ands
  go_simp
  try with_reducible rfl
 try simp only [Act.put,zzt,zzz,zzs]
 refine zzl (i:=14) rfl (fun _=>⟨HA.out.c.c1,HA.out.c.c2,HA.out.u.c0⟩) ?_
 try simp only [Act.put,zzt,zzz,zzs]
 refine z6 (i:=15) [16,17,18,19,20,21,22,23] (v:=?v15_14) rfl (by kernel_rfl) (by kernel_rfl) (by kernel_rfl) (by kernel_rfl) (by kernel_rfl) (fun _ _ _ h=>h) (Or.inl ⟨by rfl,?y15_14⟩) (fun _=>⟨HA.out.c.c1,HA.out.c.c2,HA.out.u.c0⟩) ?r15_14
 case y15_14 =>
  intro w hSw
  (try dsimp only at hSw)
  go_split_ands
  go_simp
  try with_reducible rfl
 try simp only [Act.put,zzt,zzz,zzs]
 refine zc (rs:=[8,16]) (by kernel_rfl) (by simp) ?_;refine AllReadyK.cons (i:=8) rfl (fun K hK=>?_) ?_
 ·go_simp
  have HA:=j7f (HA.out.below (za (Below.refl _ _) (.cells #[.int .u8 u.b.toNat] 5)));refine hK.out _ _ (fun _=>⟨HA.out.c.c1,HA.out.c.c2,HA.out.u.c0⟩) ?_;clear hK K
  try simp only [Act.put,zzt,zzz,zzs]
  refine zc (rs:=[9,16]) (by kernel_rfl) (by simp) ?_;refine AllReadyK.cons (i:=9) rfl (fun K hK=>?_) ?_
  ·(refine zk _ rfl (.tmp 28) (.tmp 31) _ rfl b0 5 i8 _ 1 1 Tryz.underlying97 hi8 hz80 hz81 hz82 rfl (by decide) _ m.text.length (m.text.flatMap byteC) rfl (HA.out.o.ot) _ 1 [.int .u8 u.b.toNat] rfl rfl (by first|(refine zo _ _ _ _ _ ?_;first|rfl|(simp;done)|omega|(simp;omega))|(refine Src.below (zo _ _ _ _ _ ?_) (za (Below.refl _ _) _);first|rfl|(simp;done)|omega|(simp;omega))) (by simp [Value.oneCell']) (by unfold maxLen;omega) (by omega) (by first|(simp;done)|omega|(simp;omega)) ?_;intro v9 w9 hown9 hg9 hat9 hty9;have HTY9:=j7f hty9;clear hty9)
   have HA:=j7f (HA.out.appT (zaj hown9) hg9 hat9 HTY9.out);have hbw9:=HA.out.bw;obtain ⟨g9,o9,c9,rfl,-,-,-,-⟩:=hown9.form;refine hK.out _ _ (fun _=>⟨HA.out.c.c1,HA.out.c.c2,HA.out.u.c0⟩) ?_;clear hK K
   try simp only [Act.put,zzt,zzz,zzs]
   refine zc (rs:=[16]) (by kernel_rfl) (by simp) ?_;refine AllReadyK.cons (i:=16) rfl (fun K hK=>?_) ?_
   ·go_simp
    have HA:=j7f (HA.out.below (za (Below.refl _ _) (.cells #[.int .u8 u.b.toNat] 5)));refine hK.out _ _ (fun _=>⟨HA.out.c.c1,HA.out.c.c2,HA.out.u.c0⟩) ?_;clear hK K
    try simp only [Act.put,zzt,zzz,zzs]
    refine zc (rs:=[17]) (by kernel_rfl) (by simp) ?_;refine AllReadyK.cons (i:=17) rfl (fun K hK=>?_) ?_
    ·(refine zk _ rfl (.tmp 36) (.tmp 39) _ rfl b0 5 i8 _ 1 1 Tryz.underlying97 hi8 hz80 hz81 hz82 rfl (by decide) _ (PP).length ((PP).flatMap byteC) rfl (HA.out.o.op) _ 1 [.int .u8 u.b.toNat] rfl rfl (by first|(refine zo _ _ _ _ _ ?_;first|rfl|(simp;done)|omega|(simp;omega))|(refine src_on (zo _ _ _ _ _ ?_) (Below.refl _ _) hg9 (hx_of HTV.out ?_) <;> (first|rfl|(simp;done)|omega|(simp;omega)))|(refine src_on (zo _ _ _ _ _ ?_) (za (Below.refl _ _) _) hg9 (hx_of HTV.out ?_) <;> (first|rfl|(simp;done)|omega|(simp;omega)))) (by simp [Value.oneCell']) (by unfold maxLen;omega) (by omega) (by first|(simp;done)|omega|(simp;omega)) ?_;intro v17 w17 hown17 hg17 hat17 hty17;have HTY17:=j7f hty17;clear hty17)
     have HA:=j7f (HA.out.appP (zaj hown17) hg17 hat17 HTY17.out);obtain ⟨g17,o17,c17,rfl,-,-,-,-⟩:=hown17.form;refine hK.out _ _ (fun _=>⟨HA.out.c.c1,HA.out.c.c2,HA.out.u.c0⟩) ?_;clear hK K
     try simp only [Act.put,zzt,zzz,zzs]
     refine zzl (i:=18) rfl (fun _=>⟨HA.out.c.c1,HA.out.c.c2,HA.out.u.c0⟩) ?_
     try simp only [Act.put,zzt,zzz,zzs]
     refine zzl (i:=19) rfl (fun _=>⟨HA.out.c.c1,HA.out.c.c2,HA.out.u.c0⟩) ?_
     try simp only [Act.put,zzt,zzz,zzs]
     refine zc (rs:=[20]) (by kernel_rfl) (by simp) ?_;refine AllReadyK.cons (i:=20) rfl (fun K hK=>?_) ?_
     ·have hc1:=HA.out.c.c1
      have hf1:=HA.out.c.f0;go_simp;refine hK.out _ _ (fun h=>Bool.noConfusion ((show unl _ _=false by kernel_rfl).symm.trans h)) ?_;clear hK K
      try simp only [Act.put,zzt,zzz,zzs]
      refine zzl (i:=21) rfl (fun h=>Bool.noConfusion ((show unl _ _=false by kernel_rfl).symm.trans h)) ?_
      try simp only [Act.put,zzt,zzz,zzs]
      refine zzl (i:=22) rfl (fun h=>Bool.noConfusion ((show unl _ _=false by kernel_rfl).symm.trans h)) ?_
      try simp only [Act.put,zzt,zzz,zzs]
      refine zc (rs:=[23]) (by kernel_rfl) (by simp) ?_;refine AllReadyK.cons (i:=23) rfl (fun K hK=>?_) ?_
      ·have hc2:=(HA.out.c.set1 (.slice (some ⟨g9,o9,none⟩) (m.text.length+1) c9)).c2
       have hf2:=(HA.out.c.set1 (.slice (some ⟨g9,o9,none⟩) (m.text.length+1) c9)).f0;go_simp;refine hK.out _ _ (fun h=>Bool.noConfusion ((show unl _ _=false by kernel_rfl).symm.trans h)) ?_;clear hK K
       try simp only [Act.put,zzt,zzz,zzs]
       refine zt (by kernel_rfl) ?_ _;go_wp2
       go_end0
       refine zau ⟨rfl,(.slice (some ⟨g9,o9,none⟩) (m.text.length+1) c9),(.slice (some ⟨g17,o17,none⟩) ((PP).length+1) c17),?_,?_⟩
       ·rw [HE.out]
        exact ⟨(HA.out.c.set1 (.slice (some ⟨g9,o9,none⟩) (m.text.length+1) c9)).set2 (.slice (some ⟨g17,o17,none⟩) ((PP).length+1) c17),(HA.out.o.set HA.out.c.ty 1 (.slice (some ⟨g9,o9,none⟩) (m.text.length+1) c9)).set (HA.out.c.set1 (.slice (some ⟨g9,o9,none⟩) (m.text.length+1) c9)).ty 2 (.slice (some ⟨g17,o17,none⟩) ((PP).length+1) c17)⟩
       ·exact (HA.out.k.set HA.out.c.ge HA.out.c.ty 1 (.slice (some ⟨g9,o9,none⟩) (m.text.length+1) c9)).set HA.out.c.ge (HA.out.c.set1 (.slice (some ⟨g9,o9,none⟩) (m.text.length+1) c9)).ty 2 (.slice (some ⟨g17,o17,none⟩) ((PP).length+1) c17)
      exact AllReadyK.nil
     exact AllReadyK.nil
    exact AllReadyK.nil
   exact AllReadyK.nil
  refine AllReadyK.cons (i:=16) rfl (fun K hK=>?_) ?_
  ·go_simp
   have HA:=j7f (HA.out.below (za (Below.refl _ _) (.cells #[.int .u8 u.b.toNat] 5)));refine hK.out _ _ (fun _=>⟨HA.out.c.c1,HA.out.c.c2,HA.out.u.c0⟩) ?_;clear hK K
   try simp only [Act.put,zzt,zzz,zzs]
   refine zc (rs:=[9]) (by kernel_rfl) (by simp) ?_;refine AllReadyK.cons (i:=9) rfl (fun K hK=>?_) ?_
   ·(refine zk _ rfl (.tmp 28) (.tmp 31) _ rfl b0 5 i8 _ 1 1 Tryz.underlying97 hi8 hz80 hz81 hz82 rfl (by decide) _ m.text.length (m.text.flatMap byteC) rfl (HA.out.o.ot) _ 1 [.int .u8 u.b.toNat] rfl rfl (by first|(refine zo _ _ _ _ _ ?_;first|rfl|(simp;done)|omega|(simp;omega))|(refine Src.below (zo _ _ _ _ _ ?_) (za (Below.refl _ _) _);first|rfl|(simp;done)|omega|(simp;omega))) (by simp [Value.oneCell']) (by unfold maxLen;omega) (by omega) (by first|(simp;done)|omega|(simp;omega)) ?_;intro v9 w9 hown9 hg9 hat9 hty9;have HTY9:=j7f hty9;clear hty9)
    have HA:=j7f (HA.out.appT (zaj hown9) hg9 hat9 HTY9.out);have hbw9:=HA.out.bw;obtain ⟨g9,o9,c9,rfl,-,-,-,-⟩:=hown9.form;refine hK.out _ _ (fun _=>⟨HA.out.c.c1,HA.out.c.c2,HA.out.u.c0⟩) ?_;clear hK K
    try simp only [Act.put,zzt,zzz,zzs]
    refine zc (rs:=[17]) (by kernel_rfl) (by simp) ?_;refine AllReadyK.cons (i:=17) rfl (fun K hK=>?_) ?_
    ·(refine zk _ rfl (.tmp 36) (.tmp 39) _ rfl b0 5 i8 _ 1 1 Tryz.underlying97 hi8 hz80 hz81 hz82 rfl (by decide) _ (PP).length ((PP).flatMap byteC) rfl (HA.out.o.op) _ 1 [.int .u8 u.b.toNat] rfl rfl (by first|(refine zo _ _ _ _ _ ?_;first|rfl|(simp;done)|omega|(simp;omega))|(refine src_on (zo _ _ _ _ _ ?_) (Below.refl _ _) hg9 (hx_of HTV.out ?_) <;> (first|rfl|(simp;done)|omega|(simp;omega)))|(refine src_on (zo _ _ _ _ _ ?_) (za (Below.refl _ _) _) hg9 (hx_of HTV.out ?_) <;> (first|rfl|(simp;done)|omega|(simp;omega)))) (by simp [Value.oneCell']) (by unfold maxLen;omega) (by omega) (by first|(simp;done)|omega|(simp;omega)) ?_;intro v17 w17 hown17 hg17 hat17 hty17;have HTY17:=j7f hty17;clear hty17)
     have HA:=j7f (HA.out.appP (zaj hown17) hg17 hat17 HTY17.out);obtain ⟨g17,o17,c17,rfl,-,-,-,-⟩:=hown17.form;refine hK.out _ _ (fun _=>⟨HA.out.c.c1,HA.out.c.c2,HA.out.u.c0⟩) ?_;clear hK K
     try simp only [Act.put,zzt,zzz,zzs]
     refine zzl (i:=18) rfl (fun _=>⟨HA.out.c.c1,HA.out.c.c2,HA.out.u.c0⟩) ?_
     try simp only [Act.put,zzt,zzz,zzs]
     refine zzl (i:=19) rfl (fun _=>⟨HA.out.c.c1,HA.out.c.c2,HA.out.u.c0⟩) ?_
     try simp only [Act.put,zzt,zzz,zzs]
     refine zc (rs:=[20]) (by kernel_rfl) (by simp) ?_;refine AllReadyK.cons (i:=20) rfl (fun K hK=>?_) ?_
     ·have hc1:=HA.out.c.c1
      have hf1:=HA.out.c.f0;go_simp;refine hK.out _ _ (fun h=>Bool.noConfusion ((show unl _ _=false by kernel_rfl).symm.trans h)) ?_;clear hK K
      try simp only [Act.put,zzt,zzz,zzs]
      refine zzl (i:=21) rfl (fun h=>Bool.noConfusion ((show unl _ _=false by kernel_rfl).symm.trans h)) ?_
      try simp only [Act.put,zzt,zzz,zzs]
      refine zzl (i:=22) rfl (fun h=>Bool.noConfusion ((show unl _ _=false by kernel_rfl).symm.trans h)) ?_
      try simp only [Act.put,zzt,zzz,zzs]
      refine zc (rs:=[23]) (by kernel_rfl) (by simp) ?_;refine AllReadyK.cons (i:=23) rfl (fun K hK=>?_) ?_
      ·have hc2:=(HA.out.c.set1 (.slice (some ⟨g9,o9,none⟩) (m.text.length+1) c9)).c2
       have hf2:=(HA.out.c.set1 (.slice (some ⟨g9,o9,none⟩) (m.text.length+1) c9)).f0;go_simp;refine hK.out _ _ (fun h=>Bool.noConfusion ((show unl _ _=false by kernel_rfl).symm.trans h)) ?_;clear hK K
       try simp only [Act.put,zzt,zzz,zzs]
       refine zt (by kernel_rfl) ?_ _;go_wp2
       go_end0
       refine zau ⟨rfl,(.slice (some ⟨g9,o9,none⟩) (m.text.length+1) c9),(.slice (some ⟨g17,o17,none⟩) ((PP).length+1) c17),?_,?_⟩
       ·rw [HE.out]
        exact ⟨(HA.out.c.set1 (.slice (some ⟨g9,o9,none⟩) (m.text.length+1) c9)).set2 (.slice (some ⟨g17,o17,none⟩) ((PP).length+1) c17),(HA.out.o.set HA.out.c.ty 1 (.slice (some ⟨g9,o9,none⟩) (m.text.length+1) c9)).set (HA.out.c.set1 (.slice (some ⟨g9,o9,none⟩) (m.text.length+1) c9)).ty 2 (.slice (some ⟨g17,o17,none⟩) ((PP).length+1) c17)⟩
       ·exact (HA.out.k.set HA.out.c.ge HA.out.c.ty 1 (.slice (some ⟨g9,o9,none⟩) (m.text.length+1) c9)).set HA.out.c.ge (HA.out.c.set1 (.slice (some ⟨g9,o9,none⟩) (m.text.length+1) c9)).ty 2 (.slice (some ⟨g17,o17,none⟩) ((PP).length+1) c17)
      exact AllReadyK.nil
     exact AllReadyK.nil
    exact AllReadyK.nil
   exact AllReadyK.nil
  exact AllReadyK.nil
 refine AllReadyK.cons (i:=16) rfl (fun K hK=>?_) ?_
 ·go_simp
  have HA:=j7f (HA.out.below (za (Below.refl _ _) (.cells #[.int .u8 u.b.toNat] 5)));refine hK.out _ _ (fun _=>⟨HA.out.c.c1,HA.out.c.c2,HA.out.u.c0⟩) ?_;clear hK K
  try simp only [Act.put,zzt,zzz,zzs]
  refine zc (rs:=[8]) (by kernel_rfl) (by simp) ?_;refine AllReadyK.cons (i:=8) rfl (fun K hK=>?_) ?_
  ·go_simp
   have HA:=j7f (HA.out.below (za (Below.refl _ _) (.cells #[.int .u8 u.b.toNat] 5)));refine hK.out _ _ (fun _=>⟨HA.out.c.c1,HA.out.c.c2,HA.out.u.c0⟩) ?_;clear hK K
   try simp only [Act.put,zzt,zzz,zzs]
   refine zc (rs:=[9]) (by kernel_rfl) (by simp) ?_;refine AllReadyK.cons (i:=9) rfl (fun K hK=>?_) ?_
   ·(refine zk _ rfl (.tmp 28) (.tmp 31) _ rfl b0 5 i8 _ 1 1 Tryz.underlying97 hi8 hz80 hz81 hz82 rfl (by decide) _ m.text.length (m.text.flatMap byteC) rfl (HA.out.o.ot) _ 1 [.int .u8 u.b.toNat] rfl rfl (by first|(refine zo _ _ _ _ _ ?_;first|rfl|(simp;done)|omega|(simp;omega))|(refine Src.below (zo _ _ _ _ _ ?_) (za (Below.refl _ _) _);first|rfl|(simp;done)|omega|(simp;omega))) (by simp [Value.oneCell']) (by unfold maxLen;omega) (by omega) (by first|(simp;done)|omega|(simp;omega)) ?_;intro v9 w9 hown9 hg9 hat9 hty9;have HTY9:=j7f hty9;clear hty9)
    have HA:=j7f (HA.out.appT (zaj hown9) hg9 hat9 HTY9.out);have hbw9:=HA.out.bw;obtain ⟨g9,o9,c9,rfl,-,-,-,-⟩:=hown9.form;refine hK.out _ _ (fun _=>⟨HA.out.c.c1,HA.out.c.c2,HA.out.u.c0⟩) ?_;clear hK K
    try simp only [Act.put,zzt,zzz,zzs]
    refine zc (rs:=[17]) (by kernel_rfl) (by simp) ?_;refine AllReadyK.cons (i:=17) rfl (fun K hK=>?_) ?_
    ·(refine zk _ rfl (.tmp 36) (.tmp 39) _ rfl b0 5 i8 _ 1 1 Tryz.underlying97 hi8 hz80 hz81 hz82 rfl (by decide) _ (PP).length ((PP).flatMap byteC) rfl (HA.out.o.op) _ 1 [.int .u8 u.b.toNat] rfl rfl (by first|(refine zo _ _ _ _ _ ?_;first|rfl|(simp;done)|omega|(simp;omega))|(refine src_on (zo _ _ _ _ _ ?_) (Below.refl _ _) hg9 (hx_of HTV.out ?_) <;> (first|rfl|(simp;done)|omega|(simp;omega)))|(refine src_on (zo _ _ _ _ _ ?_) (za (Below.refl _ _) _) hg9 (hx_of HTV.out ?_) <;> (first|rfl|(simp;done)|omega|(simp;omega)))) (by simp [Value.oneCell']) (by unfold maxLen;omega) (by omega) (by first|(simp;done)|omega|(simp;omega)) ?_;intro v17 w17 hown17 hg17 hat17 hty17;have HTY17:=j7f hty17;clear hty17)
     have HA:=j7f (HA.out.appP (zaj hown17) hg17 hat17 HTY17.out);obtain ⟨g17,o17,c17,rfl,-,-,-,-⟩:=hown17.form;refine hK.out _ _ (fun _=>⟨HA.out.c.c1,HA.out.c.c2,HA.out.u.c0⟩) ?_;clear hK K
     try simp only [Act.put,zzt,zzz,zzs]
     refine zzl (i:=18) rfl (fun _=>⟨HA.out.c.c1,HA.out.c.c2,HA.out.u.c0⟩) ?_
     try simp only [Act.put,zzt,zzz,zzs]
     refine zzl (i:=19) rfl (fun _=>⟨HA.out.c.c1,HA.out.c.c2,HA.out.u.c0⟩) ?_
     try simp only [Act.put,zzt,zzz,zzs]
     refine zc (rs:=[20]) (by kernel_rfl) (by simp) ?_;refine AllReadyK.cons (i:=20) rfl (fun K hK=>?_) ?_
     ·have hc1:=HA.out.c.c1
      have hf1:=HA.out.c.f0;go_simp;refine hK.out _ _ (fun h=>Bool.noConfusion ((show unl _ _=false by kernel_rfl).symm.trans h)) ?_;clear hK K
      try simp only [Act.put,zzt,zzz,zzs]
      refine zzl (i:=21) rfl (fun h=>Bool.noConfusion ((show unl _ _=false by kernel_rfl).symm.trans h)) ?_
      try simp only [Act.put,zzt,zzz,zzs]
      refine zzl (i:=22) rfl (fun h=>Bool.noConfusion ((show unl _ _=false by kernel_rfl).symm.trans h)) ?_
      try simp only [Act.put,zzt,zzz,zzs]
      refine zc (rs:=[23]) (by kernel_rfl) (by simp) ?_;refine AllReadyK.cons (i:=23) rfl (fun K hK=>?_) ?_
      ·have hc2:=(HA.out.c.set1 (.slice (some ⟨g9,o9,none⟩) (m.text.length+1) c9)).c2
       have hf2:=(HA.out.c.set1 (.slice (some ⟨g9,o9,none⟩) (m.text.length+1) c9)).f0;go_simp;refine hK.out _ _ (fun h=>Bool.noConfusion ((show unl _ _=false by kernel_rfl).symm.trans h)) ?_;clear hK K
       try simp only [Act.put,zzt,zzz,zzs]
       refine zt (by kernel_rfl) ?_ _;go_wp2
       go_end0
       refine zau ⟨rfl,(.slice (some ⟨g9,o9,none⟩) (m.text.length+1) c9),(.slice (some ⟨g17,o17,none⟩) ((PP).length+1) c17),?_,?_⟩
       ·rw [HE.out]
        exact ⟨(HA.out.c.set1 (.slice (some ⟨g9,o9,none⟩) (m.text.length+1) c9)).set2 (.slice (some ⟨g17,o17,none⟩) ((PP).length+1) c17),(HA.out.o.set HA.out.c.ty 1 (.slice (some ⟨g9,o9,none⟩) (m.text.length+1) c9)).set (HA.out.c.set1 (.slice (some ⟨g9,o9,none⟩) (m.text.length+1) c9)).ty 2 (.slice (some ⟨g17,o17,none⟩) ((PP).length+1) c17)⟩
       ·exact (HA.out.k.set HA.out.c.ge HA.out.c.ty 1 (.slice (some ⟨g9,o9,none⟩) (m.text.length+1) c9)).set HA.out.c.ge (HA.out.c.set1 (.slice (some ⟨g9,o9,none⟩) (m.text.length+1) c9)).ty 2 (.slice (some ⟨g17,o17,none⟩) ((PP).length+1) c17)
      exact AllReadyK.nil
     exact AllReadyK.nil
    exact AllReadyK.nil
   exact AllReadyK.nil
  exact AllReadyK.nil
 exact AllReadyK.nil
end Go.Proofs.YtjcdmjdofdnaoaaGreatDoor
