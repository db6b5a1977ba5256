/-
  The walks of layer 26 (fields): the maker's function separate, and the search of a byte. Conditions: at most 2^33 fields.
-/
import Derived.Test.YtjcdmjdofdnaoaaGreatDoorFields3
import Derived.Lib.Bytealg
set_option linter.unusedSimpArgs false
set_option linter.unusedVariables false
namespace Go.Proofs.YtjcdmjdofdnaoaaGreatDoor
open Go.ChangeShapes Go.WideShapes Go.Deep Go.RowKit
set_option maxRecDepth 100000
theorem _root_.Go.Proofs.YtjcdmjdofdnaoaaGreatDoor.j7g {p:Prop} (h:p):Go.RowKit.Hid p:=Go.Lib.hid h
theorem add_any (w:World) (b0 mb:Nat) (lv tv pv:Value) (m:Mk) (u:Un) (h:MkAt w b0 mb lv tv pv m) (ht:m.text.length≤8589934592) (hp:m.pat.length≤17179869184) :
  Calls Tryz.prog 67 #[.pointer (some ⟨mb,0,none⟩),u.val] w (AddPost b0 mb lv (addM m u) w):=by
 cases hn:u.none with
 | true=>exact add_none w b0 mb lv tv pv m u h hn
 | false =>
  cases hq:u.quoted with
  | false=>exact zny w b0 mb lv tv pv m u h hn hq ht hp
  | true=>exact add_true w b0 mb lv tv pv m u h hn hq ht hp
theorem znz {w:World} {b0:Nat} {v:Value} {l:List Fd} {x y:List UInt8} (h:Own w b0 2 v (l.length+1) (l.flatMap Fd.cells++[.string (B x),.string (B y)])):Own w b0 2 v (l++[(⟨x,y⟩:Fd)]).length ((l++[(⟨x,y⟩:Fd)]).flatMap Fd.cells):=by
 rw [List.length_append,List.flatMap_append];exact h
structure EndSt (w W:World) (b0 mb:Nat) (lv L tv pv:Value) (l:List Fd) (text pat:List UInt8) (begun mark:Bool):Prop where
 c:MkC W b0 mb lv tv pv begun mark
 o:MkO W b0 L tv pv l text pat
 k:KeepsM b0 w W
theorem EndSt.below {w W W':World} {b0 mb:Nat} {lv L tv pv:Value} {l:List Fd} {text pat:List UInt8} {begun mark:Bool} (h:EndSt w W b0 mb lv L tv pv l text pat begun mark) (hb:Below W.heap.size W W'):EndSt w W' b0 mb lv L tv pv l text pat begun mark :=
 ⟨h.c.below hb,h.o.below hb,h.k.below hb⟩
theorem EndSt.appL {w W W':World} {b0 mb:Nat} {lv L tv pv v':Value} {l l':List Fd} {text pat:List UInt8} {begun mark:Bool} (h:EndSt w W b0 mb lv L tv pv l text pat begun mark) (ho:Own W' b0 2 v' l'.length (l'.flatMap Fd.cells)) (hk:Keeps (fun k=>L.ownBlock=some k∧b0≤k) W W')
  (hat:v'.ownBlock=L.ownBlock∨∀ k,v'.ownBlock=some k→W.heap.size≤k) (hty:∀ k,v'.ownBlock=some k→W.heap.size≤k→tyOf W' k=some 68):EndSt w W' b0 mb lv v' tv pv l' text pat begun mark :=
 ⟨h.c.block (hk.block mb h.c.lt (fun hf=>by have:=h.o.tl mb hf.1;rw [h.c.ty] at this;revert this;decide)),h.o.appL ho hk hat hty,
  h.k.step hk (fun k hf _=>⟨hf.2,.inr (.inr (h.o.tl k hf.1))⟩)⟩
theorem EndSt.set0 {w W:World} {b0 mb:Nat} {lv L tv pv:Value} {l:List Fd} {text pat:List UInt8} {begun mark:Bool} (h:EndSt w W b0 mb lv L tv pv l text pat begun mark) (x:Value):EndSt w (W.setCell ⟨mb,0,none⟩ x) b0 mb x L tv pv l text pat begun mark :=
 ⟨h.c.set0 x,h.o.set h.c.ty 0 x,h.k.set h.c.ge h.c.ty 0 x⟩
structure EndPost (b0 mb:Nat) (m:Mk) (w:World) (e:Ending) (w':World):Prop where
 e:e = .returned (.tuple #[])
 h:∃ lv tv pv,MkAt w' b0 mb lv tv pv m∧KeepsM b0 w w'
theorem zmc {b0 mb:Nat} {m:Mk} {w w':World} {e:Ending} (h:e = .returned (.tuple #[])∧∃ lv,MkAt w' b0 mb lv (.slice none 0 0) (.slice none 0 0) m∧KeepsM b0 w w'):EndPost b0 mb m w e w':=⟨h.1,by obtain ⟨lv,h⟩:=h.2;exact ⟨lv,_,_,h⟩⟩
theorem EndSt.ended {w W:World} {b0 mb:Nat} {L tv pv:Value} {m:Mk} (h:EndSt w W b0 mb L L tv pv (m.l++[⟨m.text,m.pat⟩]) m.text m.pat m.begun m.mark) :
  MkAt (((W.setCell ⟨mb,1,none⟩ (.slice none 0 0)).setCell ⟨mb,2,none⟩ (.slice none 0 0)).setCell ⟨mb,3,none⟩ (.bool false)) b0 mb L (.slice none 0 0) (.slice none 0 0) (endM m) ∧
   KeepsM b0 w (((W.setCell ⟨mb,1,none⟩ (.slice none 0 0)).setCell ⟨mb,2,none⟩ (.slice none 0 0)).setCell ⟨mb,3,none⟩ (.bool false)):=by
 have o:=((h.o.set h.c.ty 1 (.slice none 0 0)).set (h.c.set1 (.slice none 0 0)).ty 2 (.slice none 0 0)).set ((h.c.set1 (.slice none 0 0)).set2 (.slice none 0 0)).ty 3 (.bool false);refine ⟨⟨((h.c.set1 (.slice none 0 0)).set2 (.slice none 0 0)).set3 false,⟨o.ol,Own.nil _ _ _,Own.nil _ _ _,o.tl,?_,?_,?_⟩⟩,((h.k.set h.c.ge h.c.ty 1 _).set h.c.ge (h.c.set1 (.slice none 0 0)).ty 2 _).set h.c.ge ((h.c.set1 (.slice none 0 0)).set2 (.slice none 0 0)).ty 3 _⟩
 ·intro k e;cases e
 ·intro k e;cases e
 ·intro k e;cases e
set_option maxHeartbeats 2000000 in
theorem zlg (w:World) (b0 mb:Nat) (lv tv pv:Value) (m:Mk) (h:MkAt w b0 mb lv tv pv m) (hl:m.l.length≤8589934592) :
  Calls Tryz.prog 69 #[.pointer (some ⟨mb,0,none⟩)] w (EndPost b0 mb (endM m) w):=by
 obtain ⟨i2,hi2,hz20,hz21,hz22⟩:=info_parts info_fd;have hlt:=h.c.lt
 haveI:Old w mb:=⟨hlt⟩
 have hc0:=h.c.c0;have hc1:=h.c.c1;have hc2:=h.c.c2;have hf:=h.c.f0;have HGE:=j7g h.c.ge;have hbw:b0≤w.heap.size:=Nat.le_of_lt (Nat.lt_of_le_of_lt h.c.ge hlt)
 have HA:Hid (EndSt w w b0 mb lv lv tv pv m.l m.text m.pat m.begun m.mark):=⟨h.c,h.o,KeepsM.refl _ _⟩
 clear h;go_enter Tryz.func69,Tryz.ntmps69;refine wp_seq_k fun K hK=>?_;refine zn (fun W=>W.cell? ⟨mb,0,none⟩=some lv∧W.cell? ⟨mb,1,none⟩=some tv∧W.cell? ⟨mb,2,none⟩=some pv∧Own W b0 1 tv m.text.length (m.text.flatMap byteC)∧Own W b0 1 pv m.pat.length (m.pat.flatMap byteC)) [20] (by kernel_rfl) ?_
 obtain ⟨D,hD⟩:∃ D,D=w.drew:=⟨_,rfl⟩
 have HA:=j7g (HA.out.below (zg (Below.refl _ _)));have hDs:D.heap.size=w.heap.size:=by rw [hD];rfl
 rw [← hD] at HA ⊢;clear hD;refine zzl (i:=0) rfl (fun _=>⟨HA.out.c.c0,HA.out.c.c1,HA.out.c.c2,HA.out.o.ot,HA.out.o.op⟩) ?_
 try simp only [Act.put,zzt,zzz,zzs]
 refine zzl (i:=1) rfl (fun _=>⟨HA.out.c.c0,HA.out.c.c1,HA.out.c.c2,HA.out.o.ot,HA.out.o.op⟩) ?_
 try simp only [Act.put,zzt,zzz,zzs]
 refine zzl (i:=2) rfl (fun _=>⟨HA.out.c.c0,HA.out.c.c1,HA.out.c.c2,HA.out.o.ot,HA.out.o.op⟩) ?_
 try simp only [Act.put,zzt,zzz,zzs]
 refine zzl (i:=3) rfl (fun _=>⟨HA.out.c.c0,HA.out.c.c1,HA.out.c.c2,HA.out.o.ot,HA.out.o.op⟩) ?_
 try simp only [Act.put,zzt,zzz,zzs]
 refine z6 (i:=4) [17,18,19,20] (v:=?v4_5) rfl (by kernel_rfl) (by kernel_rfl) (by kernel_rfl) (by kernel_rfl) (by kernel_rfl) (fun _ _ _ h=>h) (Or.inl ⟨by rfl,?y4_5⟩) (fun _=>⟨HA.out.c.c0,HA.out.c.c1,HA.out.c.c2,HA.out.o.ot,HA.out.o.op⟩) ?r4_5
 case y4_5 =>
  intro w hSw
  (try dsimp only at hSw)
  go_split_ands
  go_simp
  try with_reducible rfl
 try simp only [Act.put,zzt,zzz,zzs]
 refine zzl (i:=5) rfl (fun _=>⟨HA.out.c.c0,HA.out.c.c1,HA.out.c.c2,HA.out.o.ot,HA.out.o.op⟩) ?_
 try simp only [Act.put,zzt,zzz,zzs]
 refine zzl (i:=6) rfl (fun _=>⟨HA.out.c.c0,HA.out.c.c1,HA.out.c.c2,HA.out.o.ot,HA.out.o.op⟩) ?_
 try simp only [Act.put,zzt,zzz,zzs]
 refine zzl (i:=7) rfl (fun _=>⟨HA.out.c.c0,HA.out.c.c1,HA.out.c.c2,HA.out.o.ot,HA.out.o.op⟩) ?_
 try simp only [Act.put,zzt,zzz,zzs]
 refine z6 (i:=8) [9,15,16,17,18,19,20] (v:=?v8_9) rfl (by kernel_rfl) (by kernel_rfl) (by kernel_rfl) (by kernel_rfl) (by kernel_rfl) (fun _ _ _ h=>h) (Or.inl ⟨by rfl,?y8_9⟩) (fun _=>⟨HA.out.c.c0,HA.out.c.c1,HA.out.c.c2,HA.out.o.ot,HA.out.o.op⟩) ?r8_9
 case y8_9 =>
  intro w hSw
  (try dsimp only at hSw)
  go_split_ands
  go_simp
  try with_reducible rfl
 try simp only [Act.put,zzt,zzz,zzs]
 refine z6 (i:=9) [15,16,17,18,19,20] (v:=?v9_10) rfl (by kernel_rfl) (by kernel_rfl) (by kernel_rfl) (by kernel_rfl) (by kernel_rfl) (fun _ _ _ h=>h) (Or.inl ⟨by rfl,?y9_10⟩) (fun _=>⟨HA.out.c.c0,HA.out.c.c1,HA.out.c.c2,HA.out.o.ot,HA.out.o.op⟩) ?r9_10
 case y9_10 =>
  intro w hSw
  (try dsimp only at hSw)
  have h:=zil hSw.2.2.2.1 rfl;go_simp
  try with_reducible rfl
 try simp only [Act.put,zzt,zzz,zzs]
 refine zzl (i:=10) rfl (fun _=>⟨HA.out.c.c0,HA.out.c.c1,HA.out.c.c2,HA.out.o.ot,HA.out.o.op⟩) ?_
 try simp only [Act.put,zzt,zzz,zzs]
 refine zzl (i:=11) rfl (fun _=>⟨HA.out.c.c0,HA.out.c.c1,HA.out.c.c2,HA.out.o.ot,HA.out.o.op⟩) ?_
 try simp only [Act.put,zzt,zzz,zzs]
 refine zzl (i:=12) rfl (fun _=>⟨HA.out.c.c0,HA.out.c.c1,HA.out.c.c2,HA.out.o.ot,HA.out.o.op⟩) ?_
 try simp only [Act.put,zzt,zzz,zzs]
 refine z6 (i:=13) [14,15,16,17,18,19,20] (v:=?v13_14) rfl (by kernel_rfl) (by kernel_rfl) (by kernel_rfl) (by kernel_rfl) (by kernel_rfl) (fun _ _ _ h=>h) (Or.inl ⟨by rfl,?y13_14⟩) (fun _=>⟨HA.out.c.c0,HA.out.c.c1,HA.out.c.c2,HA.out.o.ot,HA.out.o.op⟩) ?r13_14
 case y13_14 =>
  intro w hSw
  (try dsimp only at hSw)
  go_split_ands
  go_simp
  try with_reducible rfl
 try simp only [Act.put,zzt,zzz,zzs]
 refine z6 (i:=14) [15,16,17,18,19,20] (v:=?v14_15) rfl (by kernel_rfl) (by kernel_rfl) (by kernel_rfl) (by kernel_rfl) (by kernel_rfl) (fun _ _ _ h=>h) (Or.inl ⟨by rfl,?y14_15⟩) (fun _=>⟨HA.out.c.c0,HA.out.c.c1,HA.out.c.c2,HA.out.o.ot,HA.out.o.op⟩) ?r14_15
 case y14_15 =>
  intro w hSw
  (try dsimp only at hSw)
  have h:=zil hSw.2.2.2.2 rfl;go_simp
  try with_reducible rfl
 try simp only [Act.put,zzt,zzz,zzs]
 refine zzl (i:=15) rfl (fun _=>⟨HA.out.c.c0,HA.out.c.c1,HA.out.c.c2,HA.out.o.ot,HA.out.o.op⟩) ?_
 try simp only [Act.put,zzt,zzz,zzs]
 refine zc (rs:=[16]) (by kernel_rfl) (by simp) ?_;refine AllReadyK.cons (i:=16) rfl (fun K hK=>?_) ?_
 ·go_simp
  have HA:=j7g (HA.out.below (za (Below.refl _ _) (.cells #[.string (B m.text),.string (B m.pat)] 68)));refine hK.out _ _ (fun _=>⟨HA.out.c.c0,HA.out.c.c1,HA.out.c.c2,HA.out.o.ot,HA.out.o.op⟩) ?_;clear hK K
  try simp only [Act.put,zzt,zzz,zzs]
  refine zc (rs:=[17]) (by kernel_rfl) (by simp) ?_;refine AllReadyK.cons (i:=17) rfl (fun K hK=>?_) ?_
  ·(refine zk _ rfl (.tmp 6) (.tmp 18) _ rfl b0 68 i2 _ 2 32 Tryz.underlying64 hi2 hz20 hz21 hz22 rfl (by decide) _ m.l.length (m.l.flatMap Fd.cells) rfl (HA.out.o.ol) _ 1 [.string (B m.text),.string (B m.pat)] rfl rfl (by refine zo _ _ _ _ _ ?_;first|rfl|(simp;done)|omega|(simp;omega)) (by simp [Value.oneCell']) (by unfold maxLen;omega) (by omega) (by first|(simp;done)|omega|(simp;omega)) ?_;intro v17 w17 hown17 hg17 hat17 hty17;have HTY17:=j7g hty17;clear hty17)
   have HA:=j7g (HA.out.appL (znz hown17) hg17 hat17 HTY17.out);obtain ⟨g17,o17,c17,rfl,-,-,-,-⟩:=hown17.form;refine hK.out _ _ (fun _=>⟨HA.out.c.c0,HA.out.c.c1,HA.out.c.c2,HA.out.o.ot,HA.out.o.op⟩) ?_;clear hK K
   try simp only [Act.put,zzt,zzz,zzs]
   refine zzl (i:=18) rfl (fun _=>⟨HA.out.c.c0,HA.out.c.c1,HA.out.c.c2,HA.out.o.ot,HA.out.o.op⟩) ?_
   try simp only [Act.put,zzt,zzz,zzs]
   refine zzl (i:=19) rfl (fun _=>⟨HA.out.c.c0,HA.out.c.c1,HA.out.c.c2,HA.out.o.ot,HA.out.o.op⟩) ?_
   try simp only [Act.put,zzt,zzz,zzs]
   refine zc (rs:=[20]) (by kernel_rfl) (by simp) ?_;refine AllReadyK.cons (i:=20) rfl (fun K hK=>?_) ?_
   ·have hc0:=HA.out.c.c0
    have hf0:=HA.out.c.f0;go_simp;refine hK.out _ _ (fun h=>Bool.noConfusion ((show unl _ _=false by kernel_rfl).symm.trans h)) ?_;clear hK K
    try simp only [Act.put,zzt,zzz,zzs]
    refine zt (by kernel_rfl) ?_ _;have HA:=j7g (HA.out.set0 (.slice (some ⟨g17,o17,none⟩) (m.l.length+1) c17))
    obtain ⟨W,hW⟩:∃ W,W=w17.setCell ⟨mb,0,none⟩ (.slice (some ⟨g17,o17,none⟩) (m.l.length+1) c17):=⟨_,rfl⟩
    rw [← hW] at HA ⊢;clear hW;have hc1:=HA.out.c.c1;have hc2:=HA.out.c.c2;have hc3:=HA.out.c.c3;have hf0:=HA.out.c.f0
    haveI:Old W mb:=⟨HA.out.c.lt⟩
    go_wp2
    go_end0
    exact zmc ⟨rfl,_,HA.out.ended⟩
   exact AllReadyK.nil
  exact AllReadyK.nil
 exact AllReadyK.nil
theorem EndPost.mark {b0 mb:Nat} {m:Mk} {w w':World} {e:Ending} (h:EndPost b0 mb m w e w'):∃ lv tv pv,MkAt w' b0 mb lv tv pv m∧KeepsM b0 w w':=h.h
theorem MkAt.set4 {w:World} {b0 mb:Nat} {lv tv pv:Value} {m:Mk} (h:MkAt w b0 mb lv tv pv m) (x:Bool):MkAt (w.setCell ⟨mb,4,none⟩ (.bool x)) b0 mb lv tv pv { m with mark:=x }:=⟨h.c.set4 x,h.o.set h.c.ty 4 _⟩
set_option maxHeartbeats 1000000 in
theorem zim (w:World) (b0 mb:Nat) (lv tv pv:Value) (m:Mk) (white:Bool) (h:MkAt w b0 mb lv tv pv m) (hl:m.l.length≤8589934592) :
  Calls Tryz.prog 68 #[.pointer (some ⟨mb,0,none⟩),.bool white] w (EndPost b0 mb (sepM m white) w):=by
 have HE:=j7g (zlg w b0 mb lv tv pv m h hl);have hlt:=h.c.lt
 haveI:Old w mb:=⟨hlt⟩
 have hc3:=h.c.c3;have hc4:=h.c.c4;have hf:=h.c.f0;have H:=j7g h;clear h
 cases hb:m.begun with
 | true =>
  have HS:=j7g (show sepM m white = { endM m with mark:=white } by simp [sepM,hb]);rw [hb] at hc3;go_enter Tryz.func68,Tryz.ntmps68
  go_wp2_with (go_at_call 69;refine HE.out.mono ?_;rintro e w1 ⟨rfl,l1,t1,p1,h1,k1⟩;have hc14:=h1.c.c4;have hf1:=h1.c.f0;have H1:=j7g h1;have K1:=j7g k1;clear h1 k1)
  go_end0
  refine ⟨rfl,l1,t1,p1,?_,?_⟩
  ·rw [HS.out];exact H1.out.set4 white
  ·exact K1.out.set H1.out.c.ge H1.out.c.ty 4 _
 | false =>
  rw [hb] at hc3
  cases white with
  | true =>
   have HS:=j7g (show sepM m true=m by simp [sepM,hb]);go_enter Tryz.func68,Tryz.ntmps68;go_wp2
   go_end0
   exact ⟨rfl,lv,tv,pv,by rw [HS.out];exact H.out,KeepsM.refl _ _⟩
  | false =>
   cases hk:m.mark with
   | true =>
    have HS:=j7g (show sepM m false = { m with mark:=false } by simp [sepM,hb,hk]);rw [hk] at hc4;go_enter Tryz.func68,Tryz.ntmps68;go_wp2
    go_end0
    refine ⟨rfl,lv,tv,pv,?_,?_⟩
    ·rw [HS.out];exact H.out.set4 false
    ·exact (KeepsM.refl _ _).set H.out.c.ge H.out.c.ty 4 _
   | false =>
    have HS:=j7g (show sepM m false=endM m by simp [sepM,hb,hk]);rw [hk] at hc4;go_enter Tryz.func68,Tryz.ntmps68
    go_wp2_with (go_at_call 69;refine HE.out.mono ?_;rintro e w1 ⟨rfl,l1,t1,p1,h1,k1⟩;have H1:=j7g h1;have K1:=j7g k1;clear h1 k1)
    go_end0
    exact ⟨rfl,l1,t1,p1,by rw [HS.out];exact H1.out,K1.out⟩
theorem zee (s:List UInt8) (c:UInt8) (w:World):Calls Tryz.prog 106 #[.string (B s),.int .u8 c.toNat] w fun e w'=>e = .returned (.int .i64 (Lib.indexByte s c))∧w'=w:=by
 go_enter Tryz.func106,Tryz.ntmps106;go_wp2;rw [run_callFunc_extern Tryz.func134 (by kernel_rfl) (by kernel_rfl) (by kernel_rfl) (e:=Extern.BytealgIndexByte.indexByte) (by kernel_rfl),Lib.run_indexByteString];simp only [Result.andThen];rw [Oper.upon_value];go_wp2;go_ret;exact ⟨by simp [B],rfl⟩
theorem zh9 (s:List UInt8) (c:UInt8) (w:World):Calls Tryz.prog 66 #[.string (B s),.int .u8 c.toNat] w fun e w'=>e = .returned (.int .i64 (Lib.indexByte s c))∧w'=w:=by
 have HC:=j7g (zee s c);go_enter Tryz.func66,Tryz.ntmps66
 go_wp2_with (go_at_call 106;refine (HC.out _).mono ?_;rintro e w' ⟨rfl,rfl⟩)
 go_ret;exact ⟨rfl,rfl⟩
theorem zin (s:List UInt8) (c:UInt8):decide (Lib.indexByte s c<0) = !s.contains c:=by
 induction s with
 | nil=>rfl
 | cons x s ih =>
  have h0:=Lib.indexByte_ge s c;unfold Lib.indexByte
  split
  ·next h=>simp_all
  ·next h =>
   simp only [List.contains_cons]
   have hx:(c == x)=false:=by
    rw [beq_eq_false_iff_ne];intro e
    simp_all
   rw [hx,Bool.false_or,← ih]
   split
   ·next h1=>simp only [beq_iff_eq] at h1;rw [h1]
   ·next h1 =>
    have h2:Lib.indexByte s c ≠ -1:=by simpa using h1
    rw [decide_eq_false (by omega),decide_eq_false (by omega)]
end Go.Proofs.YtjcdmjdofdnaoaaGreatDoor
