/-
  The walks of layer 26 (fields): the maker's functions. Conditions: at most 2^40 bytes.
-/
import Derived.Test.YtfmecpnokefokaaGreatDoorFields
import Derived.Test.YtfmecpnokefokaaGreatDoorKeyed2
import Derived.Lib.SlBytesRow
import Derived.Lib.BufferRead
import Derived.Deep.RegionHeld3
import Derived.Deep.AppendLies
set_option linter.unusedSimpArgs false
set_option linter.unusedVariables false
namespace Go.Proofs.YtfmecpnokefokaaGreatDoor
open Go.ChangeShapes Go.WideShapes Go.Deep Go.RowKit
set_option maxRecDepth 100000
def byteC (b:UInt8):List Value:=[.int .u8 b.toNat]
theorem zp4 (ys:List UInt8) (j:Nat):(ys.flatMap byteC)[j]?=(ys[j]?).map fun y=>Value.int .u8 y.toNat:=by
 induction ys generalizing j with
 | nil=>simp
 | cons y ys ih =>
  cases j with
  | zero=>simp [byteC]
  | succ j=>simpa [byteC] using ih j
theorem zi5:(Tryz.prog.info? 5).map (fun i=>(i.zero,i.size,i.bytes))=some (some (.int .u8 0),1,1):=by kernel_rfl
theorem zm5:(Tryz.prog.info? 95).map (fun i=>(i.zero,i.size,i.bytes))=some (some (.agg #[.string ByteArray.empty,.string ByteArray.empty]),2,32):=by kernel_rfl
theorem zkv {w:World} {b0 n:Nat} {v:Value} {l:List UInt8} (h:Own w b0 1 v n (l.flatMap byteC)) (hn:n=l.length):(convert 42 9 v).run Tryz.prog w = .ok (.string (B l)) w:=by
 subst hn;rcases h.2 with ⟨h0,rfl|⟨g,off,rfl,hg⟩⟩|⟨g,off,c,rfl,h1,h2,h3,h4,h5,h6⟩
 ·have:l=[]:=List.eq_nil_of_length_eq_zero h0
  subst this;exact Lib.run_convert_nil_bytes w _ _ _ _ Tryz.underlying42 Tryz.underlying5 Tryz.underlying9
 ·have:l=[]:=List.eq_nil_of_length_eq_zero h0
  subst this;have:=Lib.run_convert_whole (P:=Tryz.prog) w _ _ _ Tryz.underlying42 Tryz.underlying5 Tryz.underlying9 g off (B []) (fun i hi=>by rw [B_size] at hi;simp at hi) 0;rw [B_size] at this;exact this
 ·have:=Lib.run_convert_whole (P:=Tryz.prog) w _ _ _ Tryz.underlying42 Tryz.underlying5 Tryz.underlying9 g off (B l) (fun i hi=>by
   rw [B_size] at hi;refine h6 i _ ?_;rw [zp4,List.getElem?_eq_getElem hi]
   rfl) c
  rwa [B_size] at this
theorem Src.keeps {F:Nat→Prop} {w w':World} {x:Value} {m:Nat} {news:List Value} (h:Src w x m news) (hk:Keeps F w w') (hx:∀ k,x.ownBlock=some k→¬ F k):Src w' x m news:=by
 obtain ⟨A,c,e,h⟩:=h;refine ⟨A,c,e,?_⟩;rcases h with h|⟨a,e2,h⟩
 ·exact .inl h
 ·refine .inr ⟨a,e2,fun j u hj=>?_⟩
  have:=h j u hj;have hlt:=World.block_lt_of_cell? w _ this;have hb:=hk.block _ hlt (hx _ (by rw [e,e2];simp only [Value.ownBlock,Addr.add];split <;> rfl));rw [World.cell?_of_block (w:=w) hb];exact this
def mkF (w:World) (b0:Nat) (k:Nat):Prop:=b0≤k∧(tyOf w k=some 137∨tyOf w k=some 5∨tyOf w k=some 95)
def KeepsM (b0:Nat) (w w':World):Prop:=Keeps (mkF w b0) w w'
theorem KeepsM.refl (b0:Nat) (w:World):KeepsM b0 w w:=Keeps.refl _ _
theorem KeepsM.step {b0:Nat} {G:Nat→Prop} {w W W':World} (h:KeepsM b0 w W) (hk:Keeps G W W') (hG:∀ k,G k→k<W.heap.size→mkF W b0 k):KeepsM b0 w W' :=
 ⟨hk.os.trans h.os,hk.tape.trans h.tape,hk.output.trans h.output,Nat.le_trans h.size hk.size,
  fun k hlt hf=>(hk.block k (Nat.lt_of_lt_of_le hlt h.size) (fun hg=>hf (by
   have:=hG k hg (Nat.lt_of_lt_of_le hlt h.size);unfold mkF at *
   rwa [h.ty k hlt] at this))).trans (h.block k hlt hf),
  fun k hlt=>(hk.ty k (Nat.lt_of_lt_of_le hlt h.size)).trans (h.ty k hlt)⟩
theorem KeepsM.trans {b0:Nat} {w W W':World} (h:KeepsM b0 w W) (k:KeepsM b0 W W'):KeepsM b0 w W':=h.step k (fun _ hk _=>hk)
theorem KeepsM.below {b0:Nat} {w W W':World} (h:KeepsM b0 w W) (hb:Below W.heap.size W W'):KeepsM b0 w W':=h.step (Keeps.of_below (F:=fun _=>False) hb) (fun _ hk _=>hk.elim)
structure MkC (w:World) (b0 mb:Nat) (lv tv pv:Value) (begun mark:Bool):Prop where
 ge:b0≤mb
 ty:tyOf w mb=some 137
 c0:w.cell? ⟨mb,0,none⟩=some lv
 c1:w.cell? ⟨mb,1,none⟩=some tv
 c2:w.cell? ⟨mb,2,none⟩=some pv
 c3:w.cell? ⟨mb,3,none⟩=some (.bool begun)
 c4:w.cell? ⟨mb,4,none⟩=some (.bool mark)
 f0:∀ j,w.frozen? ⟨mb,j,none⟩=false
theorem MkC.lt {w:World} {b0 mb:Nat} {lv tv pv:Value} {g k:Bool} (h:MkC w b0 mb lv tv pv g k):mb<w.heap.size:=zaf h.ty
theorem MkC.block {w w':World} {b0 mb:Nat} {lv tv pv:Value} {g k:Bool} (h:MkC w b0 mb lv tv pv g k) (hb:w'.heap[mb]?=w.heap[mb]?):MkC w' b0 mb lv tv pv g k :=
 ⟨h.ge,(zi hb).trans h.ty,(World.cell?_of_block (w:=w) hb).trans h.c0,(World.cell?_of_block (w:=w) hb).trans h.c1,(World.cell?_of_block (w:=w) hb).trans h.c2,(World.cell?_of_block (w:=w) hb).trans h.c3,(World.cell?_of_block (w:=w) hb).trans h.c4,
  fun j=>(World.frozen?_of_block (w:=w) hb).trans (h.f0 j)⟩
theorem MkC.below {w w':World} {b0 mb:Nat} {lv tv pv:Value} {g k:Bool} (h:MkC w b0 mb lv tv pv g k) (hb:Below w.heap.size w w'):MkC w' b0 mb lv tv pv g k:=h.block (hb.block mb h.lt)
theorem MkC.set0 {w:World} {b0 mb:Nat} {lv tv pv:Value} {g k:Bool} (h:MkC w b0 mb lv tv pv g k) (x:Value):MkC (w.setCell ⟨mb,0,none⟩ x) b0 mb x tv pv g k :=
 ⟨h.ge,(zac _ _ _ _).trans h.ty,World.cell?_setCell_same' _ _ _ (by rw [h.c0];rfl),(World.cell?_setCell_other _ _ _ _ (by simp)).trans h.c1,(World.cell?_setCell_other _ _ _ _ (by simp)).trans h.c2,(World.cell?_setCell_other _ _ _ _ (by simp)).trans h.c3,(World.cell?_setCell_other _ _ _ _ (by simp)).trans h.c4,fun j=>(World.frozen?_setCell _ _ _ _).trans (h.f0 j)⟩
theorem MkC.set1 {w:World} {b0 mb:Nat} {lv tv pv:Value} {g k:Bool} (h:MkC w b0 mb lv tv pv g k) (x:Value):MkC (w.setCell ⟨mb,1,none⟩ x) b0 mb lv x pv g k :=
 ⟨h.ge,(zac _ _ _ _).trans h.ty,(World.cell?_setCell_other _ _ _ _ (by simp)).trans h.c0,World.cell?_setCell_same' _ _ _ (by rw [h.c1];rfl),(World.cell?_setCell_other _ _ _ _ (by simp)).trans h.c2,(World.cell?_setCell_other _ _ _ _ (by simp)).trans h.c3,(World.cell?_setCell_other _ _ _ _ (by simp)).trans h.c4,fun j=>(World.frozen?_setCell _ _ _ _).trans (h.f0 j)⟩
theorem MkC.set2 {w:World} {b0 mb:Nat} {lv tv pv:Value} {g k:Bool} (h:MkC w b0 mb lv tv pv g k) (x:Value):MkC (w.setCell ⟨mb,2,none⟩ x) b0 mb lv tv x g k :=
 ⟨h.ge,(zac _ _ _ _).trans h.ty,(World.cell?_setCell_other _ _ _ _ (by simp)).trans h.c0,(World.cell?_setCell_other _ _ _ _ (by simp)).trans h.c1,World.cell?_setCell_same' _ _ _ (by rw [h.c2];rfl),(World.cell?_setCell_other _ _ _ _ (by simp)).trans h.c3,(World.cell?_setCell_other _ _ _ _ (by simp)).trans h.c4,fun j=>(World.frozen?_setCell _ _ _ _).trans (h.f0 j)⟩
theorem MkC.set3 {w:World} {b0 mb:Nat} {lv tv pv:Value} {g k:Bool} (h:MkC w b0 mb lv tv pv g k) (x:Bool):MkC (w.setCell ⟨mb,3,none⟩ (.bool x)) b0 mb lv tv pv x k :=
 ⟨h.ge,(zac _ _ _ _).trans h.ty,(World.cell?_setCell_other _ _ _ _ (by simp)).trans h.c0,(World.cell?_setCell_other _ _ _ _ (by simp)).trans h.c1,(World.cell?_setCell_other _ _ _ _ (by simp)).trans h.c2,World.cell?_setCell_same' _ _ _ (by rw [h.c3];rfl),(World.cell?_setCell_other _ _ _ _ (by simp)).trans h.c4,fun j=>(World.frozen?_setCell _ _ _ _).trans (h.f0 j)⟩
theorem MkC.set4 {w:World} {b0 mb:Nat} {lv tv pv:Value} {g k:Bool} (h:MkC w b0 mb lv tv pv g k) (x:Bool):MkC (w.setCell ⟨mb,4,none⟩ (.bool x)) b0 mb lv tv pv g x :=
 ⟨h.ge,(zac _ _ _ _).trans h.ty,(World.cell?_setCell_other _ _ _ _ (by simp)).trans h.c0,(World.cell?_setCell_other _ _ _ _ (by simp)).trans h.c1,(World.cell?_setCell_other _ _ _ _ (by simp)).trans h.c2,(World.cell?_setCell_other _ _ _ _ (by simp)).trans h.c3,World.cell?_setCell_same' _ _ _ (by rw [h.c4];rfl),fun j=>(World.frozen?_setCell _ _ _ _).trans (h.f0 j)⟩
theorem KeepsM.set {b0 mb:Nat} {w W:World} (h:KeepsM b0 w W) (hg:b0≤mb) (hty:tyOf W mb=some 137) (j:Nat) (x:Value):KeepsM b0 w (W.setCell ⟨mb,j,none⟩ x) :=
 h.step (Keeps.setCell (F:=fun k=>k=mb) W (a:=⟨mb,j,none⟩) rfl x) (fun k hk _=>by subst hk;exact ⟨hg,.inl hty⟩)
structure MkO (w:World) (b0:Nat) (lv tv pv:Value) (l:List Fd) (text pat:List UInt8):Prop where
 ol:Own w b0 2 lv l.length (l.flatMap Fd.cells)
 ot:Own w b0 1 tv text.length (text.flatMap byteC)
 op:Own w b0 1 pv pat.length (pat.flatMap byteC)
 tl:TyS w lv 95
 tt:TyS w tv 5
 tp:TyS w pv 5
 ds:∀ k,tv.ownBlock=some k→pv.ownBlock≠some k
theorem MkO.keeps {F:Nat→Prop} {w w':World} {b0:Nat} {lv tv pv:Value} {l:List Fd} {text pat:List UInt8} (h:MkO w b0 lv tv pv l text pat) (hk:Keeps F w w') (hF:∀ k,F k→tyOf w k≠some 95∧tyOf w k≠some 5):MkO w' b0 lv tv pv l text pat :=
 ⟨h.ol.keeps hk (fun k e _ hf=>(hF k hf).1 (h.tl k e)),h.ot.keeps hk (fun k e _ hf=>(hF k hf).2 (h.tt k e)),h.op.keeps hk (fun k e _ hf=>(hF k hf).2 (h.tp k e)),
  h.tl.keeps h.ol.lt hk,h.tt.keeps h.ot.lt hk,h.tp.keeps h.op.lt hk,h.ds⟩
theorem MkO.below {w w':World} {b0:Nat} {lv tv pv:Value} {l:List Fd} {text pat:List UInt8} (h:MkO w b0 lv tv pv l text pat) (hb:Below w.heap.size w w'):MkO w' b0 lv tv pv l text pat :=
 h.keeps (Keeps.of_below (F:=fun _=>False) hb) (fun _ hf=>hf.elim)
theorem MkO.set {w:World} {b0 mb:Nat} {lv tv pv:Value} {l:List Fd} {text pat:List UInt8} (h:MkO w b0 lv tv pv l text pat) (hty:tyOf w mb=some 137) (j:Nat) (x:Value):MkO (w.setCell ⟨mb,j,none⟩ x) b0 lv tv pv l text pat :=
 h.keeps (Keeps.setCell (F:=fun k=>k=mb) w (a:=⟨mb,j,none⟩) rfl x) (fun k hk=>by subst hk;rw [hty];exact ⟨by decide,by decide⟩)
theorem MkO.appT {w w':World} {b0:Nat} {lv tv pv v':Value} {l:List Fd} {text pat text':List UInt8} (h:MkO w b0 lv tv pv l text pat) (ho:Own w' b0 1 v' text'.length (text'.flatMap byteC)) (hk:Keeps (fun k=>tv.ownBlock=some k∧b0≤k) w w')
  (hat:v'.ownBlock=tv.ownBlock∨∀ k,v'.ownBlock=some k→w.heap.size≤k) (hty:∀ k,v'.ownBlock=some k→w.heap.size≤k→tyOf w' k=some 5):MkO w' b0 lv v' pv l text' pat :=
 ⟨h.ol.keeps hk (fun k e _ hf=>by have:=(h.tl k e).symm.trans (h.tt k hf.1);revert this;decide),ho,h.op.keeps hk (fun k e _ hf=>h.ds k hf.1 e),h.tl.keeps h.ol.lt hk,h.tt.append h.ot.lt hk hat hty,h.tp.keeps h.op.lt hk,fun k e1 e2=>by
  rcases hat with e|e
  ·exact h.ds k (e ▸ e1) e2
  ·have:=e k e1;have:=h.op.lt k e2;omega⟩
theorem MkO.appP {w w':World} {b0:Nat} {lv tv pv v':Value} {l:List Fd} {text pat pat':List UInt8} (h:MkO w b0 lv tv pv l text pat) (ho:Own w' b0 1 v' pat'.length (pat'.flatMap byteC)) (hk:Keeps (fun k=>pv.ownBlock=some k∧b0≤k) w w')
  (hat:v'.ownBlock=pv.ownBlock∨∀ k,v'.ownBlock=some k→w.heap.size≤k) (hty:∀ k,v'.ownBlock=some k→w.heap.size≤k→tyOf w' k=some 5):MkO w' b0 lv tv v' l text pat' :=
 ⟨h.ol.keeps hk (fun k e _ hf=>by have:=(h.tl k e).symm.trans (h.tp k hf.1);revert this;decide),h.ot.keeps hk (fun k e _ hf=>h.ds k e hf.1),ho,h.tl.keeps h.ol.lt hk,h.tt.keeps h.ot.lt hk,h.tp.append h.op.lt hk hat hty,fun k e1 e2=>by
  rcases hat with e|e
  ·exact h.ds k e1 (e ▸ e2)
  ·have:=e k e2;have:=h.ot.lt k e1;omega⟩
theorem MkO.appL {w w':World} {b0:Nat} {lv tv pv v':Value} {l l':List Fd} {text pat:List UInt8} (h:MkO w b0 lv tv pv l text pat) (ho:Own w' b0 2 v' l'.length (l'.flatMap Fd.cells)) (hk:Keeps (fun k=>lv.ownBlock=some k∧b0≤k) w w')
  (hat:v'.ownBlock=lv.ownBlock∨∀ k,v'.ownBlock=some k→w.heap.size≤k) (hty:∀ k,v'.ownBlock=some k→w.heap.size≤k→tyOf w' k=some 95):MkO w' b0 v' tv pv l' text pat :=
 ⟨ho,h.ot.keeps hk (fun k e _ hf=>by have:=(h.tt k e).symm.trans (h.tl k hf.1);revert this;decide),h.op.keeps hk (fun k e _ hf=>by have:=(h.tp k e).symm.trans (h.tl k hf.1);revert this;decide),h.tl.append h.ol.lt hk hat hty,h.tt.keeps h.ot.lt hk,h.tp.keeps h.op.lt hk,h.ds⟩
structure MkAt (w:World) (b0 mb:Nat) (lv tv pv:Value) (m:Mk):Prop where
 c:MkC w b0 mb lv tv pv m.begun m.mark
 o:MkO w b0 lv tv pv m.l m.text m.pat
theorem MkAt.below {w w':World} {b0 mb:Nat} {lv tv pv:Value} {m:Mk} (h:MkAt w b0 mb lv tv pv m) (hb:Below w.heap.size w w'):MkAt w' b0 mb lv tv pv m:=⟨h.c.below hb,h.o.below hb⟩
structure UBox (W:World) (ub:Nat) (u:Un):Prop where
 ty:tyOf W ub=some 142
 c0:W.cell? ⟨ub,0,none⟩=some (.int .u8 u.b.toNat)
 c1:W.cell? ⟨ub,1,none⟩=some (.bool u.none)
 c2:W.cell? ⟨ub,2,none⟩=some (.bool u.quoted)
 c3:W.cell? ⟨ub,3,none⟩=some (.bool u.parts)
theorem UBox.block {w w':World} {ub:Nat} {u:Un} (h:UBox w ub u) (hb:w'.heap[ub]?=w.heap[ub]?):UBox w' ub u :=
 ⟨(zi hb).trans h.ty,(World.cell?_of_block (w:=w) hb).trans h.c0,(World.cell?_of_block (w:=w) hb).trans h.c1,(World.cell?_of_block (w:=w) hb).trans h.c2,(World.cell?_of_block (w:=w) hb).trans h.c3⟩
theorem UBox.keepsM {w w':World} {ub b0:Nat} {u:Un} (h:UBox w ub u) (hk:KeepsM b0 w w'):UBox w' ub u :=
 h.block (hk.block ub (zaf h.ty) (fun hf=>by
  have:=hf.2;rw [h.ty] at this
  revert this
  decide))
theorem UBox.new (w:World) (u:Un):UBox (w.alloc (.cells #[.int .u8 u.b.toNat,.bool u.none,.bool u.quoted,.bool u.parts] 142)) w.heap.size u :=
 ⟨zaa _ _ _,by go_simp,by go_simp,by go_simp,by go_simp⟩
structure AddSt (w W:World) (b0 mb ub:Nat) (lv tv pv T P:Value) (u:Un) (m:Mk) (text pat:List UInt8):Prop where
 c:MkC W b0 mb lv tv pv m.begun m.mark
 o:MkO W b0 lv T P m.l text pat
 k:KeepsM b0 w W
 u:UBox W ub u
theorem AddSt.below {w W W':World} {b0 mb ub:Nat} {lv tv pv T P:Value} {u:Un} {m:Mk} {text pat:List UInt8} (h:AddSt w W b0 mb ub lv tv pv T P u m text pat) (hb:Below W.heap.size W W'):AddSt w W' b0 mb ub lv tv pv T P u m text pat :=
 ⟨h.c.below hb,h.o.below hb,h.k.below hb,h.u.block (hb.block ub (zaf h.u.ty))⟩
theorem AddSt.appT {w W W':World} {b0 mb ub:Nat} {lv tv pv T P v':Value} {u:Un} {m:Mk} {text pat text':List UInt8} (h:AddSt w W b0 mb ub lv tv pv T P u m text pat) (ho:Own W' b0 1 v' text'.length (text'.flatMap byteC)) (hk:Keeps (fun k=>T.ownBlock=some k∧b0≤k) W W')
  (hat:v'.ownBlock=T.ownBlock∨∀ k,v'.ownBlock=some k→W.heap.size≤k) (hty:∀ k,v'.ownBlock=some k→W.heap.size≤k→tyOf W' k=some 5):AddSt w W' b0 mb ub lv tv pv v' P u m text' pat :=
 ⟨h.c.block (hk.block mb h.c.lt (fun hf=>by have:=(h.o.tt mb hf.1).symm.trans h.c.ty;revert this;decide)),h.o.appT ho hk hat hty,h.k.step hk (fun k hf _=>⟨hf.2,.inr (.inl (h.o.tt k hf.1))⟩),
  h.u.block (hk.block ub (zaf h.u.ty) (fun hf=>by have:=(h.o.tt ub hf.1).symm.trans h.u.ty;revert this;decide))⟩
theorem AddSt.appP {w W W':World} {b0 mb ub:Nat} {lv tv pv T P v':Value} {u:Un} {m:Mk} {text pat pat':List UInt8} (h:AddSt w W b0 mb ub lv tv pv T P u m text pat) (ho:Own W' b0 1 v' pat'.length (pat'.flatMap byteC)) (hk:Keeps (fun k=>P.ownBlock=some k∧b0≤k) W W')
  (hat:v'.ownBlock=P.ownBlock∨∀ k,v'.ownBlock=some k→W.heap.size≤k) (hty:∀ k,v'.ownBlock=some k→W.heap.size≤k→tyOf W' k=some 5):AddSt w W' b0 mb ub lv tv pv T v' u m text pat' :=
 ⟨h.c.block (hk.block mb h.c.lt (fun hf=>by have:=(h.o.tp mb hf.1).symm.trans h.c.ty;revert this;decide)),h.o.appP ho hk hat hty,h.k.step hk (fun k hf _=>⟨hf.2,.inr (.inl (h.o.tp k hf.1))⟩),
  h.u.block (hk.block ub (zaf h.u.ty) (fun hf=>by have:=(h.o.tp ub hf.1).symm.trans h.u.ty;revert this;decide))⟩
end Go.Proofs.YtfmecpnokefokaaGreatDoor
