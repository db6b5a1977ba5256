/-
  Names in order (layer 19): the order of texts, rows of entries that rise, where a name stands. No program in sight.
-/
import Derived.Test.YtfmecpnokefokaaGreatDoorPat18
import Derived.Test.YtfmecpnokefokaaGreatDoorKeyed2
import Derived.Test.YtfmecpnokefokaaGreatDoorPcGood
import Derived.Test.YtfmecpnokefokaaGreatDoorPcPlain
import Derived.Lib.ItoaNum
import Derived.Lib.Bytealg
set_option linter.unusedSimpArgs false
set_option linter.unusedVariables false
namespace Go.Proofs.YtfmecpnokefokaaGreatDoor.Pat
open Go.ChangeShapes Go.WideShapes Go.Deep Go.RowKit
set_option maxRecDepth 100000
theorem _root_.Go.Proofs.YtfmecpnokefokaaGreatDoor.j7zb {p:Prop} (h:p):Go.RowKit.Hid p:=Go.Lib.hid h
structure BRow (w:World) (b n:Nat) (f:Nat→Bool):Prop where
 lt:b<w.heap.size
 c:∀ k,k<n→w.cell? ⟨b,k,none⟩=some (.bool (f k))
 fr:∀ k,w.frozen? ⟨b,k,none⟩=false
theorem BRow.below {w W:World} {b n:Nat} {f:Nat→Bool} (h:BRow w b n f) (hb:Below w.heap.size w W):BRow W b n f :=
 ⟨Nat.lt_of_lt_of_le h.lt hb.size,fun k hk=>(hb.cell (p:=⟨b,k,none⟩) h.lt).trans (h.c k hk),fun k=>(hb.frozen (p:=⟨b,k,none⟩) h.lt).trans (h.fr k)⟩
theorem BRow.keeps {F:Nat→Prop} {w W:World} {b n:Nat} {f:Nat→Bool} (h:BRow w b n f) (hk:Keeps F w W) (hF:¬ F b):BRow W b n f:=by
 have e:=hk.block b h.lt hF;exact ⟨Nat.lt_of_lt_of_le h.lt hk.size,fun k hk=>(World.cell?_of_block (w:=w) e).trans (h.c k hk),fun k=>(World.frozen?_of_block (w:=w) e).trans (h.fr k)⟩
def row0 (n:Nat):Obj:=.cells (madeCells (Value.bool false).cells n) 4
theorem zru:(Tryz.prog.info? 4).map (fun i=>(i.zero,i.size,i.bytes))=some (some (.bool false),1,1):=by kernel_rfl
theorem run_row0 (n:Nat) (hn:n≤1099511627776) (w:World):(Instr.makeSlice 192 (.int .i64 ((n:Int)+1)) (.int .i64 ((n:Int)+1))).run Tryz.prog w = .ok (.slice (some ⟨w.heap.size,0,none⟩) (n+1) (n+1)) (w.alloc (row0 (n+1))):=by
 obtain ⟨i0,hi0,hz0,hz1,hz2⟩:=info_parts zru;have:=run_make (P:=Tryz.prog) w 192 4 i0 (.bool false) Tryz.underlying192 hi0 hz0 .i64 .i64 ((n:Int)+1) ((n:Int)+1) (by omega) (by omega) (by rw [hz2];omega) (by omega);rw [this,hz1,show ((n:Int)+1).toNat=n+1 by omega,Nat.mul_one];rfl
theorem BRow.new (W:World) (n:Nat):BRow (W.alloc (row0 n)) W.heap.size n (fun _=>false):=by
 refine ⟨by simp,fun k hk=>?_,fun k=>by unfold row0;simp [go_sem]⟩;have hh:=heap_alloc_new W (row0 n);unfold World.cell?;simp only [hh];simp [row0,madeCells,hk,Value.cells,Nat.mod_one]
theorem BRow.set {w:World} {b n k:Nat} {f g:Nat→Bool} {x:Bool} (h:BRow w b n f) (hx:g k=x) (ho:∀ j,j≠k→j<n→g j=f j) (hk:k<n):BRow (w.setCell ⟨b,k,none⟩ (.bool x)) b n g:=by
 refine ⟨by simpa [World.setCell] using h.lt,fun j hj=>?_,fun j=>by simp only [World.frozen?_setCell];exact h.fr j⟩;by_cases e:j=k
 ·subst e
  rw [World.cell?_setCell_same' _ _ _ (by rw [h.c _ hj];rfl),hx]
 ·rw [World.cell?_setCell_other _ _ _ _ (by first|(simp;done)|(simp;exact fun h=>e h.symm)),h.c j hj,ho j e hj]
set_option maxHeartbeats 6400000 in
theorem zdt (l:List At) (s:List UInt8) (v:Value) (w:World) (hv:Sl w atC 6 v l) (hl:l.length≤1073741824) (hs:s.length≤1073741824) :
  Calls Tryz.prog 104 #[v,.string (B s)] w fun e w'=>e = .returned (.bool (gm l s))∧Below w.heap.size w w':=by
 obtain ⟨A,c,rfl,hc1,hc2,hn,hA⟩:=hv;have HA:=j7zb hA;clear hA hn;have hmk:=run_row0 s.length (by omega);have hr0:∀ w:World,(w.alloc (row0 (s.length+1))).cell? ⟨w.heap.size,0,none⟩=some (.bool false):=fun w=>(BRow.new w (s.length+1)).c 0 (by omega);have hrf:∀ (w:World),(w.alloc (row0 (s.length+1))).frozen? ⟨w.heap.size,0,none⟩=false:=fun w=>(BRow.new w (s.length+1)).fr 0;go_enter Tryz.func104,Tryz.ntmps104;go_wp2
 have HX0:Hid (BRow ((w.alloc (row0 (s.length+1))).setCell ⟨w.heap.size,0,none⟩ (.bool true)) w.heap.size (s.length+1) (fun k=>gm (l.take 0) (s.take k))) :=
  (BRow.new w (s.length+1)).set (by simp [gm_nil]) (fun j hj hjn=>by rw [List.take_zero,gm_nil];cases j with|zero=>exact absurd rfl hj|succ j=>cases s with|nil=>simp at hjn|cons c s=>rfl) (by omega)
 go_loopw [5,6] (fun s5 i w'=>∃ (xb k:Nat),s5 = .slice (some ⟨xb,0,none⟩) (s.length+1) (s.length+1)∧i = .int .i64 k∧k≤l.length∧w.heap.size≤xb∧Hid (BRow w' xb (s.length+1) (fun j=>gm (l.take k) (s.take j)))∧Below w.heap.size w w') (fun _ i _=>l.length - (intOf i).toNat)
 case atStart=>exact ⟨w.heap.size,0,rfl,rfl,by omega,by omega,HX0.out,zzr⟩
 case round =>
  clear HX0 hr0 hrf;obtain ⟨xb,i,rfl,rfl,hi,hxb,HX,hb⟩:=hrel;by_cases hil:i<l.length;rotate_left
  ·have hi2:i=l.length:=by omega
   have hx:=HX.out;rw [hi2,List.take_length] at hx;have hc:=hx.c s.length (by omega);rw [List.take_length] at hc
   haveI:Old wr xb:=⟨hx.lt⟩
   have d0:=no hil;clear hi2 hx hil;go_wp2;go_ret;exact ⟨rfl,hb⟩
  obtain ⟨g,off,rfl,hg,hcell⟩:=HA.out (by omega);have e0:=fun W (hW:Below w.heap.size w W) j u hu=>(hW.cell (p:=⟨g,off+i*6+j,none⟩) hg).trans (hcell i _ (List.getElem?_eq_getElem hil) j u hu);have HE:=j7zb e0;have HTK:=j7zb (show l.take (i+1)=l.take i++[l[i]] by rw [List.take_succ_eq_append_getElem hil]);have i0:(0:Int)≤(i:Int):=by omega
  have i1:(i:Int)<(l.length:Int):=by omega
  have hk3:=kind3 l[i];have HT:=j7zb fun b w=>zq1 l[i] b w;unfold atV at HT;clear e0 hcell;generalize l[i]=a at *;go_wp2;have hbs:=hb.size;have HY0:=j7zb (BRow.new wr (s.length+1));have HX1:=j7zb (HX.out.below (za (Below.refl _ _) (row0 (s.length+1))));have hb1:=za hb (row0 (s.length+1));have HXY:Hid (xb≠wr.heap.size):=by have:=HX.out.lt;show _≠_;omega
  have hyb:w.heap.size≤wr.heap.size:=hbs;generalize wr.alloc (row0 (s.length+1))=wq at *;generalize wr.heap.size=yb at *
  obtain ⟨wo,rfl⟩:∃ wo:World,wo=wr:=⟨_,rfl⟩
  go_loopw [8] (fun j w'=>∃ k:Nat,j = .int .i64 k∧k≤s.length+1∧Hid (BRow w' xb (s.length+1) (fun j=>gm (l.take i) (s.take j)))∧Hid (BRow w' yb (s.length+1) (fun j=>decide (j<k) && gm (l.take (i+1)) (s.take j)))∧Below w.heap.size w w') (fun j _=>s.length+1 - (intOf j).toNat)
  case atStart=>exact ⟨0,rfl,by omega,HX1.out,by show BRow _ _ _ _;simpa using HY0.out,hb1⟩
  case round =>
   clear HX1 HY0 hb1;obtain ⟨k,rfl,hk,HXK,HYK,hbk⟩:=hrel;by_cases hkl:k≤s.length;rotate_left
   ·have hk2:k=s.length+1:=by omega
    have HY2:Hid (BRow wr yb (s.length+1) (fun j=>gm (l.take (i+1)) (s.take j))):=by
     have h:=HYK.out;exact ⟨h.lt,fun j hj=>by have:=h.c j hj;rwa [decide_eq_true (show j<k by omega),Bool.true_and] at this,h.fr⟩
    have d0:=no hkl;clear hk2 hkl;go_wp2;go_roundw
    case rel=>exact ⟨yb,i+1,rfl,by go_num,by omega,by omega,HY2.out,hbk⟩
    case measure=>simp [intOf];omega
   have f:=HE.out wr hbk;have f0:=f 0 _ rfl;have f1:=f 1 _ rfl;have f2:=f 2 _ rfl;have f3:=f 3 _ rfl;have f4:=f 4 _ rfl;have f5:=f 5 _ rfl;simp only [Nat.add_zero] at f0;have cx:=HXK.out.c k (by omega);have cyf:=HYK.out.fr;have cyk:=HYK.out.c k (by omega);rw [decide_eq_false (Nat.lt_irrefl k),Bool.false_and] at cyk
   haveI:Old wr xb:=⟨HXK.out.lt⟩
   haveI:Old wr yb:=⟨HYK.out.lt⟩
   haveI:Old wr g:=⟨Nat.lt_of_lt_of_le hg hbk.size⟩
   have k0:(0:Int)≤(k:Int):=by omega
   have k1:(k:Int)<(s.length:Int)+1:=by omega
   have kl:(k:Int)≤(s.length:Int):=by omega
   have HK1:Hid (∀ x:Bool,x=gm (l.take (i+1)) (s.take k)→BRow (wr.setCell ⟨yb,k,none⟩ (.bool x)) yb (s.length+1) (fun j=>decide (j<k+1) && gm (l.take (i+1)) (s.take j))):=fun x hx =>
    HYK.out.set (by rw [hx,decide_eq_true (Nat.lt_succ_self k),Bool.true_and]) (fun j hj _=>by
     by_cases h1:j<k
     ·rw [decide_eq_true h1,decide_eq_true (show j<k+1 by omega)]
     ·rw [decide_eq_false h1,decide_eq_false (show ¬ j<k+1 by omega)]) (by omega)
   clear f
   cases hmany:a.isMany with
   | true =>
    rw [hmany] at hk3
    obtain rfl:a = .many:=by cases a <;> simp [At.isMany] at hmany;rfl
    clear hmany
    cases k with
    | zero =>
     have HG:=j7zb (zkd (l.take i) s);cases hX:gm (l.take i) (s.take 0)
     all_goals
      rw [hX] at cx HG;clear hX;go_wp2;go_roundw
      case rel=>exact ⟨0+1,by go_num,by omega,HXK.out.keeps (Keeps.setCell (F:=fun k=>k=yb) wr (a:=⟨yb,0,none⟩) rfl _) HXY.out,HK1.out _ (by rw [HTK.out,HG.out]),zm hbk hyb _⟩
      case measure=>simp [intOf]
    | succ m =>
     have HG:=j7zb (zlp (l.take i) s m);have cym:=HYK.out.c m (by omega);rw [decide_eq_true (show m<m+1 by omega),Bool.true_and] at cym;rw [← HTK.out] at HG;have m0:(0:Int)≤(m:Int):=by omega
     have m1:(m:Int)<(s.length:Int)+1:=by omega
     cases hX:gm (l.take i) (s.take (m+1))
     all_goals
      cases hY:gm (l.take (i+1)) (s.take m)
      all_goals
       rw [hX] at cx HG;rw [hY] at cym HG;clear hX hY;go_wp2;go_roundw
       case rel=>exact ⟨m+1+1,by go_num,by omega,HXK.out.keeps (Keeps.setCell (F:=fun k=>k=yb) wr (a:=⟨yb,m+1,none⟩) rfl _) HXY.out,HK1.out _ (by rw [HG.out];rfl),zm hbk hyb _⟩
       case measure=>simp [intOf];omega
   | false =>
    rw [hmany] at hk3
    cases k with
    | zero =>
     have HG:=j7zb (gm_snoc0 (l.take i) s hmany);rw [← HTK.out] at HG
     have HZ:Hid (BRow wr yb (s.length+1) (fun j=>decide (j<0+1) && gm (l.take (i+1)) (s.take j))):=by
      have h:=HYK.out;refine ⟨h.lt,fun j hj=>?_,h.fr⟩;by_cases h1:j<0+1
      ·obtain rfl:j=0:=by omega
       rw [HG.out];simpa using cyk
      ·have:=h.c j hj
       rw [decide_eq_false (show ¬ j<0 by omega)] at this;rw [decide_eq_false h1];exact this
     clear hmany;go_wp2;go_roundw
     case rel=>exact ⟨0+1,by go_num,by omega,HXK.out,HZ.out,hbk⟩
     case measure=>simp [intOf]
    | succ m =>
     have hms:m<s.length:=by omega
     have HG:=j7zb (gm_snoc (l.take i) s m hms hmany);rw [← HTK.out] at HG;have cxm:=HXK.out.c m (by omega);have m0:(0:Int)≤(m:Int):=by omega
     have m1:(m:Int)<(s.length:Int)+1:=by omega
     have m2:(m:Int)<(s.length:Int):=by omega
     have m3:IntKind.i64.wrap ((m:Int)+1 - 1)=(m:Int):=by rw [IntWalk.i64_in _ (by omega)];omega
     have m4:(m:Int)+1 - 1=(m:Int):=by omega
     have HTB:=j7zb (HT.out s[m]);clear hmany
     cases hX:gm (l.take i) (s.take m) with
     | true =>
      cases hT:takes a s[m] with
      | true =>
       rw [hX] at cxm HG;rw [hT] at HTB HG;clear hX hT;go_wp2
       (refine zg 19 (by kernel_rfl) (by kernel_rfl) ?_;simp only [List.take_succ_cons,List.take_zero,List.drop_succ_cons,List.drop_zero];(repeat (go_big_quiet_step ((go_at_call 134;exact zbp (HTB.out _)))));refine wpQuiet_nil ?_;intro _ hw';obtain ⟨gq,hw''⟩:=hw';subst hw'')
       go_wp2;have HXG:=j7zb ((HXK.out.keeps (Keeps.setCell (F:=fun k=>k=yb) wr (a:=⟨yb,m+1,none⟩) rfl (.bool true)) HXY.out).below (zh _ (growSet gq ⟨yb,m+1,none⟩ (.bool true))));have HK2:=j7zb ((HK1.out true (by rw [HG.out];rfl)).below (zh _ (growSet gq ⟨yb,m+1,none⟩ (.bool true))));have hbg:=zb (zm hbk hyb (a:=⟨yb,m+1,none⟩) (.bool true)) (zh _ (growSet gq ⟨yb,m+1,none⟩ (.bool true)));go_roundw
       case rel=>exact ⟨m+1+1,by go_num,by omega,HXG.out,HK2.out,hbg⟩
       case measure=>simp [intOf];omega
      | false =>
       rw [hX] at cxm HG;rw [hT] at HTB HG;clear hX hT;go_wp2
       (refine zg 19 (by kernel_rfl) (by kernel_rfl) ?_;simp only [List.take_succ_cons,List.take_zero,List.drop_succ_cons,List.drop_zero];(repeat (go_big_quiet_step ((go_at_call 134;exact zbp (HTB.out _)))));refine wpQuiet_nil ?_;intro _ hw';obtain ⟨gq,hw''⟩:=hw';subst hw'')
       go_wp2;have HXG:=j7zb ((HXK.out.keeps (Keeps.setCell (F:=fun k=>k=yb) wr (a:=⟨yb,m+1,none⟩) rfl (.bool false)) HXY.out).below (zh _ (growSet gq ⟨yb,m+1,none⟩ (.bool false))));have HK2:=j7zb ((HK1.out false (by rw [HG.out];rfl)).below (zh _ (growSet gq ⟨yb,m+1,none⟩ (.bool false))));have hbg:=zb (zm hbk hyb (a:=⟨yb,m+1,none⟩) (.bool false)) (zh _ (growSet gq ⟨yb,m+1,none⟩ (.bool false)));go_roundw
       case rel=>exact ⟨m+1+1,by go_num,by omega,HXG.out,HK2.out,hbg⟩
       case measure=>simp [intOf];omega
     | false =>
      rw [hX] at cxm HG;clear hX;go_wp2
      (refine zg 19 (by kernel_rfl) (by kernel_rfl) ?_;simp only [List.take_succ_cons,List.take_zero,List.drop_succ_cons,List.drop_zero];(repeat (go_big_quiet_step (fail)));refine wpQuiet_nil ?_;intro _ hw';obtain ⟨gq,hw''⟩:=hw';subst hw'')
      go_wp2;have HXG:=j7zb ((HXK.out.keeps (Keeps.setCell (F:=fun k=>k=yb) wr (a:=⟨yb,m+1,none⟩) rfl (.bool false)) HXY.out).below (zh _ (growSet gq ⟨yb,m+1,none⟩ (.bool false))));have HK2:=j7zb ((HK1.out false (by rw [HG.out];rfl)).below (zh _ (growSet gq ⟨yb,m+1,none⟩ (.bool false))));have hbg:=zb (zm hbk hyb (a:=⟨yb,m+1,none⟩) (.bool false)) (zh _ (growSet gq ⟨yb,m+1,none⟩ (.bool false)));go_roundw
      case rel=>exact ⟨m+1+1,by go_num,by omega,HXG.out,HK2.out,hbg⟩
      case measure=>simp [intOf];omega
def evs (f:Nat→Bool):Nat→List Int
 | 0=>[]
 | k+1=>if f k=true then evs f k++[(k:Int)] else evs f k
theorem zcb {f:Nat→Bool} {k:Nat} (h:f k=true):evs f (k+1)=evs f k++[(k:Int)]:=by conv=>lhs;unfold evs;rw [if_pos h]
theorem evs_no {f:Nat→Bool} {k:Nat} (h:f k=false):evs f (k+1)=evs f k:=by conv=>lhs;unfold evs;rw [if_neg (by rw [h];simp)]
theorem ziy (f:Nat→Bool):∀ k,(evs f k).length≤k
 | 0=>by simp [evs]
 | k+1=>by
  have:=ziy f k;unfold evs
  split <;> simp <;> omega
theorem znw (f:Nat→Bool) (k:Nat):∀ n,evs f k <+: evs f (k+n)
 | 0=>List.prefix_refl _
 | n+1=>by
  have:=znw f k n;rw [← Nat.add_assoc]
  conv=>rhs;unfold evs
  split
  ·exact this.trans (List.prefix_append _ _)
  ·exact this
theorem evs_at {f:Nat→Bool} {k n:Nat} (h:f k=true) (hk:k<n):(evs f n)[(evs f k).length]?=some (k:Int):=by
 obtain ⟨t,ht⟩:=znw f (k+1) (n - (k+1));rw [show k+1+(n - (k+1))=n by omega,zcb h] at ht;rw [← ht];simp
def EvP (f:Nat→Bool) (n:Nat) (w:World) (e:Ending) (w':World):Prop:=∃ v,e = .returned v∧Own w' w.heap.size 1 v (evs f n).length ((evs f n).flatMap numC)∧Below w.heap.size w w'
set_option maxHeartbeats 1600000 in
theorem zrv (p s:List UInt8) (w:World) (hm:MaxL w) (hp:p.length≤1073741824) (hs:s.length≤1073741824) :
  Calls Tryz.prog 153 #[.string (B p),.string (B s)] w (EvP (fun n=>gm (parse p) (s.take n)) (s.length+1) w):=by
 obtain ⟨i1,hi1,hz10,hz11,hz12⟩:=info_parts zgx;have HP:=j7zb (zjk p w hm hp);have hpl:=zbe p;have HMT:=j7zb fun n v w hv=>zji (parse p) (s.take n) v w hv (by omega) (by simp;omega);clear hm;go_enter Tryz.func153,Tryz.ntmps153
 go_wp2_with (go_at_call 172;refine HP.out.mono ?_;rintro e w1 ⟨vl,rfl,hv,hb⟩;have HV:=j7zb hv;have HV1:=j7zb hv;obtain ⟨g,rfl⟩:=zl hb;have hw1:=hb.size;clear hv hb)
 have HB0:=j7zb (zt (Below.refl _ w) g);generalize grow w g=W1 at *
 go_loopw [4,6] (fun s4 i w'=>∃ (v:Value) (k:Nat),v=s4∧i = .int .i64 k∧k≤s.length+1∧Hid (Own w' W1.heap.size 1 v (evs (fun n=>gm (parse p) (s.take n)) k).length ((evs (fun n=>gm (parse p) (s.take n)) k).flatMap numC))∧Hid (Sl w' atC 6 vl (parse p))∧Hid (Below W1.heap.size W1 w')) (fun _ i _=>s.length+1 - (intOf i).toNat)
 case atStart=>exact ⟨_,0,rfl,rfl,by omega,Own.nil _ _ _,HV.out,Below.refl _ _⟩
 case round =>
  clear HV;obtain ⟨v,k,rfl,rfl,hk,HO,HV,HB⟩:=hrel;have hbs:=HB.out.size;by_cases hkl:k≤s.length;rotate_left
  ·have hk2:k=s.length+1:=by omega
   have ho:=HO.out;rw [hk2] at ho;have HO2:=j7zb ho;have d0:=no hkl;clear ho hk2 hkl;go_wp2;go_ret;exact ⟨_,rfl,HO2.out.mono hw1,zb HB0.out HB.out⟩
  have k0:(0:Int)≤(k:Int):=by omega
  have k1:(k:Int)≤(s.length:Int):=by omega
  have hel:=ziy (fun n=>gm (parse p) (s.take n)) k;have HMK:=j7zb (HMT.out k vl wr HV.out)
  cases hx:gm (parse p) (s.take k) with
  | true =>
   have HE:=j7zb (zcb (f:=fun n=>gm (parse p) (s.take n)) (k:=k) hx);rw [hx] at HMK;clear hx
   go_wp2_with (first|(go_at_call 173;refine HMK.out.mono ?_;rintro e w2 ⟨rfl,hb⟩;have hgs:=hb.size;have HB2:=j7zb hb;have HV2:=j7zb (HV.out.below hb);have HOa:=j7zb (HO.out.below hb);clear hb)|((at_builtin;refine zf _ rfl (.tmp 20) (.tmp 22) _ rfl W1.heap.size 3 i1 _ 1 8 Tryz.underlying112 hi1 hz10 hz11 hz12 rfl (by decide) _ (evs (fun n=>gm (parse p) (s.take n)) k).length ((evs (fun n=>gm (parse p) (s.take n)) k).flatMap numC) rfl (HOa.out.below (zzb)) _ 1 (numC (k:Int)) rfl rfl (Src.one _ _ _ _) (by simp [numC,Value.oneCell']) (by unfold maxLen;omega) (by omega) (by first|(simp;done)|omega|(simp;omega)) ?_;intro v1 w1 hown1 hg1 hat1 hty1;have HTY1:=j7zb hty1;clear hty1);have HW:=j7zb (And.intro hown1 hg1);clear hown1 hg1 hat1))
   go_roundw
   case rel =>
    have hb3:=ze (zb HB.out (zb HB2.out (za (Below.refl _ _) _))) HW.out.2 (fun k hk=>hk.2);refine ⟨v1,k+1,rfl,by go_num,by omega,?_,?_,hb3⟩
    ·have:=HW.out.1
     show Own _ _ _ _ _ _
     rw [HE.out]
     simpa using this
    ·show Sl _ _ _ _ _
     exact HV1.out.old (HV2.out.below (za (Below.refl _ _) _)) HW.out.2 (fun k hk=>hk.2)
   case measure=>simp [intOf];omega
  | false =>
   have HE:=j7zb (evs_no (f:=fun n=>gm (parse p) (s.take n)) (k:=k) hx);rw [hx] at HMK;clear hx
   go_wp2_with (go_at_call 173;refine HMK.out.mono ?_;rintro e w2 ⟨rfl,hb⟩;have HB2:=j7zb hb;have HV2:=j7zb (HV.out.below hb);have HOa:=j7zb (HO.out.below hb);clear hb)
   go_roundw
   case rel=>exact ⟨_,k+1,rfl,by go_num,by omega,by show Own _ _ _ _ _ _;rw [HE.out];exact HOa.out,HV2.out,zb HB.out HB2.out⟩
   case measure=>simp [intOf];omega
set_option maxHeartbeats 1600000 in
theorem zrw (p s:List UInt8) (w:World) (hm:MaxL w) (hp:p.length≤1073741824) (hs:s.length≤1073741824) :
  Calls Tryz.prog 152 #[.string (B p),.string (B s)] w (EvP (fun n=>gm (parse p) (s.drop n)) (s.length+1) w):=by
 obtain ⟨i1,hi1,hz10,hz11,hz12⟩:=info_parts zgx;have HP:=j7zb (zjk p w hm hp);have hpl:=zbe p;have HMT:=j7zb fun n v w hv=>zji (parse p) (s.drop n) v w hv (by omega) (by simp;omega);clear hm;go_enter Tryz.func152,Tryz.ntmps152
 go_wp2_with (go_at_call 172;refine HP.out.mono ?_;rintro e w1 ⟨vl,rfl,hv,hb⟩;have HV:=j7zb hv;have HV1:=j7zb hv;obtain ⟨g,rfl⟩:=zl hb;have hw1:=hb.size;clear hv hb)
 have HB0:=j7zb (zt (Below.refl _ w) g);generalize grow w g=W1 at *
 go_loopw [4,6] (fun s4 i w'=>∃ (v:Value) (k:Nat),v=s4∧i = .int .i64 k∧k≤s.length+1∧Hid (Own w' W1.heap.size 1 v (evs (fun n=>gm (parse p) (s.drop n)) k).length ((evs (fun n=>gm (parse p) (s.drop n)) k).flatMap numC))∧Hid (Sl w' atC 6 vl (parse p))∧Hid (Below W1.heap.size W1 w')) (fun _ i _=>s.length+1 - (intOf i).toNat)
 case atStart=>exact ⟨_,0,rfl,rfl,by omega,Own.nil _ _ _,HV.out,Below.refl _ _⟩
 case round =>
  clear HV;obtain ⟨v,k,rfl,rfl,hk,HO,HV,HB⟩:=hrel;have hbs:=HB.out.size;by_cases hkl:k≤s.length;rotate_left
  ·have hk2:k=s.length+1:=by omega
   have ho:=HO.out;rw [hk2] at ho;have HO2:=j7zb ho;have d0:=no hkl;clear ho hk2 hkl;go_wp2;go_ret;exact ⟨_,rfl,HO2.out.mono hw1,zb HB0.out HB.out⟩
  have k0:(0:Int)≤(k:Int):=by omega
  have k1:(k:Int)≤(s.length:Int):=by omega
  have hel:=ziy (fun n=>gm (parse p) (s.drop n)) k;have HMK:=j7zb (HMT.out k vl wr HV.out)
  cases hx:gm (parse p) (s.drop k) with
  | true =>
   have HE:=j7zb (zcb (f:=fun n=>gm (parse p) (s.drop n)) (k:=k) hx);rw [hx] at HMK;clear hx
   go_wp2_with (first|(go_at_call 173;refine HMK.out.mono ?_;rintro e w2 ⟨rfl,hb⟩;have hgs:=hb.size;have HB2:=j7zb hb;have HV2:=j7zb (HV.out.below hb);have HOa:=j7zb (HO.out.below hb);clear hb)|((at_builtin;refine zf _ rfl (.tmp 20) (.tmp 22) _ rfl W1.heap.size 3 i1 _ 1 8 Tryz.underlying112 hi1 hz10 hz11 hz12 rfl (by decide) _ (evs (fun n=>gm (parse p) (s.drop n)) k).length ((evs (fun n=>gm (parse p) (s.drop n)) k).flatMap numC) rfl (HOa.out.below (zzb)) _ 1 (numC (k:Int)) rfl rfl (Src.one _ _ _ _) (by simp [numC,Value.oneCell']) (by unfold maxLen;omega) (by omega) (by first|(simp;done)|omega|(simp;omega)) ?_;intro v1 w1 hown1 hg1 hat1 hty1;have HTY1:=j7zb hty1;clear hty1);have HW:=j7zb (And.intro hown1 hg1);clear hown1 hg1 hat1))
   go_roundw
   case rel =>
    have hb3:=ze (zb HB.out (zb HB2.out (za (Below.refl _ _) _))) HW.out.2 (fun k hk=>hk.2);refine ⟨v1,k+1,rfl,by go_num,by omega,?_,?_,hb3⟩
    ·have:=HW.out.1
     show Own _ _ _ _ _ _
     rw [HE.out]
     simpa using this
    ·show Sl _ _ _ _ _
     exact HV1.out.old (HV2.out.below (za (Below.refl _ _) _)) HW.out.2 (fun k hk=>hk.2)
   case measure=>simp [intOf];omega
  | false =>
   have HE:=j7zb (evs_no (f:=fun n=>gm (parse p) (s.drop n)) (k:=k) hx);rw [hx] at HMK;clear hx
   go_wp2_with (go_at_call 173;refine HMK.out.mono ?_;rintro e w2 ⟨rfl,hb⟩;have HB2:=j7zb hb;have HV2:=j7zb (HV.out.below hb);have HOa:=j7zb (HO.out.below hb);clear hb)
   go_roundw
   case rel=>exact ⟨_,k+1,rfl,by go_num,by omega,by show Own _ _ _ _ _ _;rw [HE.out];exact HOa.out,HV2.out,zb HB.out HB2.out⟩
   case measure=>simp [intOf];omega
end Go.Proofs.YtfmecpnokefokaaGreatDoor.Pat
namespace Go.Proofs.YtfmecpnokefokaaGreatDoor.Ex
open Cls Md Mc Pa Li Pat
abbrev Look:=List UInt8→Option (List UInt8)
def opG:List UInt8→List UInt8
 | []=>[]
 | c :: r=>if c=58 then (match r with
   | d :: _=>if d=45∨d=43∨d=61∨d=63 then [58,d] else []
   | []=>[])
  else if (c=37∨c=35)∧r.head?=some c then [c,c]
  else if c=45∨c=43∨c=61∨c=63∨c=37∨c=35 then [c] else []
def cutG (v op p:List UInt8):List UInt8 :=
 if op=[37]∨op=[37,37] then
  let l:=evs (fun n=>gm (parse p) (v.drop n)) (v.length+1)
  if l=[] then v else v.take ((if op=[37,37] then l.headD 0 else l.getLastD 0)).toNat
 else
  let l:=evs (fun n=>gm (parse p) (v.take n)) (v.length+1)
  if l=[] then v else v.drop ((if op=[35,35] then l.getLastD 0 else l.headD 0)).toNat
def chooseG (v:List UInt8) (has:Bool) (op:List UInt8):List UInt8×Bool :=
 if (op.getLast? == some 43)=(if op.head?=some 58 then has && v != [] else has) then ([],true)
 else if (op.getLast? == some 43)=true then ([],false) else (v,false)
abbrev Res:=List UInt8×Int
def braG (T P:List UInt8→Res) (g:Look) (s:List UInt8) (q:Bool):Res :=
 if s.head?=some 35∧0<paramN s 1∧1+paramN s 1=s.length then (Lib.decDigits ((g (s.drop 1)).getD []).length,0)
 else if paramN s 0=0 then ([],4)
 else
  let n:=paramN s 0
  let v:=(g (s.take n)).getD []
  let op:=opG (s.drop n)
  let w0:=s.drop (n+op.length)
  let w:=if q=true then 34 :: (w0++[34]) else w0
  if op=[] then (if n<s.length then ([],4) else (v,0))
  else if op=[58,61]∨op=[61]∨op=[58,63]∨op=[63] then ([],8)
  else if op=[58,45]∨op=[45]∨op=[58,43]∨op=[43] then
   (if (chooseG v (g (s.take n)).isSome op).2=true then T w else ((chooseG v (g (s.take n)).isSome op).1,0))
  else if (P w).2≠0 then ([],(P w).2) else (cutG v op (P w).1,0)
def openG (p:Pc):Bool:=if p.qu=true then closL (run (34 :: p.tx)).l != [34] else closL (run p.tx).l != []
def oneG (T P:List UInt8→Res) (g:Look) (p:Pc):Res :=
 if openG p=true then ([],9)
 else if p.tx.take 2=[36,123] then braG T P g ((p.tx.take (p.tx.length - 1)).drop 2) p.qu
 else if p.tx.take 2=[36,40]∨p.tx.head?=some 96 then ([],8)
 else ((g (p.tx.drop 1)).getD [],0)
def stepE (one:Pc→Res) (p:Pc):Res:=if p.ex=true then one p else (p.tx,0)
def errE (n:Nat) (r:Res):Int:=if r.2=0∧1048576<n+r.1.length then 2 else r.2
def tellE (one:Pc→Res):Nat→List Pc→List (Pc×Int)
 | _,[]=>[]
 | n,p :: r=>(⟨p.ex,p.qu,(stepE one p).1⟩,errE n (stepE one p)) :: tellE one (n+(stepE one p).1.length) r
def takeE:List (Pc×Int)→List Pc→List Pc×Int
 | [],acc=>(acc,0)
 | (p,e) :: r,acc=>if e≠0 then ([],e) else takeE r (acc++[p])
def patC (p:Pc):List UInt8:=if p.qu=true then p.tx.flatMap fun c=>[92,c] else p.tx
def expG (g:Look):Nat→List UInt8→List Pc×Int
 | 0,_=>([],0)
 | f+1,w=>takeE (tellE (oneG (fun u=>(txL (expG g f u).1,(expG g f u).2)) (fun u=>((expG g f u).1.flatMap patC,(expG g f u).2)) g) 0 (piecesL w)) []
def textG (g:Look) (f:Nat) (w:List UInt8):Res:=(txL (expG g f w).1,(expG g f w).2)
def patG (g:Look) (f:Nat) (w:List UInt8):Res:=((expG g f w).1.flatMap patC,(expG g f w).2)
theorem zdu (g:Look) (f:Nat) (w:List UInt8):expG g (f+1) w=takeE (tellE (oneG (textG g f) (patG g f) g) 0 (piecesL w)) []:=rfl
theorem zj5 (one:Pc→Res):∀ (l:List Pc) (n:Nat) (acc:List Pc),(txL acc).length=n→n≤1048576→(txL (takeE (tellE one n l) acc).1).length≤1048576
 | [],n,acc,h,hn=>by rw [tellE,takeE];dsimp only;omega
 | p :: r,n,acc,h,hn=>by
  rw [tellE,takeE]
  split
  ·simp [txL]
  ·rename_i he
   refine zj5 one r _ _ ?_ ?_
   ·simp [txL] at h ⊢
    rw [h]
   ·unfold errE at he
    split at he
    ·exact absurd (by decide) he
    ·rename_i h2
     apply Classical.byContradiction;intro h3;refine h2 ⟨?_,by omega⟩;apply Classical.byContradiction;exact he
theorem zcc (g:Look) (f:Nat) (w:List UInt8):(txL (expG g f w).1).length≤1048576:=by
 cases f with
 | zero=>simp [expG,txL]
 | succ f =>
  rw [zdu];exact zj5 _ _ 0 [] rfl (by omega)
theorem zl3 (g:Look) (f:Nat) (w:List UInt8):(textG g f w).1.length≤1048576:=zcc g f w
theorem pat_le:∀ l:List Pc,(l.flatMap patC).length≤2*(txL l).length
 | []=>by simp
 | p :: l=>by
  have h:=pat_le l
  have h2:(patC p).length≤2*p.tx.length:=by
   unfold patC
   split
   ·rw [List.length_flatMap]
    simp
    have:(List.map (fun _:UInt8=>2) p.tx).sum=2*p.tx.length:=by
     induction p.tx with
     | nil=>rfl
     | cons a r ih=>simp [ih];omega
    omega
   ·omega
  simp [txL] at h ⊢;omega
theorem znx (g:Look) (f:Nat) (w:List UInt8):(patG g f w).1.length≤2097152:=by
 have h1:=pat_le (expG g f w).1;have h2:=zcc g f w;unfold patG;dsimp only;omega
end Go.Proofs.YtfmecpnokefokaaGreatDoor.Ex
namespace Go.Proofs.YtfmecpnokefokaaGreatDoor.Tab
open Go.Lib
theorem zcd (x y:UInt8) (a b:List UInt8):compareBytes (x :: a) (y :: b)=if x.toNat<y.toNat then -1 else if y.toNat<x.toNat then 1 else compareBytes a b:=by
 conv=>lhs;unfold compareBytes
 simp only [UInt8.lt_iff_toNat_lt]
theorem zhj:∀ a,compareBytes a a=0
 | []=>rfl
 | x :: a=>by rw [zcd,if_neg (Nat.lt_irrefl _),if_neg (Nat.lt_irrefl _),zhj a]
theorem zhk:∀ {a b},compareBytes a b=0→a=b
 | [],[],_=>rfl
 | [],y :: b,h=>by simp [compareBytes] at h
 | x :: a,[],h=>by simp [compareBytes] at h
 | x :: a,y :: b,h=>by
  rw [zcd] at h
  split at h
  ·cases h
  ·split at h
   ·cases h
   ·rw [zhk h,UInt8.toNat_inj.1 (by omega:x.toNat=y.toNat)]
theorem zl4:∀ (a b),compareBytes b a = - compareBytes a b
 | [],[]=>rfl
 | [],y :: b=>rfl
 | x :: a,[]=>rfl
 | x :: a,y :: b=>by
  rw [zcd,zcd,zl4 a b]
  repeat' split
  all_goals omega
theorem zj6:∀ {a b c},compareBytes a b<0→compareBytes b c<0→compareBytes a c<0
 | [],[],c,h,_=>by simp [compareBytes] at h
 | [],y :: b,[],_,h=>by simp [compareBytes] at h
 | [],y :: b,z :: c,_,_=>by simp [compareBytes]
 | x :: a,[],c,h,_=>by simp [compareBytes] at h
 | x :: a,y :: b,[],_,h=>by simp [compareBytes] at h
 | x :: a,y :: b,z :: c,h,h'=>by
  rw [zcd] at h h' ⊢;by_cases h1:x.toNat<z.toNat
  ·rw [if_pos h1];decide
  ·rw [if_neg h1]
   split at h
   ·rw [if_neg (by omega)] at h'
    rw [if_pos (by omega)] at h';simp at h'
   ·split at h
    ·simp at h
    ·split at h'
     ·omega
     ·split at h'
      ·simp at h'
      ·rw [if_neg (by omega)]
       exact zj6 h h'
structure Ent where
 name:List UInt8
 val:List UInt8
def Rises (xs:List Ent):Prop:=xs.Pairwise fun a b=>compareBytes a.name b.name<0
def place (xs:List Ent) (s:List UInt8):Nat:=(xs.takeWhile fun e=>compareBytes e.name s<0).length
theorem zc8 (xs:List Ent) (s:List UInt8):place xs s≤xs.length:=by
 unfold place
 induction xs with
 | nil=>simp
 | cons e xs ih=>rw [List.takeWhile_cons];split <;> simp <;> omega
theorem zbu {xs:List Ent} (h:Rises xs) (s:List UInt8) {t:Nat} (ht:t<xs.length):compareBytes xs[t].name s<0 ↔ t<place xs s:=by
 induction xs generalizing t with
 | nil=>simp at ht
 | cons e xs ih =>
  have hp:=List.pairwise_cons.1 h;unfold place at *;rw [List.takeWhile_cons];by_cases he:compareBytes e.name s<0
  ·rw [if_pos (by simpa using he)]
   cases t with
   | zero=>simp [he]
   | succ t=>simpa using ih hp.2 (by simpa using ht)
  ·rw [if_neg (by simpa using he)]
   simp only [List.length_nil,Nat.not_lt_zero,iff_false]
   cases t with
   | zero=>simpa using he
   | succ t =>
    intro hlt;have hm:xs[t]'(by simpa using ht)∈xs:=List.getElem_mem _;exact he (zj6 (hp.1 _ hm) (by simpa using hlt))
end Go.Proofs.YtfmecpnokefokaaGreatDoor.Tab
