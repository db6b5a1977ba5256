/-
  The walk of layer 16 (pattern): the set at a place, by the program. Conditions: texts of at most 2^30 bytes; the library's variable MaxLen holds some number. Printed by gen_bracket.py.
-/
import Derived.Test.YtfmecpnokefokaaGreatDoorPat8
set_option linter.unusedSimpArgs false
set_option linter.unusedVariables false
namespace Go.Proofs.YtfmecpnokefokaaGreatDoor.Pat
open Go.ChangeShapes Go.WideShapes Go.Deep Go.RowKit
set_option maxRecDepth 100000
theorem _root_.Go.Proofs.YtfmecpnokefokaaGreatDoor.j7jb {p:Prop} (h:p):Go.RowKit.Hid p:=Go.Lib.hid h
def setB (p:List UInt8) (n:Nat) (b:UInt8):Int:=match brAt p n with
 | none=>0
 | some x=>bitI (x.1 b)
def setE (p:List UInt8) (n:Nat):Int:=match brAt p n with
 | none => -1
 | some x=>x.2
def SetP (p:List UInt8) (n:Nat) (b:UInt8) (w:World) (e:Ending) (w':World):Prop:=e = .returned (.tuple #[.int .i64 (setB p n b),.int .i64 (setE p n)])∧Below w.heap.size w w'
theorem SetP.some_ {p:List UInt8} {n e:Nat} {b:UInt8} {w w':World} {g:UInt8→Bool} {x y:Int} (h:brAt p n=some (g,e)) (hx:x=bitI (g b)) (hy:y=e) (hb:Below w.heap.size w w'):SetP p n b w (.returned (.tuple #[.int .i64 x,.int .i64 y])) w':=by
 have h1:setB p n b=bitI (g b):=by unfold setB;rw [h]
 have h2:setE p n=e:=by unfold setE;rw [h]
 exact ⟨by rw [h1,h2,hx,hy],hb⟩
theorem SetP.none_ {p:List UInt8} {n:Nat} {b:UInt8} {w w':World} (h:brAt p n=none) (hb:Below w.heap.size w w'):SetP p n b w (.returned (.tuple #[.int .i64 0,.int .i64 (-1)])) w':=by
 have h1:setB p n b=0:=by unfold setB;rw [h]
 have h2:setE p n = -1:=by unfold setE;rw [h]
 exact ⟨by rw [h1,h2],hb⟩
theorem zjg {c:Nat} {f g:UInt8→Bool} {b:UInt8} (h:0<c ↔ f b=true) (x:Nat) (hx:bitI (g b)=x):0<c+x ↔ (fun b=>f b || g b) b=true:=by
 simp only [Bool.or_eq_true];rw [← h];unfold bitI at hx
 cases hg:g b with
 | true=>rw [hg,if_pos rfl] at hx;simp;omega
 | false=>rw [hg] at hx;simp at hx;simp;omega
theorem zlk {p:List UInt8} {n:Nat} {g:UInt8→Bool} {e:Nat} (h:p[n+1]?=some 33) (h2:setR p (n+2) (n+2) (fun _=>false)=some (g,e)):brAt p n=some (fun b => !g b,e):=by
 unfold brAt;rw [if_pos h,h2];rfl
theorem zjh {p:List UInt8} {n:Nat} (h:p[n+1]?=some 33) (h2:setR p (n+2) (n+2) (fun _=>false)=none):brAt p n=none:=by
 unfold brAt;rw [if_pos h,h2];rfl
theorem zcr {p:List UInt8} {n:Nat} (h:¬ p[n+1]?=some 33):brAt p n=setR p (n+1) (n+1) (fun _=>false):=by
 unfold brAt;rw [if_neg h]
set_option maxHeartbeats 6400000 in
theorem ziq (p:List UInt8) (n:Nat) (b:UInt8) (w:World) (hp:p.length≤1073741824) (hn:n<p.length) :
  Calls Tryz.prog 105 #[.string (B p),.int .i64 n,.int .u8 b.toNat] w (SetP p n b w):=by
 have i00:(0:Int)≤(n:Int)+1:=by omega
 by_cases h33:∃ h:n+1<p.length,p[n+1]=33
 ·obtain ⟨h1,h33⟩:=h33
  have hg:p[n+1]?=some 33:=by rw [List.getElem?_eq_getElem h1,h33]
  have HBR:=j7jb fun x (h:setR p (n+2) (n+2) (fun _=>false)=some x)=>zlk (g:=x.1) (e:=x.2) hg h;have HBN:=j7jb fun h=>zjh hg h;have d1:(n:Int)+1<(p.length:Int):=by omega
  have d2:=is_b (n:=33) rfl h33;clear h33 hg
  obtain ⟨q,hq⟩:∃ q,q=n+2:=⟨_,rfl⟩
  rw [← hq] at HBR HBN;have HQ:Hid ((q:Int)=(n:Int)+1+1):=by show _=_;omega
  have HQL:Hid (q≤p.length):=by show _≤_;omega
  clear hq;go_enter Tryz.func105,Tryz.ntmps105;go_wp2
  go_loopw [1,10] (fun i s w'=>∃ (k c:Nat) (f:UInt8→Bool),q≤k∧k≤p.length∧i = .int .i64 k∧s = .int .i64 c∧c≤k∧Hid (setR p q q (fun _=>false)=setR p q k f)∧Hid (0<c ↔ f b=true)∧Below w.heap.size w w') (fun i _ _=>p.length - (intOf i).toNat)
  case atStart=>exact ⟨q,0,fun _=>false,by omega,by have:=HQL.out;omega,by rw [HQ.out],rfl,by omega,rfl,by show _ ↔ _;simp,zzr⟩
  case round =>
   obtain ⟨k,c,f,hqk,hk,rfl,rfl,hck,HR,HC,hb1⟩:=hrel;by_cases hlt:k<p.length
   ·have i0:(0:Int)≤(k:Int):=by omega
    have i1:(k:Int)<(p.length:Int):=by omega
    by_cases hend:p[k]=93∧q<k
    ·obtain ⟨h93,hgt⟩:=hend
     have e1:=is_b (n:=93) rfl h93;have e2:(n:Int)+1+1<(k:Int):=by have:=HQ.out;omega
     have HE:=j7jb (zey (p:=p) (first:=q) (f:=f) (show p[k]?=some 93 by rw [List.getElem?_eq_getElem hlt,h93]) (by omega));clear h93;by_cases hc0:0<c
     ·have HF:=j7jb (HC.out.1 hc0)
      go_wp2;go_ret2;exact SetP.some_ (HBR.out _ (HR.out.trans HE.out)) (by simp [bitI,HF.out]) (by omega) hb1
     ·have HF:Hid (f b=false):=by
       cases hf:f b with
       | false=>rfl
       | true=>exact absurd (HC.out.2 hf) hc0
      have d0:=no hc0;go_wp2;go_ret2;exact SetP.some_ (HBR.out _ (HR.out.trans HE.out)) (by simp [bitI,HF.out]) (by omega) hb1
    ·have HNS:Hid (¬ (p[k]?=some 93∧k≠q)):=fun h=>hend ⟨by have:=h.1;rw [List.getElem?_eq_getElem hlt] at this;simpa using this,by have:=h.2;omega⟩
     have hor:¬ p[k]=93∨(p[k]=93∧¬ q<k):=by
      by_cases h:p[k]=93
      ·exact .inr ⟨h,fun h2=>hend ⟨h,h2⟩⟩
      ·exact .inl h
     have HMB:=j7jb fun w=>zh8 p k b w hp hlt;unfold MemPost at HMB;clear hend
     cases hm:memAt p k with
     | none =>
      rw [(zc3 b hm).1,(zc3 b hm).2] at HMB;have HE:=j7jb (zdo (f:=f) hlt HNS.out hm);clear hm;rcases hor with h|⟨h,h2⟩
      ·have e1:=not_b (n:=93) rfl h
       clear h
       go_wp2_with (go_at_call 135;refine (HMB.out _).mono ?_;rintro e w' ⟨rfl,hb⟩;obtain ⟨g,rfl⟩:=zl hb;clear hb)
       go_ret2;exact SetP.none_ (HBN.out (HR.out.trans HE.out)) (zzr)
      ·have e1:=is_b (n:=93) rfl h
       have e2:=no (show ¬ (n:Int)+1+1<(k:Int) by have:=HQ.out;omega);clear h
       go_wp2_with (go_at_call 135;refine (HMB.out _).mono ?_;rintro e w' ⟨rfl,hb⟩;obtain ⟨g,rfl⟩:=zl hb;clear hb)
       go_ret2;exact SetP.none_ (HBN.out (HR.out.trans HE.out)) (zzr)
     | some x =>
      obtain ⟨g,e⟩:=x;rw [(zc2 b hm).1,(zc2 b hm).2] at HMB;have HE:=j7jb (zdp (f:=f) hlt HNS.out hm);have hee:=zbd hm
      have hbi:0≤bitI (g b)∧bitI (g b)≤1:=by unfold bitI;split <;> omega
      have HG:=j7jb (zjg (c:=c) HC.out (g:=g))
      obtain ⟨x,hx⟩:∃ x:Nat,bitI (g b)=x:=⟨(bitI (g b)).toNat,by omega⟩
      have HX:=j7jb hx;rw [hx] at HMB;have hx1:x≤1:=by omega
      have d0:=no (show ¬ (e:Int)<0 by omega);clear hm hbi hx;rcases hor with h|⟨h,h2⟩
      ·have e1:=not_b (n:=93) rfl h
       clear h
       go_wp2_with (go_at_call 135;refine (HMB.out _).mono ?_;rintro e w' ⟨rfl,hb⟩;obtain ⟨g,rfl⟩:=zl hb;clear hb)
       go_roundw
       case rel=>exact ⟨e,c+x,_,by omega,by omega,rfl,by go_num,by omega,HR.out.trans HE.out,HG.out x HX.out,zzr⟩
       case measure=>simp [intOf];omega
      ·have e1:=is_b (n:=93) rfl h
       have e2:=no (show ¬ (n:Int)+1+1<(k:Int) by have:=HQ.out;omega);clear h
       go_wp2_with (go_at_call 135;refine (HMB.out _).mono ?_;rintro e w' ⟨rfl,hb⟩;obtain ⟨g,rfl⟩:=zl hb;clear hb)
       go_roundw
       case rel=>exact ⟨e,c+x,_,by omega,by omega,rfl,by go_num,by omega,HR.out.trans HE.out,HG.out x HX.out,zzr⟩
       case measure=>simp [intOf];omega
   ·have HE:=j7jb (zdn (p:=p) (first:=q) (f:=f) (show p.length≤k by omega))
    have d1:=no hlt;go_wp2;go_ret2;exact SetP.none_ (HBN.out (HR.out.trans HE.out)) hb1
 ·have hg:¬ p[n+1]?=some 33:=fun h=>by
   obtain ⟨h1,h2⟩:=List.getElem?_eq_some_iff.1 h;exact h33 ⟨h1,h2⟩
  have HBR:=j7jb fun (x:(UInt8→Bool)×Nat) (h:setR p (n+1) (n+1) (fun _=>false)=some x)=>(zcr hg).trans h;have HBN:=j7jb fun (h:setR p (n+1) (n+1) (fun _=>false)=none)=>(zcr hg).trans h
  have hor:¬ n+1<p.length∨∃ h:n+1<p.length,¬ p[n+1]=33:=by
   by_cases h1:n+1<p.length
   ·exact .inr ⟨h1,fun h=>h33 ⟨h1,h⟩⟩
   ·exact .inl h1
  clear hg h33
  obtain ⟨q,hq⟩:∃ q,q=n+1:=⟨_,rfl⟩
  rw [← hq] at HBR HBN;have HQ:Hid ((q:Int)=(n:Int)+1):=by show _=_;omega
  have HQL:Hid (q≤p.length):=by show _≤_;omega
  clear hq;rcases hor with h1|⟨h1,h33⟩
  all_goals
   try have d1:=no (show ¬ (n:Int)+1<(p.length:Int) by omega)
   try have d1:(n:Int)+1<(p.length:Int):=by omega
   try have d2:=not_b (n:=33) rfl h33
   try clear h33
   go_enter Tryz.func105,Tryz.ntmps105;go_wp2
   go_loopw [1,10] (fun i s w'=>∃ (k c:Nat) (f:UInt8→Bool),q≤k∧k≤p.length∧i = .int .i64 k∧s = .int .i64 c∧c≤k∧Hid (setR p q q (fun _=>false)=setR p q k f)∧Hid (0<c ↔ f b=true)∧Below w.heap.size w w') (fun i _ _=>p.length - (intOf i).toNat)
   case atStart=>exact ⟨q,0,fun _=>false,by omega,by have:=HQL.out;omega,by rw [HQ.out],rfl,by omega,rfl,by show _ ↔ _;simp,zzr⟩
   case round =>
    obtain ⟨k,c,f,hqk,hk,rfl,rfl,hck,HR,HC,hb1⟩:=hrel;by_cases hlt:k<p.length
    ·have i0:(0:Int)≤(k:Int):=by omega
     have i1:(k:Int)<(p.length:Int):=by omega
     by_cases hend:p[k]=93∧q<k
     ·obtain ⟨h93,hgt⟩:=hend
      have e1:=is_b (n:=93) rfl h93;have e2:(n:Int)+1<(k:Int):=by have:=HQ.out;omega
      have HE:=j7jb (zey (p:=p) (first:=q) (f:=f) (show p[k]?=some 93 by rw [List.getElem?_eq_getElem hlt,h93]) (by omega));clear h93;by_cases hc0:0<c
      ·have HF:=j7jb (HC.out.1 hc0)
       go_wp2;go_ret2;exact SetP.some_ (HBR.out _ (HR.out.trans HE.out)) (by simp [bitI,HF.out]) (by omega) hb1
      ·have HF:Hid (f b=false):=by
        cases hf:f b with
        | false=>rfl
        | true=>exact absurd (HC.out.2 hf) hc0
       have d0:=no hc0;go_wp2;go_ret2;exact SetP.some_ (HBR.out _ (HR.out.trans HE.out)) (by simp [bitI,HF.out]) (by omega) hb1
     ·have HNS:Hid (¬ (p[k]?=some 93∧k≠q)):=fun h=>hend ⟨by have:=h.1;rw [List.getElem?_eq_getElem hlt] at this;simpa using this,by have:=h.2;omega⟩
      have hor:¬ p[k]=93∨(p[k]=93∧¬ q<k):=by
       by_cases h:p[k]=93
       ·exact .inr ⟨h,fun h2=>hend ⟨h,h2⟩⟩
       ·exact .inl h
      have HMB:=j7jb fun w=>zh8 p k b w hp hlt;unfold MemPost at HMB;clear hend
      cases hm:memAt p k with
      | none =>
       rw [(zc3 b hm).1,(zc3 b hm).2] at HMB;have HE:=j7jb (zdo (f:=f) hlt HNS.out hm);clear hm;rcases hor with h|⟨h,h2⟩
       ·have e1:=not_b (n:=93) rfl h
        clear h
        go_wp2_with (go_at_call 135;refine (HMB.out _).mono ?_;rintro e w' ⟨rfl,hb⟩;obtain ⟨g,rfl⟩:=zl hb;clear hb)
        go_ret2;exact SetP.none_ (HBN.out (HR.out.trans HE.out)) (zzr)
       ·have e1:=is_b (n:=93) rfl h
        have e2:=no (show ¬ (n:Int)+1<(k:Int) by have:=HQ.out;omega);clear h
        go_wp2_with (go_at_call 135;refine (HMB.out _).mono ?_;rintro e w' ⟨rfl,hb⟩;obtain ⟨g,rfl⟩:=zl hb;clear hb)
        go_ret2;exact SetP.none_ (HBN.out (HR.out.trans HE.out)) (zzr)
      | some x =>
       obtain ⟨g,e⟩:=x;rw [(zc2 b hm).1,(zc2 b hm).2] at HMB;have HE:=j7jb (zdp (f:=f) hlt HNS.out hm);have hee:=zbd hm
       have hbi:0≤bitI (g b)∧bitI (g b)≤1:=by unfold bitI;split <;> omega
       have HG:=j7jb (zjg (c:=c) HC.out (g:=g))
       obtain ⟨x,hx⟩:∃ x:Nat,bitI (g b)=x:=⟨(bitI (g b)).toNat,by omega⟩
       have HX:=j7jb hx;rw [hx] at HMB;have hx1:x≤1:=by omega
       have d0:=no (show ¬ (e:Int)<0 by omega);clear hm hbi hx;rcases hor with h|⟨h,h2⟩
       ·have e1:=not_b (n:=93) rfl h
        clear h
        go_wp2_with (go_at_call 135;refine (HMB.out _).mono ?_;rintro e w' ⟨rfl,hb⟩;obtain ⟨g,rfl⟩:=zl hb;clear hb)
        go_roundw
        case rel=>exact ⟨e,c+x,_,by omega,by omega,rfl,by go_num,by omega,HR.out.trans HE.out,HG.out x HX.out,zzr⟩
        case measure=>simp [intOf];omega
       ·have e1:=is_b (n:=93) rfl h
        have e2:=no (show ¬ (n:Int)+1<(k:Int) by have:=HQ.out;omega);clear h
        go_wp2_with (go_at_call 135;refine (HMB.out _).mono ?_;rintro e w' ⟨rfl,hb⟩;obtain ⟨g,rfl⟩:=zl hb;clear hb)
        go_roundw
        case rel=>exact ⟨e,c+x,_,by omega,by omega,rfl,by go_num,by omega,HR.out.trans HE.out,HG.out x HX.out,zzr⟩
        case measure=>simp [intOf];omega
    ·have HE:=j7jb (zdn (p:=p) (first:=q) (f:=f) (show p.length≤k by omega))
     have d1:=no hlt;go_wp2;go_ret2;exact SetP.none_ (HBN.out (HR.out.trans HE.out)) hb1
def brF (p:List UInt8) (n:Nat):UInt8→Bool:=match brAt p n with
 | none=>fun _=>false
 | some x=>x.1
def brE (p:List UInt8) (n:Nat):Nat:=match brAt p n with
 | none=>0
 | some x=>x.2
def BrP (p:List UInt8) (n:Nat) (w:World) (e:Ending) (w':World):Prop:=e = .returned (.tuple #[setV (brF p n),.int .i64 (brE p n)])∧Below w.heap.size w w'
theorem setV0:setV (fun _=>false) = .agg #[.int .u64 0,.int .u64 0,.int .u64 0,.int .u64 0]:=by simp [setV,z7]
theorem BrP.none_ {p:List UInt8} {n:Nat} {w w':World} (h:brAt p n=none) (hb:Below w.heap.size w w'):BrP p n w (.returned (.tuple #[.agg #[.int .u64 0,.int .u64 0,.int .u64 0,.int .u64 0],.int .i64 0])) w':=by
 have h1:brF p n=fun _=>false:=by unfold brF;rw [h]
 have h2:brE p n=0:=by unfold brE;rw [h]
 exact ⟨by rw [h1,h2,setV0];rfl,hb⟩
theorem BrP.some_ {p:List UInt8} {n e:Nat} {g:UInt8→Bool} {w w':World} {y:Int} (h:brAt p n=some (g,e)) (hy:y=e) (hb:Below w.heap.size w w'):BrP p n w (.returned (.tuple #[setV g,.int .i64 y])) w':=by
 have h1:brF p n=g:=by unfold brF;rw [h]
 have h2:brE p n=e:=by unfold brE;rw [h]
 exact ⟨by rw [h1,h2,hy],hb⟩
theorem SetAt.new (W:World) (t:TypeId):SetAt (W.alloc (.cells #[.int .u64 0,.int .u64 0,.int .u64 0,.int .u64 0] t)) W.heap.size (fun _=>false):=by
 refine ⟨by simp,fun i hi=>?_,fun j=>by simp [go_sem]⟩;rw [z7]
 match i,hi with
 | 0,_=>go_simp
 | 1,_=>go_simp
 | 2,_=>go_simp
 | 3,_=>go_simp
theorem SetAt.loads {w:World} {b:Nat} {f:UInt8→Bool} (h:SetAt w b f):w.cell? ⟨b,0,none⟩=some (.int .u64 (wordOf f 0:Nat))∧w.cell? ⟨b,1,none⟩=some (.int .u64 (wordOf f 1:Nat))∧w.cell? ⟨b,2,none⟩=some (.int .u64 (wordOf f 2:Nat))∧w.cell? ⟨b,3,none⟩=some (.int .u64 (wordOf f 3:Nat)) :=
 ⟨h.c 0 (by omega),h.c 1 (by omega),h.c 2 (by omega),h.c 3 (by omega)⟩
structure MixAt (w:World) (b:Nat) (f g:UInt8→Bool) (k:Nat):Prop where
 lt:b<w.heap.size
 c:∀ i,i<4→w.cell? ⟨b,i,none⟩=some (.int .u64 (wordOf (if i<k then g else f) i:Nat))
 fr:∀ j,w.frozen? ⟨b,j,none⟩=false
theorem SetAt.mix {w:World} {b:Nat} {f g:UInt8→Bool} (h:SetAt w b f):MixAt w b f g 0:=⟨h.lt,fun i hi=>by rw [if_neg (by omega)];exact h.c i hi,h.fr⟩
theorem MixAt.done {w:World} {b:Nat} {f g:UInt8→Bool} (h:MixAt w b f g 4):SetAt w b g:=⟨h.lt,fun i hi=>by have:=h.c i hi;rwa [if_pos hi] at this,h.fr⟩
theorem MixAt.step {w:World} {b k:Nat} {f g:UInt8→Bool} (h:MixAt w b f g k) (hk:k<4):MixAt (w.setCell ⟨b,k,none⟩ (.int .u64 (wordOf g k:Nat))) b f g (k+1):=by
 refine ⟨by simpa [World.setCell] using h.lt,fun i hi=>?_,fun j=>by simp only [World.frozen?_setCell];exact h.fr j⟩;by_cases e:i=k
 ·subst e
  rw [World.cell?_setCell_same' _ _ _ (by rw [h.c _ hi];rfl),if_pos (by omega)]
 ·rw [World.cell?_setCell_other _ _ _ _ (by first|(simp;done)|(simp;exact fun h=>e h.symm)),h.c i hi]
  by_cases h1:i<k
  ·rw [if_pos h1,if_pos (by omega)]
  ·rw [if_neg h1,if_neg (by omega)]
theorem xorbit (f:UInt8→Bool) (k:Nat):Go.bits .xor .u64 (if IntKind.u64.signed=true then -1 else IntKind.u64.max) ((wordOf f k:Nat):Int)=((wordOf (fun c => !f c) k:Nat):Int):=by
 have:=bits_xor_u64_nat 18446744073709551615 (wordOf f k) (by omega) (zfv _ _);rw [word_not] at this;exact this
theorem SetAt.new2 (W:World) (o:Obj) (t:TypeId):SetAt ((W.alloc o).alloc (.cells #[.int .u64 0,.int .u64 0,.int .u64 0,.int .u64 0] t)) (W.heap.size+1) (fun _=>false):=by
 have:=SetAt.new (W.alloc o) t
 simpa using this
theorem below4 {w w':World} (h:Below w.heap.size w w') (v0 v1 v2 v3:Value):Below w.heap.size w ((((w'.setCell ⟨w.heap.size,0,none⟩ v0).setCell ⟨w.heap.size,1,none⟩ v1).setCell ⟨w.heap.size,2,none⟩ v2).setCell ⟨w.heap.size,3,none⟩ v3):=by
 have e:w.heap.size≤w.heap.size:=Nat.le_refl _;exact zm (zm (zm (zm h e _) e _) e _) e _
set_option maxHeartbeats 6400000 in
theorem zmp (p:List UInt8) (n:Nat) (w:World) (hm:MaxL w) (hp:p.length≤1073741824) (hn:n<p.length) :
  Calls Tryz.prog 196 #[.string (B p),.int .i64 n] w (BrP p n w):=by
 have HM:=j7jb hm;clear hm;have i00:(0:Int)≤(n:Int)+1:=by omega
 by_cases h33:∃ h:n+1<p.length,p[n+1]=33
 ·obtain ⟨h1,h33⟩:=h33
  have hg:p[n+1]?=some 33:=by rw [List.getElem?_eq_getElem h1,h33]
  have HBR:=j7jb fun x (h:setR p (n+2) (n+2) (fun _=>false)=some x)=>zlk (g:=x.1) (e:=x.2) hg h;have HBN:=j7jb fun h=>zjh hg h;have d1:(n:Int)+1<(p.length:Int):=by omega
  have d2:=is_b (n:=33) rfl h33;clear h33 hg
  obtain ⟨q,hq⟩:∃ q,q=n+2:=⟨_,rfl⟩
  rw [← hq] at HBR HBN;have HQ:Hid ((q:Int)=(n:Int)+1+1):=by show _=_;omega
  have HQL:Hid (q≤p.length):=by show _≤_;omega
  clear hq;go_enter Tryz.func196,Tryz.ntmps196;go_wp2
  go_loopw [1] (fun i w'=>∃ (k:Nat) (f:UInt8→Bool),q≤k∧k≤p.length∧i = .int .i64 k∧Hid (setR p q q (fun _=>false)=setR p q k f)∧Hid (SetAt w' (w.heap.size+1) f)∧Hid (SetAt w' w.heap.size (fun _=>false))∧Hid (Below w.heap.size w w')) (fun i _=>p.length - (intOf i).toNat)
  case atStart=>exact ⟨q,fun _=>false,by omega,by have:=HQL.out;omega,by rw [HQ.out],rfl,SetAt.new2 _ _ _,(SetAt.new _ _).below (za (Below.refl _ _) _),by show Below _ _ _;(repeat (first|with_reducible exact Below.refl _ _|with_reducible assumption|with_reducible (first|refine za ?_ _|refine zt ?_ _|refine zq ?_ _|refine zk ?_|refine zm ?_ (by first|(dsimp only;omega)|(simp;done)|(simp;omega)) _)))⟩
  case round =>
   obtain ⟨k,f,hqk,hk,rfl,HR,HXB,HRB,HB1⟩:=hrel;by_cases hlt:k<p.length
   ·have i0:(0:Int)≤(k:Int):=by omega
    have i1:(k:Int)<(p.length:Int):=by omega
    by_cases hend:p[k]=93∧¬ k=q
    ·obtain ⟨h93,hgt⟩:=hend
     have e1:=is_nb (n:=93) rfl h93;have e2:=beq_eq_false_iff_ne.2 (show ¬ (k:Int)=(n:Int)+1+1 by have:=HQ.out;omega);have e3:=no (show ¬ p.length≤k by omega);have HE:=j7jb (zey (p:=p) (first:=q) (f:=f) (show p[k]?=some 93 by rw [List.getElem?_eq_getElem hlt,h93]) (by omega));clear h93 hgt;go_wp2
     obtain ⟨wo,rfl⟩:∃ wo:World,wo=wr:=⟨_,rfl⟩
     go_loopw [53] (fun i w'=>∃ j:Nat,j≤4∧i = .int .i64 j∧Hid (MixAt w' (w.heap.size+1) f (fun c => !f c) j)∧Hid (SetAt w' w.heap.size (fun _=>false))∧Hid (Below w.heap.size w w')) (fun i _=>4 - (intOf i).toNat)
     case atStart=>exact ⟨0,by omega,rfl,HXB.out.mix,HRB.out,HB1.out⟩
     case round =>
      obtain ⟨j,hj,rfl,HXM,HRM,HBM⟩:=hrel;by_cases hjl:j<4
      ·have c0:=HXM.out.c j hjl
       rw [if_neg (Nat.lt_irrefl j)] at c0;have cf:=HXM.out.fr;have cx:=xorbit f j
       haveI:Old wr (w.heap.size+1):=⟨HXM.out.lt⟩
       have HX3:=j7jb (HXM.out.step hjl);have hks:=Keeps.setCell (F:=fun k=>k=w.heap.size+1) wr (a:=⟨w.heap.size+1,j,none⟩) rfl (.int .u64 (wordOf (fun c => !f c) j:Nat));have HR3:=j7jb (HRM.out.keeps hks (by omega));have HB3:=j7jb (ze HBM.out hks (fun k hk=>by omega));clear hks;have j0:(0:Int)≤(j:Int):=by omega
       have j1:(j:Int)<4:=by omega
       go_wp2;go_roundw
       case rel=>exact ⟨j+1,by omega,by go_num,HX3.out,HR3.out,HB3.out⟩
       case measure=>simp [intOf];omega
      ·have hj4:j=4:=by omega
       have hxm:=HXM.out;rw [hj4] at hxm;have HXD:=j7jb hxm.done;have HJ4:=j7jb hj4;have dj:=no (show ¬ (j:Int)<4 by omega);clear hj4 hxm hjl;obtain ⟨x0,x1,x2,x3⟩:=HXD.out.loads;have xf:=HXD.out.fr;obtain ⟨r0,r1,r2,r3⟩:=HRM.out.loads;rw [z7] at r0 r1 r2 r3;have rf:=HRM.out.fr
       haveI:Old wr w.heap.size:=⟨HRM.out.lt⟩
       haveI:Old wr (w.heap.size+1):=⟨HXD.out.lt⟩
       go_wp2;exact bodyPost_ret (v:=.tuple #[.agg #[.int .u64 (wordOf (fun c => !f c) 0:Nat),.int .u64 (wordOf (fun c => !f c) 1:Nat),.int .u64 (wordOf (fun c => !f c) 2:Nat),.int .u64 (wordOf (fun c => !f c) 3:Nat)],.int .i64 ((k:Int)+1)]) (by simp [results,Tryz.results196,go_sem,r0,r1,r2,r3]) rfl (BrP.some_ (g:=fun c => !f c) (HBR.out _ (HR.out.trans HE.out)) (by omega) (below4 HBM.out _ _ _ _))
    ·have HNS:Hid (¬ (p[k]?=some 93∧k≠q)):=fun h=>hend ⟨by have:=h.1;rw [List.getElem?_eq_getElem hlt] at this;simpa using this,by have:=h.2;omega⟩
     have hor:¬ p[k]=93∨(p[k]=93∧k=q):=by
      by_cases h:p[k]=93
      ·exact .inr ⟨h,Classical.byContradiction fun h2=>hend ⟨h,h2⟩⟩
      ·exact .inl h
     have HMB:=j7jb fun w' hs hm hb=>znf p k (w.heap.size+1) f w' hs hm hb hp hlt;unfold MemP at HMB;clear hend
     cases hm:memAt p k with
     | none =>
      have hme:memEnd p k=0:=by unfold memEnd;rw [hm]
      have hms:memSet p k f=f:=by unfold memSet;rw [hm]
      rw [hme,hms] at HMB;have HE:=j7jb (zdo (f:=f) hlt HNS.out hm);clear hm hme hms;rcases hor with h|⟨h,h2⟩
      all_goals
       try have e1:=not_nb (n:=93) rfl h
       try have e1:=is_nb (n:=93) rfl h
       try have e2:=beq_iff_eq.2 (show (k:Int)=(n:Int)+1+1 by have:=HQ.out;omega)
       clear h
       try clear h2
       go_wp2_with (go_at_call 197;refine (HMB.out _ HXB.out (HM.out.below HB1.out) (by omega)).mono ?_;rintro e w2 ⟨rfl,hs2,hk2⟩;have HX2:=j7jb hs2;have HRB2:=j7jb (HRB.out.keeps hk2 (by omega));have HB2:=j7jb (ze HB1.out hk2 (fun k hk=>by omega));obtain ⟨r0,r1,r2,r3⟩:=HRB2.out.loads;rw [z7] at r0 r1 r2 r3;have rf:=HRB2.out.fr;haveI:Old w2 w.heap.size:=⟨HRB2.out.lt⟩;clear hs2 hk2)
       exact bodyPost_ret (v:=.tuple #[.agg #[.int .u64 0,.int .u64 0,.int .u64 0,.int .u64 0],.int .i64 0]) (by simp [results,Tryz.results196,go_sem,r0,r1,r2,r3]) rfl (BrP.none_ (HBN.out (HR.out.trans HE.out)) (below4 HB2.out _ _ _ _))
     | some x =>
      obtain ⟨g,e⟩:=x;have hme:memEnd p k=e:=by unfold memEnd;rw [hm]
      have hms:memSet p k f=fun c=>f c || g c:=by unfold memSet;rw [hm]
      rw [hme,hms] at HMB;have HE:=j7jb (zdp (f:=f) hlt HNS.out hm);have hee:=zbd hm;have d0:=beq_eq_false_iff_ne.2 (show ¬ (e:Int)=0 by omega);clear hm hme hms;rcases hor with h|⟨h,h2⟩
      all_goals
       try have e1:=not_nb (n:=93) rfl h
       try have e1:=is_nb (n:=93) rfl h
       try have e2:=beq_iff_eq.2 (show (k:Int)=(n:Int)+1+1 by have:=HQ.out;omega)
       clear h
       try clear h2
       go_wp2_with (go_at_call 197;refine (HMB.out _ HXB.out (HM.out.below HB1.out) (by omega)).mono ?_;rintro e w2 ⟨rfl,hs2,hk2⟩;have HX2:=j7jb hs2;have HRB2:=j7jb (HRB.out.keeps hk2 (by omega));have HB2:=j7jb (ze HB1.out hk2 (fun k hk=>by omega));obtain ⟨r0,r1,r2,r3⟩:=HRB2.out.loads;rw [z7] at r0 r1 r2 r3;have rf:=HRB2.out.fr;haveI:Old w2 w.heap.size:=⟨HRB2.out.lt⟩;clear hs2 hk2)
       go_roundw
       case rel=>exact ⟨e,_,by omega,by omega,rfl,HR.out.trans HE.out,HX2.out,HRB2.out,HB2.out⟩
       case measure=>simp [intOf];omega
   ·have HE:=j7jb (zdn (p:=p) (first:=q) (f:=f) (show p.length≤k by omega))
    have d1:=no hlt;have d2:p.length≤k:=by omega
    clear hlt;obtain ⟨r0,r1,r2,r3⟩:=HRB.out.loads;rw [z7] at r0 r1 r2 r3;have rf:=HRB.out.fr
    haveI:Old wr w.heap.size:=⟨HRB.out.lt⟩
    go_wp2;exact bodyPost_ret (v:=.tuple #[.agg #[.int .u64 0,.int .u64 0,.int .u64 0,.int .u64 0],.int .i64 0]) (by simp [results,Tryz.results196,go_sem,r0,r1,r2,r3]) rfl (BrP.none_ (HBN.out (HR.out.trans HE.out)) (below4 HB1.out _ _ _ _))
 ·have hg:¬ p[n+1]?=some 33:=fun h=>by
   obtain ⟨h1,h2⟩:=List.getElem?_eq_some_iff.1 h;exact h33 ⟨h1,h2⟩
  have HBR:=j7jb fun (x:(UInt8→Bool)×Nat) (h:setR p (n+1) (n+1) (fun _=>false)=some x)=>(zcr hg).trans h;have HBN:=j7jb fun (h:setR p (n+1) (n+1) (fun _=>false)=none)=>(zcr hg).trans h
  have hor:¬ n+1<p.length∨∃ h:n+1<p.length,¬ p[n+1]=33:=by
   by_cases h1:n+1<p.length
   ·exact .inr ⟨h1,fun h=>h33 ⟨h1,h⟩⟩
   ·exact .inl h1
  clear hg h33
  obtain ⟨q,hq⟩:∃ q,q=n+1:=⟨_,rfl⟩
  rw [← hq] at HBR HBN;have HQ:Hid ((q:Int)=(n:Int)+1):=by show _=_;omega
  have HQL:Hid (q≤p.length):=by show _≤_;omega
  clear hq;rcases hor with h1|⟨h1,h33⟩
  all_goals
   try have d1:=no (show ¬ (n:Int)+1<(p.length:Int) by omega)
   try have d1:(n:Int)+1<(p.length:Int):=by omega
   try have d2:=not_b (n:=33) rfl h33
   try clear h33
   go_enter Tryz.func196,Tryz.ntmps196;go_wp2
   go_loopw [1] (fun i w'=>∃ (k:Nat) (f:UInt8→Bool),q≤k∧k≤p.length∧i = .int .i64 k∧Hid (setR p q q (fun _=>false)=setR p q k f)∧Hid (SetAt w' (w.heap.size+1) f)∧Hid (SetAt w' w.heap.size (fun _=>false))∧Hid (Below w.heap.size w w')) (fun i _=>p.length - (intOf i).toNat)
   case atStart=>exact ⟨q,fun _=>false,by omega,by have:=HQL.out;omega,by rw [HQ.out],rfl,SetAt.new2 _ _ _,(SetAt.new _ _).below (za (Below.refl _ _) _),by show Below _ _ _;(repeat (first|with_reducible exact Below.refl _ _|with_reducible assumption|with_reducible (first|refine za ?_ _|refine zt ?_ _|refine zq ?_ _|refine zk ?_|refine zm ?_ (by first|(dsimp only;omega)|(simp;done)|(simp;omega)) _)))⟩
   case round =>
    obtain ⟨k,f,hqk,hk,rfl,HR,HXB,HRB,HB1⟩:=hrel;by_cases hlt:k<p.length
    ·have i0:(0:Int)≤(k:Int):=by omega
     have i1:(k:Int)<(p.length:Int):=by omega
     by_cases hend:p[k]=93∧¬ k=q
     ·obtain ⟨h93,hgt⟩:=hend
      have e1:=is_nb (n:=93) rfl h93;have e2:=beq_eq_false_iff_ne.2 (show ¬ (k:Int)=(n:Int)+1 by have:=HQ.out;omega);have e3:=no (show ¬ p.length≤k by omega);have HE:=j7jb (zey (p:=p) (first:=q) (f:=f) (show p[k]?=some 93 by rw [List.getElem?_eq_getElem hlt,h93]) (by omega));clear h93 hgt;obtain ⟨x0,x1,x2,x3⟩:=HXB.out.loads;have xf:=HXB.out.fr;obtain ⟨r0,r1,r2,r3⟩:=HRB.out.loads;rw [z7] at r0 r1 r2 r3;have rf:=HRB.out.fr
      haveI:Old wr w.heap.size:=⟨HRB.out.lt⟩
      haveI:Old wr (w.heap.size+1):=⟨HXB.out.lt⟩
      go_wp2;exact bodyPost_ret (v:=.tuple #[.agg #[.int .u64 (wordOf (f) 0:Nat),.int .u64 (wordOf (f) 1:Nat),.int .u64 (wordOf (f) 2:Nat),.int .u64 (wordOf (f) 3:Nat)],.int .i64 ((k:Int)+1)]) (by simp [results,Tryz.results196,go_sem,r0,r1,r2,r3]) rfl (BrP.some_ (g:=f) (HBR.out _ (HR.out.trans HE.out)) (by omega) (below4 HB1.out _ _ _ _))
     ·have HNS:Hid (¬ (p[k]?=some 93∧k≠q)):=fun h=>hend ⟨by have:=h.1;rw [List.getElem?_eq_getElem hlt] at this;simpa using this,by have:=h.2;omega⟩
      have hor:¬ p[k]=93∨(p[k]=93∧k=q):=by
       by_cases h:p[k]=93
       ·exact .inr ⟨h,Classical.byContradiction fun h2=>hend ⟨h,h2⟩⟩
       ·exact .inl h
      have HMB:=j7jb fun w' hs hm hb=>znf p k (w.heap.size+1) f w' hs hm hb hp hlt;unfold MemP at HMB;clear hend
      cases hm:memAt p k with
      | none =>
       have hme:memEnd p k=0:=by unfold memEnd;rw [hm]
       have hms:memSet p k f=f:=by unfold memSet;rw [hm]
       rw [hme,hms] at HMB;have HE:=j7jb (zdo (f:=f) hlt HNS.out hm);clear hm hme hms;rcases hor with h|⟨h,h2⟩
       all_goals
        try have e1:=not_nb (n:=93) rfl h
        try have e1:=is_nb (n:=93) rfl h
        try have e2:=beq_iff_eq.2 (show (k:Int)=(n:Int)+1 by have:=HQ.out;omega)
        clear h
        try clear h2
        go_wp2_with (go_at_call 197;refine (HMB.out _ HXB.out (HM.out.below HB1.out) (by omega)).mono ?_;rintro e w2 ⟨rfl,hs2,hk2⟩;have HX2:=j7jb hs2;have HRB2:=j7jb (HRB.out.keeps hk2 (by omega));have HB2:=j7jb (ze HB1.out hk2 (fun k hk=>by omega));obtain ⟨r0,r1,r2,r3⟩:=HRB2.out.loads;rw [z7] at r0 r1 r2 r3;have rf:=HRB2.out.fr;haveI:Old w2 w.heap.size:=⟨HRB2.out.lt⟩;clear hs2 hk2)
        exact bodyPost_ret (v:=.tuple #[.agg #[.int .u64 0,.int .u64 0,.int .u64 0,.int .u64 0],.int .i64 0]) (by simp [results,Tryz.results196,go_sem,r0,r1,r2,r3]) rfl (BrP.none_ (HBN.out (HR.out.trans HE.out)) (below4 HB2.out _ _ _ _))
      | some x =>
       obtain ⟨g,e⟩:=x;have hme:memEnd p k=e:=by unfold memEnd;rw [hm]
       have hms:memSet p k f=fun c=>f c || g c:=by unfold memSet;rw [hm]
       rw [hme,hms] at HMB;have HE:=j7jb (zdp (f:=f) hlt HNS.out hm);have hee:=zbd hm;have d0:=beq_eq_false_iff_ne.2 (show ¬ (e:Int)=0 by omega);clear hm hme hms;rcases hor with h|⟨h,h2⟩
       all_goals
        try have e1:=not_nb (n:=93) rfl h
        try have e1:=is_nb (n:=93) rfl h
        try have e2:=beq_iff_eq.2 (show (k:Int)=(n:Int)+1 by have:=HQ.out;omega)
        clear h
        try clear h2
        go_wp2_with (go_at_call 197;refine (HMB.out _ HXB.out (HM.out.below HB1.out) (by omega)).mono ?_;rintro e w2 ⟨rfl,hs2,hk2⟩;have HX2:=j7jb hs2;have HRB2:=j7jb (HRB.out.keeps hk2 (by omega));have HB2:=j7jb (ze HB1.out hk2 (fun k hk=>by omega));obtain ⟨r0,r1,r2,r3⟩:=HRB2.out.loads;rw [z7] at r0 r1 r2 r3;have rf:=HRB2.out.fr;haveI:Old w2 w.heap.size:=⟨HRB2.out.lt⟩;clear hs2 hk2)
        go_roundw
        case rel=>exact ⟨e,_,by omega,by omega,rfl,HR.out.trans HE.out,HX2.out,HRB2.out,HB2.out⟩
        case measure=>simp [intOf];omega
    ·have HE:=j7jb (zdn (p:=p) (first:=q) (f:=f) (show p.length≤k by omega))
     have d1:=no hlt;have d2:p.length≤k:=by omega
     clear hlt;obtain ⟨r0,r1,r2,r3⟩:=HRB.out.loads;rw [z7] at r0 r1 r2 r3;have rf:=HRB.out.fr
     haveI:Old wr w.heap.size:=⟨HRB.out.lt⟩
     go_wp2;exact bodyPost_ret (v:=.tuple #[.agg #[.int .u64 0,.int .u64 0,.int .u64 0,.int .u64 0],.int .i64 0]) (by simp [results,Tryz.results196,go_sem,r0,r1,r2,r3]) rfl (BrP.none_ (HBN.out (HR.out.trans HE.out)) (below4 HB1.out _ _ _ _))
end Go.Proofs.YtfmecpnokefokaaGreatDoor.Pat
