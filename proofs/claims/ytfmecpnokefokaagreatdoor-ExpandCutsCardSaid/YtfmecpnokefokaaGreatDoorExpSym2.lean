/-
  What a name behind a dollar comes to, and what a cut leaves. No program in sight.
-/
import Derived.Test.YtfmecpnokefokaaGreatDoorTabPlain
import Derived.Test.YtfmecpnokefokaaGreatDoorModA
import Derived.Test.YtfmecpnokefokaaGreatDoorPartsA
import Derived.Test.YtfmecpnokefokaaGreatDoorClass2
set_option linter.unusedSimpArgs false
set_option linter.unusedVariables false
namespace Go.Proofs.YtfmecpnokefokaaGreatDoor.Ex
open Cls Md Mc Pa Li Pat
theorem zes {x:St} {l:List UInt8} (h:∀ b∈l,∀ p,Md.step x b.toNat p=x) (p:Nat):runK x p l=x:=by
 induction l generalizing p with
 | nil=>rfl
 | cons c r ih =>
  rw [runK,h c (List.mem_cons_self ..),ih fun b hb=>h b (List.mem_cons_of_mem _ hb)]
theorem zli {x:St} {l:List UInt8} {S:List Part×List Nat} (h:∀ b∈l,∀ p,Md.step x b.toNat p=x) (hS:∀ a,seeP a (frs x) S=S) (p:Nat):parK x p S l=S:=by
 induction l generalizing p with
 | nil=>rfl
 | cons c r ih =>
  rw [parK,h c (List.mem_cons_self ..),hS,ih fun b hb=>h b (List.mem_cons_of_mem _ hb)]
def Mild (b:UInt8):Prop:=b≠92∧b≠36∧b≠96∧b≠34∧b≠125∧b≠39
theorem toI {b:UInt8} {n:Nat} (hn:n<256) (h:b≠UInt8.ofNat n):((b.toNat:Int) == (n:Int))=false:=by
 rw [beq_eq_false_iff_ne]
 intro e
 refine h (UInt8.toNat_inj.1 ?_)
 rw [UInt8.toNat_ofNat']
 omega
theorem Mild.i {b:UInt8} (h:Mild b):((b.toNat:Int) == 92)=false∧((b.toNat:Int) == 36)=false∧((b.toNat:Int) == 96)=false∧((b.toNat:Int) == 34)=false∧((b.toNat:Int) == 125)=false∧((b.toNat:Int) == 39)=false :=
 ⟨toI (n:=92) (by decide) h.1,toI (n:=36) (by decide) h.2.1,toI (n:=96) (by decide) h.2.2.1,toI (n:=34) (by decide) h.2.2.2.1,toI (n:=125) (by decide) h.2.2.2.2.1,toI (n:=39) (by decide) h.2.2.2.2.2⟩
theorem mild_V {b:UInt8} (h:Mild b) (q:Nat) (r:List (UInt8×Nat)) (f:Bool) (p:Nat):Md.step ⟨(86,q) :: r,f⟩ b.toNat p=⟨(86,q) :: r,f⟩:=by
 obtain ⟨h1,h2,h3,h4,h5,h6⟩:=h.i
 simp [Md.step,St.top,topL,plain,h1,h2,h3,h4,h5,h6]
theorem mild_I {b:UInt8} (h:Mild b) (q:Nat) (r:List (UInt8×Nat)) (f:Bool) (p:Nat):Md.step ⟨(73,q) :: r,f⟩ b.toNat p=⟨(73,q) :: r,f⟩:=by
 obtain ⟨h1,h2,h3,h4,h5,h6⟩:=h.i
 simp [Md.step,St.top,topL,plain,h1,h2,h3,h4,h5,h6]
theorem zjt {b:UInt8} (h:nameB b=true):Mild b:=by
 refine ⟨?_,?_,?_,?_,?_,?_⟩ <;> (rintro rfl;revert h;decide)
theorem za7 {s:List UInt8} (h:isNameB s=true):∃ c r,s=c :: r∧letterB c=true∧(∀ b∈s,nameB b=true):=by
 unfold isNameB at h
 rw [Bool.and_eq_true,List.all_eq_true] at h
 cases s with
 | nil=>exact absurd h.1 (by decide)
 | cons c r=>exact ⟨c,r,rfl,h.1,h.2⟩
theorem zeb {f:UInt8→Bool}:∀ {s t:List UInt8},(∀ b∈s,f b=true)→(∀ b,t.head?=some b→f b=false)→((s++t).takeWhile f)=s
 | [],[],_,_=>rfl
 | [],b :: t,_,h=>by rw [List.nil_append,List.takeWhile_cons,if_neg (by rw [h b rfl];decide)]
 | c :: s,t,h,h2=>by rw [List.cons_append,List.takeWhile_cons,if_pos (h c (List.mem_cons_self ..)),zeb (fun b hb=>h b (List.mem_cons_of_mem _ hb)) h2]
theorem zid {s t pre:List UInt8} (h:isNameB s=true) (ht:∀ b,t.head?=some b→nameB b=false):paramN (pre++(s++t)) pre.length=s.length:=by
 obtain ⟨c,r,e,h1,h2⟩:=za7 h
 have hn:nameN (pre++(s++t)) pre.length=s.length:=by
  unfold nameN
  rw [List.drop_left]
  have h3:¬ (spanN letterB (s++t) == 0)=true:=by
   rw [e,List.cons_append]
   unfold spanN
   rw [List.takeWhile_cons,if_pos h1]
   simp
  rw [if_neg h3]
  unfold spanN
  rw [zeb h2 ht]
 unfold paramN
 have h4:s.length≠0:=by rw [e];simp
 rw [hn,if_pos h4]
theorem zgu:Md.step first 36 0=⟨[(76,0),(84,0)],false⟩:=rfl
def Flat (b:UInt8):Prop:=b≠92∧b≠36∧b≠96∧b≠34∧b≠39∧b≠35∧b≠40∧b≠41
theorem zju {b:UInt8} (h:nameB b=true):Flat b:=by
 refine ⟨?_,?_,?_,?_,?_,?_,?_,?_⟩ <;> (rintro rfl;revert h;decide)
theorem Flat.i {b:UInt8} (h:Flat b):((b.toNat:Int) == 92)=false∧((b.toNat:Int) == 36)=false∧((b.toNat:Int) == 96)=false∧((b.toNat:Int) == 34)=false∧((b.toNat:Int) == 39)=false∧((b.toNat:Int) == 35)=false∧((b.toNat:Int) == 40)=false∧((b.toNat:Int) == 41)=false :=
 ⟨toI (n:=92) (by decide) h.1,toI (n:=36) (by decide) h.2.1,toI (n:=96) (by decide) h.2.2.1,toI (n:=34) (by decide) h.2.2.2.1,toI (n:=39) (by decide) h.2.2.2.2.1,toI (n:=35) (by decide) h.2.2.2.2.2.1,toI (n:=40) (by decide) h.2.2.2.2.2.2.1,toI (n:=41) (by decide) h.2.2.2.2.2.2.2⟩
theorem step_top {b:UInt8} (h:Flat b) (f:Bool) (p:Nat):∃ g,Md.step ⟨[(84,0)],f⟩ b.toNat p=⟨[(84,0)],g⟩:=by
 obtain ⟨h1,h2,h3,h4,h6,h7,h8,h9⟩:=h.i
 exact ⟨endsI b.toNat,by simp [Md.step,St.top,topL,plain,Md.program,h1,h2,h3,h4,h6,h7,h8,h9,St.mark]⟩
theorem zjv {b:UInt8} (h:nameB b=true) (f:Bool) (p:Nat):∃ g,Md.step ⟨[(76,0),(84,0)],f⟩ b.toNat p=⟨[(84,0)],g⟩:=by
 have hm:=zjt h
 obtain ⟨h1,h2,h3,h4,h5,h6⟩:=hm.i
 have h7:((b.toNat:Int) == 35)=false:=toI (n:=35) (by decide) (by rintro rfl;revert h;decide)
 have h8:((b.toNat:Int) == 40)=false:=toI (n:=40) (by decide) (by rintro rfl;revert h;decide)
 have h9:((b.toNat:Int) == 41)=false:=toI (n:=41) (by decide) (by rintro rfl;revert h;decide)
 have h0:((b.toNat:Int) == 123)=false:=toI (n:=123) (by decide) (by rintro rfl;revert h;decide)
 exact ⟨endsI b.toNat,by simp [Md.step,St.top,St.under,St.pop,topL,plain,Md.program,h0,h1,h2,h3,h4,h6,h7,h8,h9,St.mark]⟩
theorem tops_run {l:List UInt8} (h:∀ b∈l,Flat b):∀ (f:Bool) (p:Nat),∃ g,runK ⟨[(84,0)],f⟩ p l=⟨[(84,0)],g⟩:=by
 induction l with
 | nil=>exact fun f _=>⟨f,rfl⟩
 | cons c r ih =>
  intro f p
  obtain ⟨g,hg⟩:=step_top (h c (List.mem_cons_self ..)) f p
  rw [runK,hg]
  exact ih (fun b hb=>h b (List.mem_cons_of_mem _ hb)) g _
theorem zlj {l:List UInt8} (h:∀ b∈l,Flat b) (L:List Part):∀ (f:Bool) (p:Nat),parK ⟨[(84,0)],f⟩ p (L,[]) l=(L,[]):=by
 induction l with
 | nil=>exact fun f _=>rfl
 | cons c r ih =>
  intro f p
  obtain ⟨g,hg⟩:=step_top (h c (List.mem_cons_self ..)) f p
  rw [parK,hg]
  exact ih (fun b hb=>h b (List.mem_cons_of_mem _ hb)) g _
theorem run_dol {s:List UInt8} (h:isNameB s=true):∃ g,run (36 :: s)=⟨[(84,0)],g⟩:=by
 obtain ⟨c,r,rfl,h1,h2⟩:=za7 h
 unfold run
 rw [runK,show ((36:UInt8).toNat:Int)=36 from rfl,zgu,runK]
 obtain ⟨g,hg⟩:=zjv (h2 c (List.mem_cons_self ..)) false 1
 rw [hg]
 exact tops_run (fun b hb=>zju (h2 b (List.mem_cons_of_mem _ hb))) g _
theorem par_dol {s:List UInt8} (h:isNameB s=true):par (36 :: s)=([⟨76,0,2,-1,false⟩],[]):=by
 obtain ⟨c,r,rfl,h1,h2⟩:=za7 h
 unfold par
 rw [parK,show ((36:UInt8).toNat:Int)=36 from rfl,zgu,parK]
 obtain ⟨g,hg⟩:=zjv (h2 c (List.mem_cons_self ..)) false 1
 rw [hg]
 exact zlj (fun b hb=>zju (h2 b (List.mem_cons_of_mem _ hb))) _ g _
theorem zqr {s:List UInt8} (h:isNameB s=true):partsL (36 :: s)=[⟨76,0,1+s.length,-1,false⟩]:=by
 have hp:paramN ([36]++(s++[])) 1=s.length:=zid (pre:=[36]) h (fun b hb=>by cases hb)
 rw [List.append_nil,List.singleton_append] at hp
 unfold partsL
 rw [par_dol h,List.map_singleton]
 unfold finP
 rw [if_pos rfl,hp]
theorem zos {s:List UInt8} (h:isNameB s=true):piecesL (36 :: s)=[⟨true,false,36 :: s⟩]:=by
 obtain ⟨c,r,rfl,h1,h2⟩:=za7 h
 unfold piecesL
 rw [zqr h]
 have ha:atP [⟨76,0,1+(c :: r).length,-1,false⟩] 0=some (⟨76,0,1+(c :: r).length,-1,false⟩:Part):=rfl
 rw [eachP,if_pos (by simp),ha]
 dsimp only
 rw [if_neg (by simp [loneP]),if_neg (by decide),if_neg (by decide)]
 have hs:subT (36 :: c :: r) 0 (1+(c :: r).length)=36 :: c :: r:=by
  unfold subT
  rw [List.drop_zero,List.take_of_length_le (by simp;omega)]
 rw [hs]
 have he:eachP (36 :: c :: r) [⟨76,0,1+(c :: r).length,-1,false⟩] (36 :: c :: r).length (1+(c :: r).length) []=[]:=by
  show eachP _ _ ((c :: r).length+1) _ _=_
  rw [eachP,if_neg (by simp;omega)]
  rfl
 rw [he]
 rfl
theorem zjw (s:List UInt8):∀ (f k:Nat) (pl:List UInt8),s.length<k+f→k≤s.length→eachP s [] f k pl=flushP (pl++s.drop k)
 | 0,k,pl,h,hk=>by omega
 | f+1,k,pl,h,hk=>by
  rw [eachP]
  split
  ·rename_i hlt
   rw [show atP [] k=none from rfl]
   dsimp only
   rw [zjw s f (k+1) _ (by omega) (by omega),List.append_assoc]
   congr 2
   rw [List.getD_eq_getElem?_getD,List.getElem?_eq_getElem hlt,Option.getD_some,List.singleton_append,← List.drop_eq_getElem_cons hlt]
  ·rw [List.drop_eq_nil_of_le (by omega),List.append_nil]
theorem zgv {s:List UInt8} (h:∀ b∈s,Flat b):piecesL s=flushP s:=by
 have hL:partsL s=[]:=by
  unfold partsL par
  rw [show first=⟨[(84,0)],true⟩ from rfl,zlj h]
  rfl
 unfold piecesL
 rw [hL,zjw s _ 0 [] (by omega) (by omega)]
 rfl
theorem zqs {s:List UInt8} (h:∀ b∈s,Mild b):runK first 0 (36 :: 123 :: (s++[125]))=⟨[(84,0)],false⟩:=by
 rw [runK,runK,show Md.step (Md.step first ((36:UInt8).toNat:Int) 0) ((123:UInt8).toNat:Int) (0+1)=⟨[(86,0),(84,0)],false⟩ from rfl,zd3,zes (fun b hb p=>mild_V (h b hb) 0 _ false p)]
 rfl
theorem zqt {s:List UInt8} (h:∀ b∈s,Mild b):par (36 :: 123 :: (s++[125]))=([⟨86,0,s.length+3,-1,false⟩],[]):=by
 unfold par
 rw [parK,parK,show Md.step (Md.step first ((36:UInt8).toNat:Int) 0) ((123:UInt8).toNat:Int) (0+1)=⟨[(86,0),(84,0)],false⟩ from rfl]
 rw [show seeP (0+1) (frs ⟨[(86,0),(84,0)],false⟩) (seeP 0 (frs (Md.step first ((36:UInt8).toNat:Int) 0)) ([],[]))=([⟨86,0,0,-1,true⟩],[0]) from rfl]
 rw [zd5,zli (fun b hb p=>mild_V (h b hb) 0 _ false p) (fun _=>rfl),zes (fun b hb p=>mild_V (h b hb) 0 _ false p)]
 rw [show s.length+3=0+1+1+s.length+1 by omega]
 rfl
theorem zlk {s:List UInt8} (h:∀ b∈s,Mild b):piecesL (36 :: 123 :: (s++[125]))=[⟨true,false,36 :: 123 :: (s++[125])⟩]:=by
 have hL:partsL (36 :: 123 :: (s++[125]))=[⟨86,0,s.length+3,-1,false⟩]:=by
  unfold partsL
  rw [zqt h]
  rfl
 unfold piecesL
 rw [hL]
 have hlen:(36 :: 123 :: (s++[125]):List UInt8).length=s.length+3:=by simp
 generalize 36 :: 123 :: (s++[125])=t at *
 rw [eachP,if_pos (by omega),show atP [⟨86,0,s.length+3,-1,false⟩] 0=some (⟨86,0,s.length+3,-1,false⟩:Part) from rfl]
 dsimp only
 rw [if_neg (by simp [loneP]),if_neg (by decide),if_neg (by decide)]
 have hs:subT t 0 (s.length+3)=t:=by
  unfold subT
  rw [List.drop_zero,List.take_of_length_le (by omega)]
 rw [hs]
 have he:eachP t [⟨86,0,s.length+3,-1,false⟩] t.length (s.length+3) []=[]:=by
  rw [hlen,eachP,if_neg (by omega)]
  rfl
 rw [he]
 rfl
theorem zot {s:List UInt8} (h:∀ b∈s,Mild b):runK first 0 (34 :: 36 :: 123 :: (s++[125]))=⟨[(68,0),(84,0)],false⟩:=by
 rw [runK,runK,runK,show Md.step (Md.step (Md.step first ((34:UInt8).toNat:Int) 0) ((36:UInt8).toNat:Int) (0+1)) ((123:UInt8).toNat:Int) (0+1+1)=⟨[(73,1),(68,0),(84,0)],false⟩ from rfl,zd3,zes (fun b hb p=>mild_I (h b hb) 1 _ false p)]
 rfl
theorem zou {s:List UInt8} (h:∀ b∈s,Mild b):par (34 :: 36 :: 123 :: (s++[125,34]))=([⟨68,0,s.length+5,-1,false⟩,⟨73,1,s.length+4,0,false⟩],[]):=by
 unfold par
 rw [parK,parK,parK,show Md.step (Md.step (Md.step first ((34:UInt8).toNat:Int) 0) ((36:UInt8).toNat:Int) (0+1)) ((123:UInt8).toNat:Int) (0+1+1)=⟨[(73,1),(68,0),(84,0)],false⟩ from rfl]
 rw [show seeP (0+1+1) (frs ⟨[(73,1),(68,0),(84,0)],false⟩) (seeP (0+1) (frs (Md.step (Md.step first ((34:UInt8).toNat:Int) 0) ((36:UInt8).toNat:Int) (0+1))) (seeP 0 (frs (Md.step first ((34:UInt8).toNat:Int) 0)) ([],[])))=([⟨68,0,0,-1,true⟩,⟨73,1,0,0,true⟩],[0,1]) from rfl]
 rw [zd5,zli (fun b hb p=>mild_I (h b hb) 1 _ false p) (fun _=>rfl),zes (fun b hb p=>mild_I (h b hb) 1 _ false p)]
 rw [show s.length+5=0+1+1+1+s.length+1+1 by omega,show s.length+4=0+1+1+1+s.length+1 by omega]
 rfl
theorem zk0 {s:List UInt8} (h:∀ b∈s,Mild b):piecesL (34 :: 36 :: 123 :: (s++[125,34]))=[⟨true,true,36 :: 123 :: (s++[125])⟩]:=by
 have hL:partsL (34 :: 36 :: 123 :: (s++[125,34]))=[⟨68,0,s.length+5,-1,false⟩,⟨73,1,s.length+4,0,false⟩]:=by
  unfold partsL
  rw [zou h]
  rfl
 unfold piecesL
 rw [hL]
 have hlen:(34 :: 36 :: 123 :: (s++[125,34]):List UInt8).length=s.length+5:=by simp
 have hsub:subT (34 :: 36 :: 123 :: (s++[125,34])) 1 (s.length+4)=36 :: 123 :: (s++[125]):=by
  unfold subT
  rw [show (34 :: 36 :: 123 :: (s++[125,34]):List UInt8)=(34 :: 36 :: 123 :: (s++[125]))++[34] by simp,List.take_append_of_le_length (by simp),List.take_of_length_le (by simp)]
  rfl
 generalize 36 :: 123 :: (s++[125])=v at *
 generalize 34 :: 36 :: 123 :: (s++[125,34])=t at *
 rw [eachP,if_pos (by omega),show atP [⟨68,0,s.length+5,-1,false⟩,⟨73,1,s.length+4,0,false⟩] 0=some (⟨68,0,s.length+5,-1,false⟩:Part) from rfl]
 dsimp only
 rw [if_neg (by simp [loneP]),if_neg (by decide),if_pos rfl]
 have hF:insF ⟨68,0,s.length+5,-1,false⟩=1:=by show 0+headI (mo 68)=1;decide
 have hT:insT ⟨68,0,s.length+5,-1,false⟩=s.length+4:=by
  unfold insT
  rw [hF]
  show max (s.length+5 - tailI (mo 68) false) 1=_
  rw [show tailI (mo 68) false=1 from by decide]
  omega
 rw [hF,hT]
 have hd:dblP t [⟨68,0,s.length+5,-1,false⟩,⟨73,1,s.length+4,0,false⟩] (s.length+4) (t.length+1) 1 [] false=[⟨true,true,v⟩]:=by
  rw [dblP,if_pos (by omega),show atP [⟨68,0,s.length+5,-1,false⟩,⟨73,1,s.length+4,0,false⟩] 1=some (⟨73,1,s.length+4,0,false⟩:Part) from rfl]
  dsimp only
  rw [if_neg (by simp [loneP]),if_neg (by decide),if_pos rfl,hsub,hlen,dblP,if_neg (by omega),if_pos ⟨rfl,rfl⟩]
  rfl
 have he:eachP t [⟨68,0,s.length+5,-1,false⟩,⟨73,1,s.length+4,0,false⟩] t.length (s.length+5) []=[]:=by
  rw [hlen,eachP,if_neg (by omega)]
  rfl
 rw [hd,he]
 rfl
end Go.Proofs.YtfmecpnokefokaaGreatDoor.Ex
namespace Go.Proofs.YtfmecpnokefokaaGreatDoor.Ex
open Cls Md Mc Pa Li Pat
theorem zhe {g:Look} {f:Nat} {w t:List UInt8} {p:Pc} (hp:piecesL w=[p]) (hx:p.ex=true) (ho:oneG (textG g f) (patG g f) g p=(t,0)) (hl:t.length≤1048576):textG g (f+1) w=(t,0):=by
 unfold textG
 rw [za5,hp]
 simp [tellE,takeE,stepE,hx,ho,errE,txL,hl]
theorem one_dol {T P:List UInt8→Res} {g:Look} {s:List UInt8} (h:isNameB s=true):oneG T P g ⟨true,false,36 :: s⟩=((g s).getD [],0):=by
 obtain ⟨c,r,rfl,h1,h2⟩:=za7 h
 have ho:openG ⟨true,false,36 :: c :: r⟩=false:=by
  obtain ⟨q,hq⟩:=run_dol h
  unfold openG
  dsimp only
  rw [if_neg (by decide),hq]
  rfl
 have n1:c≠123:=by rintro rfl;revert h1;decide
 have n2:c≠40:=by rintro rfl;revert h1;decide
 unfold oneG
 rw [if_neg (by rw [ho];decide)]
 dsimp only
 rw [if_neg (by simp [n1]),if_neg (by simp [n2])]
 rfl
theorem text_dol {g:Look} {f:Nat} {s:List UInt8} (h:isNameB s=true) (hl:((g s).getD []).length≤1048576):textG g (f+1) (36 :: s)=((g s).getD [],0) :=
 zhe (zos h) rfl (one_dol h) hl
theorem zqu {T P:List UInt8→Res} {g:Look} {s:List UInt8} (h:∀ b∈s,Mild b):oneG T P g ⟨true,false,36 :: 123 :: (s++[125])⟩=braG T P g s false:=by
 have ho:openG ⟨true,false,36 :: 123 :: (s++[125])⟩=false:=by
  unfold openG
  dsimp only
  rw [if_neg (by decide)]
  unfold run
  rw [zqs h]
  rfl
 unfold oneG
 rw [if_neg (by rw [ho];decide)]
 dsimp only
 rw [if_pos (by simp)]
 congr 1
 rw [show (36 :: 123 :: (s++[125]):List UInt8)=(36 :: 123 :: s)++[125] by simp,List.take_append_of_le_length (by simp),List.take_of_length_le (by simp)]
 rfl
theorem zov {T P:List UInt8→Res} {g:Look} {s:List UInt8} (h:∀ b∈s,Mild b):oneG T P g ⟨true,true,36 :: 123 :: (s++[125])⟩=braG T P g s true:=by
 have ho:openG ⟨true,true,36 :: 123 :: (s++[125])⟩=false:=by
  unfold openG
  dsimp only
  rw [if_pos rfl]
  unfold run
  rw [zot h]
  rfl
 unfold oneG
 rw [if_neg (by rw [ho];decide)]
 dsimp only
 rw [if_pos (by simp)]
 congr 1
 rw [show (36 :: 123 :: (s++[125]):List UInt8)=(36 :: 123 :: s)++[125] by simp,List.take_append_of_le_length (by simp),List.take_of_length_le (by simp)]
 rfl
theorem zet {g:Look} {f:Nat} {s t:List UInt8} (h:∀ b∈s,Mild b) (hb:braG (textG g f) (patG g f) g s false=(t,0)) (hl:t.length≤1048576):textG g (f+1) (36 :: 123 :: (s++[125]))=(t,0) :=
 zhe (zlk h) rfl ((zqu h).trans hb) hl
theorem zm3 {g:Look} {f:Nat} {s t:List UInt8} (h:∀ b∈s,Mild b) (hb:braG (textG g f) (patG g f) g s true=(t,0)) (hl:t.length≤1048576):textG g (f+1) (34 :: 36 :: 123 :: (s++[125,34]))=(t,0) :=
 zhe (zk0 h) rfl ((zov h).trans hb) hl
theorem zeu {T P:List UInt8→Res} {g:Look} {s r:List UInt8} {q:Bool} (h:isNameB s=true) (hr:∀ b,r.head?=some b→nameB b=false) :
  braG T P g (s++r) q=(if opG r=[] then (if r≠[] then ([],4) else ((g s).getD [],0))
    else if opG r=[58,61]∨opG r=[61]∨opG r=[58,63]∨opG r=[63] then ([],8)
    else if opG r=[58,45]∨opG r=[45]∨opG r=[58,43]∨opG r=[43] then
     (if (chooseG ((g s).getD []) (g s).isSome (opG r)).2=true then T (if q=true then 34 :: (r.drop (opG r).length++[34]) else r.drop (opG r).length) else ((chooseG ((g s).getD []) (g s).isSome (opG r)).1,0))
    else if (P (if q=true then 34 :: (r.drop (opG r).length++[34]) else r.drop (opG r).length)).2≠0 then ([],(P (if q=true then 34 :: (r.drop (opG r).length++[34]) else r.drop (opG r).length)).2)
    else (cutG ((g s).getD []) (opG r) (P (if q=true then 34 :: (r.drop (opG r).length++[34]) else r.drop (opG r).length)).1,0)):=by
 obtain ⟨c,u,e,h1,h2⟩:=za7 h
 have hp:paramN (s++r) 0=s.length:=zid (pre:=[]) h hr
 have h0:s.length≠0:=by rw [e];simp
 have hh:¬ (s++r).head?=some 35:=by
  rw [e]
  simp only [List.cons_append,List.head?_cons,Option.some.injEq]
  rintro rfl
  revert h1
  decide
 unfold braG
 rw [if_neg (fun k=>hh k.1),hp,if_neg h0]
 dsimp only
 rw [List.take_left,List.drop_left,← List.drop_drop,List.drop_left,List.length_append]
 have:(s.length<s.length+r.length) ↔ r≠[]:=by rw [← List.length_pos_iff];omega
 simp only [this]
theorem zjx {g:Look} {f:Nat} {w:List UInt8} (h:∀ b∈w,Flat b) (hl:w.length≤1048576):textG g (f+1) w=(w,0):=by
 unfold textG
 rw [za5,zgv h]
 unfold flushP
 split
 ·rename_i e;subst e;rfl
 ·simp [tellE,takeE,stepE,errE,txL,hl]
theorem pat_word {g:Look} {f:Nat} {w:List UInt8} (h:∀ b∈w,Flat b) (hl:w.length≤1048576):patG g (f+1) w=(w,0):=by
 unfold patG
 rw [za5,zgv h]
 unfold flushP
 split
 ·rename_i e;subst e;rfl
 ·simp [tellE,takeE,stepE,errE,patC,hl]
theorem zev {s r:List UInt8} (h:isNameB s=true) (hr:∀ b∈r,Mild b):∀ b∈s++r,Mild b:=fun b hb=>by
 obtain ⟨c,u,e,h1,h2⟩:=za7 h
 rcases List.mem_append.1 hb with q|q
 ·exact zjt (h2 b q)
 ·exact hr b q
theorem text_quo {g:Look} {f:Nat} {s:List UInt8} (h:isNameB s=true) (hl:((g s).getD []).length≤1048576):textG g (f+1) (34 :: 36 :: 123 :: (s++[125,34]))=((g s).getD [],0):=by
 have hb:=zeu (T:=textG g f) (P:=patG g f) (g:=g) (q:=true) (r:=[]) h (fun b hb=>by cases hb)
 rw [List.append_nil,show opG []=[] from rfl,if_pos rfl,if_neg (by simp)] at hb
 have hm:=zev h (r:=[]) (fun b hb=>by cases hb)
 rw [List.append_nil] at hm
 exact zm3 hm hb hl
theorem zqv {g:Look} {f:Nat} {s:List UInt8} (h:isNameB s=true) (hl:((g s).getD []).length≤1048576):textG g (f+2) (36 :: 123 :: (s++[45,110,111,110,101]++[125]))=(if (g s).isSome=true then (g s).getD [] else [110,111,110,101],0):=by
 have hb:=zeu (T:=textG g (f+1)) (P:=patG g (f+1)) (g:=g) (q:=false) (r:=[45,110,111,110,101]) h (fun b hb=>by cases hb;decide)
 rw [show opG [45,110,111,110,101]=[45] from by decide,if_neg (by decide),if_neg (by decide),if_pos (by decide)] at hb
 have ht:textG g (f+1) [110,111,110,101]=([110,111,110,101],0):=zjx (by unfold Flat;decide) (by decide)
 have hm:=zev h (r:=[45,110,111,110,101]) (by unfold Mild;decide)
 refine zet hm (hb.trans ?_) ?_
 ·rw [if_neg (show ¬ false=true by decide),show List.drop ([45]:List UInt8).length ([45,110,111,110,101]:List UInt8)=[110,111,110,101] from rfl,ht]
  cases (g s).isSome <;> rfl
 ·split
  ·exact hl
  ·decide
theorem zqw {g:Look} {f:Nat} {s:List UInt8} (h:isNameB s=true):textG g (f+2) (36 :: 123 :: (s++[43,115,111,109,101]++[125]))=(if (g s).isSome=true then [115,111,109,101] else [],0):=by
 have hb:=zeu (T:=textG g (f+1)) (P:=patG g (f+1)) (g:=g) (q:=false) (r:=[43,115,111,109,101]) h (fun b hb=>by cases hb;decide)
 rw [show opG [43,115,111,109,101]=[43] from by decide,if_neg (by decide),if_neg (by decide),if_pos (by decide)] at hb
 have ht:textG g (f+1) [115,111,109,101]=([115,111,109,101],0):=zjx (by unfold Flat;decide) (by decide)
 have hm:=zev h (r:=[43,115,111,109,101]) (by unfold Mild;decide)
 refine zet hm (hb.trans ?_) ?_
 ·rw [if_neg (show ¬ false=true by decide),show List.drop ([43]:List UInt8).length ([43,115,111,109,101]:List UInt8)=[115,111,109,101] from rfl,ht]
  cases (g s).isSome <;> rfl
 ·split <;> decide
theorem zew {g:Look} {f:Nat} {v op p:List UInt8} (hg:g [118]=some v) (ho:opG (op++p)=op) (hc:op=[37]∨op=[37,37]∨op=[35]∨op=[35,35]) (hp:∀ b∈p,Flat b∧Mild b) (hl:p.length≤1048576) (hv:v.length≤1048576) :
  textG g (f+2) (36 :: 123 :: ([118]++(op++p)++[125]))=(cutG v op p,0):=by
 have hb:=zeu (T:=textG g (f+1)) (P:=patG g (f+1)) (g:=g) (q:=false) (s:=[118]) (r:=op++p) (by decide) (fun b hb=>by
  rcases hc with rfl|rfl|rfl|rfl <;> (cases hb;decide))
 have hpw:patG g (f+1) p=(p,0):=pat_word (fun b hb=>(hp b hb).1) hl
 rw [ho,if_neg (show (false=true)→False from by decide),List.drop_left,hpw,hg] at hb
 have hm:=zev (s:=[118]) (r:=op++p) (by decide) (fun b hb=>by
  rcases List.mem_append.1 hb with q|q
  ·rcases hc with rfl|rfl|rfl|rfl <;> (simp at q;subst q;unfold Mild;decide)
  ·exact (hp b q).2)
 refine zet hm (hb.trans ?_) ?_
 ·rcases hc with rfl|rfl|rfl|rfl <;> rfl
 ·unfold cutG
  split
  ·dsimp only;split
   ·exact hv
   ·rw [List.length_take];omega
  ·dsimp only;split
   ·exact hv
   ·rw [List.length_drop];omega
theorem zll {p:List UInt8→Bool} (h:p []=true):∀ s,ends p s=true
 | []=>by simpa [ends] using h
 | c :: r=>by rw [ends,zll h r,Bool.or_true]
theorem znt (a:List UInt8):gm (parse [42]) a=true:=by
 rw [show parse [42]=[.many] from rfl,zce]
 exact zll (by rw [gm_nil];rfl) a
theorem zi3 (f:Nat→Bool) (h:∀ k,f k=true):∀ n,evs f (n+1)≠[]∧(evs f (n+1)).headD 0=0
 | 0=>by rw [zbm (h 0)];exact ⟨by simp [evs],rfl⟩
 | n+1=>by
  obtain ⟨h1,h2⟩:=zi3 f h n
  rw [zbm (h (n+1))]
  refine ⟨by simp,?_⟩
  cases he:evs f (n+1) with
  | nil=>exact absurd he h1
  | cons a r=>rw [he] at h2;exact h2
theorem zlm (v:List UInt8):cutG v [37,37] [42]=[]∧cutG v [35] [42]=v:=by
 constructor
 ·obtain ⟨h1,h2⟩:=zi3 (fun n=>gm (parse [42]) (v.drop n)) (fun k=>znt _) v.length
  unfold cutG
  rw [if_pos (.inr rfl)]
  dsimp only
  rw [if_neg h1,if_pos rfl,h2]
  rfl
 ·obtain ⟨h1,h2⟩:=zi3 (fun n=>gm (parse [42]) (v.take n)) (fun k=>znt _) v.length
  unfold cutG
  rw [if_neg (by decide)]
  dsimp only
  rw [if_neg h1,if_neg (by decide),h2]
  rfl
theorem cut_head (v p:List UInt8):∃ k,cutG v [37] p=v.take k:=by
 unfold cutG
 rw [if_pos (.inl rfl)]
 dsimp only
 split
 ·exact ⟨v.length,(List.take_length ..).symm⟩
 ·exact ⟨_,rfl⟩
theorem cut_tail (v p:List UInt8):∃ k,cutG v [35,35] p=v.drop k:=by
 unfold cutG
 rw [if_neg (by decide)]
 dsimp only
 split
 ·exact ⟨0,rfl⟩
 ·exact ⟨_,rfl⟩
end Go.Proofs.YtfmecpnokefokaaGreatDoor.Ex
