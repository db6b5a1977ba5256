/-
  The walks of ref25, on: Braces. Conditions: texts of at most 30000 bytes; values of at most 2^20 bytes. (Printed by gen_refbra.py.)
-/
import Derived.Test.YtfmecpnokefokaaGreatDoorExp20
import Derived.Test.YtfmecpnokefokaaGreatDoorPat18
import Derived.Test.YtfmecpnokefokaaGreatDoorRefPar
set_option linter.unusedSimpArgs false
set_option linter.unusedVariables false
namespace Go.Proofs.YtfmecpnokefokaaGreatDoor.Ex
open Go.ChangeShapes Go.WideShapes Go.Deep Go.RowKit Cls Md Mc Pa Li Pat Bd
set_option maxRecDepth 100000
theorem _root_.Go.Proofs.YtfmecpnokefokaaGreatDoor.j7g {p:Prop} (h:p):Go.RowKit.Hid p:=Go.Lib.hid h
def opR:List UInt8→List UInt8
 | []=>[]
 | [c]=>[c]
 | c :: d :: _=>if c=58 then [58,d] else if (c=37∨c=35)∧d=c then [c,c] else [c]
def OutOne (c:UInt8):Prop:=c≠61∧c≠63∧c≠45∧c≠43∧c≠37∧c≠35
def OutTwo (d:UInt8):Prop:=d≠61∧d≠63∧d≠45∧d≠43
theorem zd1 (c d:UInt8) (t:List UInt8):opR (c :: d :: t)=if c=58 then [58,d] else if (c=37∨c=35)∧d=c then [c,c] else [c]:=rfl
theorem opR_ok (s:List UInt8) (h:s≠[]):(opG s=opR s∧((opR s=[58,61]∨opR s=[61]∨opR s=[58,63]∨opR s=[63])∨Four (opR s)∨Cuts (opR s))) ∨
  (opG s=[]∧((∃ c,opR s=[c]∧OutOne c)∨(∃ d,opR s=[58,d]∧OutTwo d))):=by
 have one:∀ c:UInt8,(c=45∨c=43∨c=61∨c=63∨c=37∨c=35)→(([c]:List UInt8)=[58,61]∨([c]:List UInt8)=[61]∨([c]:List UInt8)=[58,63]∨([c]:List UInt8)=[63])∨Four [c]∨Cuts [c]:=by
  intro c h;unfold Four Cuts
  rcases h with rfl|rfl|rfl|rfl|rfl|rfl <;> simp
 have out:∀ c:UInt8,¬ (c=45∨c=43∨c=61∨c=63∨c=37∨c=35)→OutOne c:=by
  intro c h;unfold OutOne
  refine ⟨?_,?_,?_,?_,?_,?_⟩ <;> (rintro rfl;exact h (by simp))
 match s,h with
 | [c],_ =>
  unfold opG opR;dsimp only;by_cases h1:c=58
  ·subst h1
   exact .inr ⟨by rw [if_pos rfl],.inl ⟨_,rfl,out _ (by decide)⟩⟩
  ·rw [if_neg h1,if_neg (by simp)]
   by_cases h2:c=45∨c=43∨c=61∨c=63∨c=37∨c=35
   ·exact .inl ⟨if_pos h2,one c h2⟩
   ·exact .inr ⟨if_neg h2,.inl ⟨_,rfl,out c h2⟩⟩
 | c :: d :: t,_ =>
  unfold opG opR;dsimp only;by_cases h1:c=58
  ·subst h1
   rw [if_pos rfl,if_pos rfl];by_cases h2:d=45∨d=43∨d=61∨d=63
   ·refine .inl ⟨if_pos h2,?_⟩
    unfold Four Cuts
    rcases h2 with rfl|rfl|rfl|rfl <;> simp
   ·refine .inr ⟨if_neg h2,.inr ⟨d,rfl,?_⟩⟩
    unfold OutTwo
    refine ⟨?_,?_,?_,?_⟩ <;> (rintro rfl;exact h2 (by simp))
  ·rw [if_neg h1,if_neg h1]
   by_cases h3:(c=37∨c=35)∧d=c
   ·rw [if_pos (show (c=37∨c=35)∧(d :: t).head?=some c from ⟨h3.1,by rw [h3.2];rfl⟩),if_pos h3]
    refine .inl ⟨rfl,?_⟩;unfold Four Cuts
    rcases h3.1 with rfl|rfl <;> simp
   ·rw [if_neg (show ¬ ((c=37∨c=35)∧(d :: t).head?=some c) from fun k=>h3 ⟨k.1,by simpa using k.2⟩),if_neg h3]
    by_cases h2:c=45∨c=43∨c=61∨c=63∨c=37∨c=35
    ·exact .inl ⟨if_pos h2,one c h2⟩
    ·exact .inr ⟨if_neg h2,.inl ⟨_,rfl,out c h2⟩⟩
theorem opR_len (s:List UInt8) (h:s≠[]):1≤(opR s).length∧(opR s).length≤s.length∧(opR s).length≤2:=by
 match s,h with
 | [c],_=>exact ⟨Nat.le_refl _,Nat.le_refl _,by show 1≤2;omega⟩
 | c :: d :: t,_ =>
  rw [zd1]
  split
  ·simp
  ·split <;> simp
theorem opR_head {c:UInt8} {r:List UInt8}:(opR (c :: r)).head?=some c:=by
 cases r with
 | nil=>rfl
 | cons d t =>
  rw [zd1]
  split
  ·rename_i h;subst h;rfl
  ·split <;> rfl
theorem zfc {v op:List UInt8} {has:Bool} {X:Res} (h:(op.getLast? == some 43)=false):(if (chooseG v has op).2=true then X else ((chooseG v has op).1,0))=if (if op.head?=some 58 then has && v != [] else has)=true then (v,0) else X:=by
 unfold chooseG;rw [h];generalize (if op.head?=some 58 then has && v != [] else has)=b
 cases b <;> rfl
theorem zgd {v op:List UInt8} {has:Bool} {X:Res} (h:(op.getLast? == some 43)=true):(if (chooseG v has op).2=true then X else ((chooseG v has op).1,0))=if (if op.head?=some 58 then has && v != [] else has)=true then X else ([],0):=by
 unfold chooseG;rw [h];generalize (if op.head?=some 58 then has && v != [] else has)=b
 cases b <;> rfl
theorem ne_i {c:UInt8} {n:Nat} (hn:n<256) (h:c≠UInt8.ofNat n):((c.toNat:Int) == (n:Int))=false:=by
 rw [beq_eq_false_iff_ne];intro e;refine h (UInt8.toNat_inj.1 ?_);rw [UInt8.toNat_ofNat'];omega
set_option maxHeartbeats 6400000 in
theorem zhq {w0:World} {vv:Value} {g:Look} {T P:List UInt8→Res} (s:List UInt8) (q:Bool) (hg:GetR w0 vv g) (hgl:∀ a v,g a=some v→v.length≤1048576) (hs:s.length≤30000)
  (hT:WordC w0 vv 18 T s.length) (hP:WordC w0 vv 19 P s.length) (hPl:∀ u,(P u).1.length≤2097152) :
  Calls Tryz.prog 40 #[vv,.string (B s),.bool q] w0 (ResP (braG T P g s q) w0):=by
 have HP1:=j7g fun (h:1≤s.length) W=>zc5 s 1 W (by omega) h;have HP0:=j7g fun W=>zc5 s 0 W (by omega) (by omega);have hn1:=za3 s 1;have hn0:=za3 s 0
 have hgl':∀ a,((g a).getD []).length≤1048576:=fun a=>by
  cases h:g a with
  | none=>simp
  | some v=>exact hgl a v h
 have HG:=j7g fun (a:List UInt8) (W:World) (hW:Below w0.heap.size w0 W) (ha:a.length≤30000)=>hg a W hW (by omega);by_cases c1:s.head?=some 35∧0<paramN s 1∧1+paramN s 1=s.length
 ·have HR:=j7g (show braG T P g s q=(Lib.decDigits ((g (s.drop 1)).getD []).length,0) by unfold braG;rw [if_pos c1])
  obtain ⟨c1,c2,c3⟩:=c1;obtain ⟨r,rfl⟩:∃ r,s=35 :: r:=by cases s with|nil=>cases c1|cons a r=>injection c1 with c1;exact ⟨r,by rw [c1]⟩
  have HG1:=j7g fun W (hW:Below w0.heap.size w0 W)=>HG.out r W hW (by simp at hs;omega);have hlen:=hgl' r;rw [List.drop_one,List.tail_cons] at HR;generalize (g r).getD []=v at *;generalize (if (g r).isSome=true then (1:Int) else 0)=has at *;have HI:=j7g fun W=>zj8 v.length W (by omega);replace HP1:=j7g (HP1.out (by simp));generalize paramN (35 :: r) 1=n1 at *;have d1:decide ((0:Int)<(n1:Int))=true:=decide_eq_true (by omega);have d3:n1=r.length:=by simp at c3;omega
  subst d3;have d4:IntKind.i64.wrap ((r.length:Int)+1 - 1)=(r.length:Int):=by rw [IntWalk.i64_in _ (by simp at hs;omega)];omega
  have d5:(r.length:Int)+1 - 1=(r.length:Int):=by omega
  go_enter Tryz.func40,Tryz.ntmps40
  go_wp2_with (first
   | (go_at_call 66;refine (HP1.out _).mono ?_;rintro e w1 ⟨rfl,rfl⟩)
   | (go_at_call 41;refine (HG1.out _ (Below.refl _ _)).mono ?_;rintro e w2 ⟨rfl,rfl⟩)
   | (go_at_call 67;refine (HI.out _).mono ?_;rintro e w3 ⟨rfl,rfl⟩))
  go_ret2;exact ⟨by rw [HR.out];rfl,Below.refl _ _⟩
 have HC1:=j7g c1;clear c1;go_enter Tryz.func40,Tryz.ntmps40;go_upto_region 1 with fail
 go_cut [27] from 21 to 26 (fun s27 wx=>s27 = .bool (s.head? == some 35)∧w0=wx)
 case first =>
  clear HG HP0 hgl' hn0 hT hP hPl hg hgl HP1 hn1 HC1
  cases s with
  | nil =>
   go_wp2_with fail;go_meet;exact ⟨rfl,rfl⟩
  | cons c r =>
   by_cases hc:c=35
   ·subst hc
    go_wp2_with fail;go_meet;exact ⟨rfl,rfl⟩
   ·have t1:((c.toNat:Int) == 35)=false:=ne_i (n:=35) (by decide) hc
    have t2:((c :: r).head? == some 35)=false:=by simpa using hc
    have T2:=j7g t2;clear hc t2;go_wp2_with fail;go_meet;exact ⟨by rw [T2.out],rfl⟩
 case rest =>
 obtain ⟨rfl,rfl⟩:=hcut;generalize hhb:(s.head? == some 35)=hb at *;have HHB:=j7g hhb;clear hhb;go_upto_if 27 with fail
 go_cut [7,8] from 28 to 48 (fun s7 s8 wx=>s7 = .int .i64 0∧w0=wx)
 case first =>
  clear HG HP0 hgl' hn0 hT hP hPl hg hgl
  cases hb with
  | false =>
   go_wp2_with fail;go_meet;exact ⟨rfl,rfl⟩
  | true =>
   obtain ⟨r,rfl⟩:∃ r,s=35 :: r:=by
    have hh:=HHB.out
    cases s with
    | nil=>cases hh
    | cons c r=>simp at hh;exact ⟨r,by rw [hh]⟩
   clear HHB;have d7:IntKind.i64.wrap (r.length:Int)=(r.length:Int):=by rw [IntWalk.i64_in _ (by simp at hs;omega)]
   have h1:=HC1.out;replace HP1:=j7g (HP1.out (by simp));have d4:IntKind.i64.wrap ((r.length:Int)+1 - 1)=(r.length:Int):=by rw [IntWalk.i64_in _ (by simp at hs;omega)];omega
   have d5:(r.length:Int)+1 - 1=(r.length:Int):=by omega
   generalize paramN (35 :: r) 1=n1 at *;by_cases h2:0<n1
   ·have d1:decide ((0:Int)<(n1:Int))=true:=decide_eq_true (by omega)
    have d2:((n1:Int) == (r.length:Int))=false:=by
     rw [beq_eq_false_iff_ne];intro h;exact h1 ⟨rfl,h2,by simp;omega⟩
    have d3:n1≠r.length:=fun h=>h1 ⟨rfl,h2,by simp;omega⟩;have d6:(n1 == r.length)=false:=by simpa using d3
    clear h1
    go_wp2_with (go_at_call 66;refine (HP1.out _).mono ?_;rintro e w1 ⟨rfl,rfl⟩)
    go_meet;exact ⟨rfl,rfl⟩
   ·have d1:=no (show ¬ (0:Int)<(n1:Int) by omega)
    clear h1
    go_wp2_with (go_at_call 66;refine (HP1.out _).mono ?_;rintro e w1 ⟨rfl,rfl⟩)
    go_meet;exact ⟨rfl,rfl⟩
 case rest =>
  obtain ⟨rfl,rfl⟩:=hcut;by_cases h0:paramN s 0=0
  ·have HR:=j7g (show braG T P g s q=([],4) by unfold braG;rw [if_neg HC1.out,if_pos h0])
   rw [h0] at HP0;clear h0
   go_wp2_with (go_at_call 66;refine (HP0.out _).mono ?_;rintro e w2 ⟨rfl,rfl⟩)
   go_ret2;exact ⟨by rw [HR.out];rfl,Below.refl _ _⟩
  have hbr:braG T P g s q=(if opG (s.drop (paramN s 0))=[] then (if paramN s 0<s.length then ([],4) else ((g (s.take (paramN s 0))).getD [],0))
    else if opG (s.drop (paramN s 0))=[58,61]∨opG (s.drop (paramN s 0))=[61]∨opG (s.drop (paramN s 0))=[58,63]∨opG (s.drop (paramN s 0))=[63] then ([],8)
    else if opG (s.drop (paramN s 0))=[58,45]∨opG (s.drop (paramN s 0))=[45]∨opG (s.drop (paramN s 0))=[58,43]∨opG (s.drop (paramN s 0))=[43] then
     (if (chooseG ((g (s.take (paramN s 0))).getD []) (g (s.take (paramN s 0))).isSome (opG (s.drop (paramN s 0)))).2=true then T (if q=true then 34 :: ((s.drop (paramN s 0)).drop (opG (s.drop (paramN s 0))).length++[34]) else (s.drop (paramN s 0)).drop (opG (s.drop (paramN s 0))).length) else ((chooseG ((g (s.take (paramN s 0))).getD []) (g (s.take (paramN s 0))).isSome (opG (s.drop (paramN s 0)))).1,0))
    else if (P (if q=true then 34 :: ((s.drop (paramN s 0)).drop (opG (s.drop (paramN s 0))).length++[34]) else (s.drop (paramN s 0)).drop (opG (s.drop (paramN s 0))).length)).2≠0 then ([],(P (if q=true then 34 :: ((s.drop (paramN s 0)).drop (opG (s.drop (paramN s 0))).length++[34]) else (s.drop (paramN s 0)).drop (opG (s.drop (paramN s 0))).length)).2)
    else (cutG ((g (s.take (paramN s 0))).getD []) (opG (s.drop (paramN s 0))) (P (if q=true then 34 :: ((s.drop (paramN s 0)).drop (opG (s.drop (paramN s 0))).length++[34]) else (s.drop (paramN s 0)).drop (opG (s.drop (paramN s 0))).length)).1,0)):=by
   unfold braG;rw [if_neg HC1.out,if_neg h0];dsimp only;rw [List.drop_drop]
  have hvl:=hgl' (s.take (paramN s 0));have HGn:=j7g fun W (hW:Below w0.heap.size w0 W)=>HG.out (s.take (paramN s 0)) W hW (by rw [List.length_take];omega);have hnl:paramN s 0≤s.length:=by simpa using hn0
  have hrl:(s.drop (paramN s 0)).length+paramN s 0=s.length:=by rw [List.length_drop];omega
  have HQ:=j7g hbr;clear hbr HP1 hn1 HC1 hgl' hgl hg HG;generalize braG T P g s q=R at *;generalize (g (s.take (paramN s 0))).getD []=v at *;generalize (g (s.take (paramN s 0))).isSome=has at *;generalize hhi:(if has=true then (1:Int) else 0)=hi at *;have HHI:=j7g hhi;clear hhi;generalize hrd:s.drop (paramN s 0)=rest at *;have HRD:=j7g hrd;clear hrd;generalize paramN s 0=n at *;have k0:((n:Int) == 0)=false:=by rw [beq_eq_false_iff_ne];omega
  have k1:(0:Int)≤(n:Int):=by omega
  have k2:(n:Int)≤(s.length:Int):=by omega
  have k3:n≤s.length:=hnl;have hn1':1≤n:=by omega
  clear h0;by_cases hre:rest=[]
  ·subst hre
   have hnn:¬ n<s.length:=by simp at hrl;omega
   rw [show opG []=[] from rfl,if_pos rfl,if_neg hnn] at HQ;have hHRD:=HRD.out;clear hnn HRD
   go_wp2_with (first
    | (go_at_call 66;refine (HP0.out _).mono ?_;rintro e w2 ⟨rfl,rfl⟩)
    | (go_at_call 41;refine (HGn.out _ (Below.refl _ _)).mono ?_;rintro e w3 ⟨rfl,rfl⟩))
   go_ret2;exact ⟨by rw [HQ.out];rfl,Below.refl _ _⟩
  have hnn:n<s.length:=by have:=List.length_pos_iff.2 hre;omega
  have HIn:=j7g (opR_ok rest hre);have hol:=opR_len rest hre;obtain ⟨rc,rr,hrc⟩:∃ c r,rest=c :: r:=by cases rest with|nil=>exact absurd rfl hre|cons c r=>exact ⟨c,r,rfl⟩
  have HRC:=j7g hrc;have hne:(rest == [])=false:=by simpa using hre
  have hl1:(1:Int)≤(rest.length:Int):=by omega
  have hrl3:rest.length≤30000:=by omega
  clear hrc hre
  go_upto_region 10 with (first
   | (go_at_call 66;refine (HP0.out _).mono ?_;rintro e w2 ⟨rfl,rfl⟩)
   | (go_at_call 41;refine (HGn.out _ (Below.refl _ _)).mono ?_;rintro e w3 ⟨rfl,rfl⟩))
  go_cut [14] from 61 to 63 (fun s14 wx=>s14 = .string (B rest)∧w0=wx)
  case first =>
   have hrd:=HRD.out;clear HQ HIn hT hP hPl HRC hne hl1 HRD hol HGn HHI;subst hrd;go_wp2_with fail;go_meet;exact ⟨rfl,rfl⟩
  case rest =>
  obtain ⟨rfl,rfl⟩:=hcut;have hrc:=HRC.out;clear HRD HRC;subst hrc;have hol2:=opR_head (c:=rc) (r:=rr)
  obtain ⟨ou,hou⟩:∃ u,opR (rc :: rr)=rc :: u:=by
   cases ho:opR (rc :: rr) with
   | nil=>rw [ho] at hol2;cases hol2
   | cons a u=>rw [ho] at hol2;cases hol2;exact ⟨u,rfl⟩
  clear hol2;go_upto_region 14 with fail
  obtain ⟨b75,h75⟩:∃ b,b=(decide (1<(rc :: rr).length) && rc == 58):=⟨_,rfl⟩
  have B75:=j7g h75;clear h75
  go_cut [75] from 69 to 74 (fun s75 wx=>s75 = .bool b75∧w0=wx)
  case first =>
   clear HQ HIn hT hP hPl hne hl1 hol HGn HHI hou
   cases rr with
   | nil =>
    go_wp2_with fail;go_meet;exact ⟨by rw [B75.out];rfl,rfl⟩
   | cons d t =>
    have j1:(1:Int)<(t.length:Int)+1+1:=by omega
    have j2:decide ((1:Int)<(t.length:Int)+1+1)=true:=decide_eq_true j1;have j4:decide (1<t.length+1+1)=true:=decide_eq_true (by omega);have J5:=j7g (show decide (1<(rc :: d :: t).length)=true from decide_eq_true (by simp));by_cases h1:rc=58
    ·subst h1
     go_wp2_with fail;go_meet;exact ⟨by rw [B75.out,J5.out];rfl,rfl⟩
    ·have e58:(([rc]:List UInt8) == [58])=false:=by simpa using h1
     have e59:(rc == 58)=false:=by simpa using h1
     have E59:=j7g e59;clear h1;go_wp2_with fail;go_meet;exact ⟨by rw [B75.out,J5.out,E59.out];rfl,rfl⟩
  case rest =>
  obtain ⟨rfl,rfl⟩:=hcut;go_upto_if 75 with fail
  go_cut [15] from 76 to 97 (fun s15 wx=>s15 = .string (B (opR (rc :: rr)))∧Hid (Below w0.heap.size w0 wx))
  case first =>
   clear HQ HIn hT hP hPl hne hl1 hol HGn HHI hou
   cases rr with
   | nil =>
    obtain rfl:b75=false:=B75.out;go_wp2_with fail;go_quiet (fail);go_wp2_with fail;go_meet;exact ⟨rfl,j7g (by first|exact Below.refl _ _|exact zq (Below.refl _ _) _)⟩
   | cons d t =>
    have j1:(1:Int)<(t.length:Int)+1+1:=by omega
    have j2:decide ((1:Int)<(t.length:Int)+1+1)=true:=decide_eq_true j1;have j3:(2:Int)≤(t.length:Int)+1+1:=by omega
    have j4:decide (1<t.length+1+1)=true:=decide_eq_true (by omega);have b75e:=B75.out;rw [decide_eq_true (show 1<(rc :: d :: t).length by simp),Bool.true_and] at b75e;clear B75;by_cases h1:rc=58
    ·subst h1
     obtain rfl:b75=true:=b75e;go_wp2_with fail;go_meet;exact ⟨rfl,j7g (by first|exact Below.refl _ _|exact zq (Below.refl _ _) _)⟩
    have e58:(([rc]:List UInt8) == [58])=false:=by simpa using h1
    have e59:(rc == 58)=false:=by simpa using h1
    rw [e59] at b75e;subst b75e;by_cases h2:rc=37
    ·subst h2
     by_cases h3:d=37
     ·subst h3
      clear h1;go_wp2_with fail;go_quiet (fail);go_wp2_with fail;go_meet;exact ⟨rfl,j7g (by first|exact Below.refl _ _|exact zq (Below.refl _ _) _)⟩
     ·have f1:((d.toNat:Int) == 37)=false:=ne_i (n:=37) (by decide) h3
      have f2:opR (37 :: d :: t)=[37]:=by rw [zd1,if_neg (by decide),if_neg (fun k=>h3 k.2)]
      have F2:=j7g f2;clear h3 f2 h1;go_wp2_with fail;go_quiet (fail);go_wp2_with fail;go_meet;exact ⟨by rw [F2.out],j7g (by first|exact Below.refl _ _|exact zq (Below.refl _ _) _)⟩
    have e37:(([rc]:List UInt8) == [37])=false:=by simpa using h2
    by_cases h4:rc=35
    ·subst h4
     by_cases h3:d=35
     ·subst h3
      clear h1 h2;go_wp2_with fail;go_quiet (fail);go_wp2_with fail;go_meet;exact ⟨rfl,j7g (by first|exact Below.refl _ _|exact zq (Below.refl _ _) _)⟩
     ·have f1:((d.toNat:Int) == 35)=false:=ne_i (n:=35) (by decide) h3
      have f2:opR (35 :: d :: t)=[35]:=by rw [zd1,if_neg (by decide),if_neg (fun k=>h3 k.2)]
      have F2:=j7g f2;clear h3 f2 h1 h2;go_wp2_with fail;go_quiet (fail);go_wp2_with fail;go_meet;exact ⟨by rw [F2.out],j7g (by first|exact Below.refl _ _|exact zq (Below.refl _ _) _)⟩
    have e35:(([rc]:List UInt8) == [35])=false:=by simpa using h4
    have f2:opR (rc :: d :: t)=[rc]:=by rw [zd1,if_neg h1,if_neg (fun k=>k.1.elim h2 h4)]
    have F2:=j7g f2;have e1:(rc == 37)=false:=by simpa using h2
    have e2:(rc == 35)=false:=by simpa using h4
    clear h1 h2 h4 f2;go_wp2_with fail;go_quiet (fail);go_wp2_with fail;go_meet;exact ⟨by rw [F2.out],j7g (by first|exact Below.refl _ _|exact zq (Below.refl _ _) _)⟩
  case rest =>
  obtain ⟨rfl,HBX⟩:=hcut;clear B75;generalize hop:opR (rc :: rr)=op at *;have HOP:=j7g hop;clear hop;subst hou
  obtain ⟨wd,hwd⟩:∃ wd,wd=(rc :: rr).drop ((rc :: ou)).length:=⟨_,rfl⟩
  have hwdl:wd.length+((rc :: ou)).length=(rc :: rr).length:=by rw [hwd,List.length_drop];omega
  have WD:=j7g hwd;clear hwd;go_upto_region 18 with fail
  go_cut [16] from 98 to 101 (fun s16 wx=>s16 = .string (B wd)∧wc=wx)
  case first =>
   have k4:(((rc :: ou)).length:Int)≤((rc :: rr).length:Int):=by omega
   have k5:(0:Int)≤(((rc :: ou)).length:Int):=by omega
   have k6:((rc :: ou)).length≤(rc :: rr).length:=by omega
   have wd0:=WD.out;have WDD:=WD;have kk1:ou.length≤rr.length:=by simpa using k6
   have kk2:(ou.length:Int)≤(rr.length:Int):=by omega
   have kk3:(ou.length:Int)+1≤(rr.length:Int)+1:=by omega
   have kk4:(0:Int)≤(ou.length:Int)+1:=by omega
   have kk5:(0:Int)≤(ou.length:Int):=by omega
   have kk6:ou.length+1≤rr.length+1:=by omega
   clear HQ HIn hT hP hPl hne hl1 hol WD HGn HHI hwdl;clear wd0;have WD:=WDD;go_wp2_with fail;go_meet;exact ⟨by rw [WD.out];rfl,rfl⟩
  case rest =>
  obtain ⟨rfl,rfl⟩:=hcut
  obtain ⟨wq,hwq⟩:∃ wq,wq=if q=true then 34 :: (wd++[34]) else wd:=⟨_,rfl⟩
  have WQ:=j7g hwq
  have hwl2:wq.length≤s.length:=by
   rw [hwq]
   split
   ·simp at hrl hwdl ⊢;omega
   ·omega
  clear hwq;go_upto_if 102 with fail
  go_cut [16] from 103 to 105 (fun s16 wx=>s16 = .string (B wq)∧wc=wx)
  case first =>
   have k7:wd.length≤30000:=by omega
   have k8:(1:Int)+(wd.length:Int)+1≤9223372036854775807:=by omega
   have wq0:=WQ.out;clear HQ HIn hT hP hPl hne hl1 hol WD HGn HHI hwl2 WQ hwdl
   cases q with
   | true =>
    rw [if_pos rfl] at wq0;subst wq0;go_wp2_with fail;go_meet;exact ⟨rfl,rfl⟩
   | false =>
    rw [if_neg (by decide)] at wq0;subst wq0;go_wp2_with fail;go_meet;exact ⟨rfl,rfl⟩
  case rest =>
  obtain ⟨rfl,rfl⟩:=hcut;go_upto_region 21 with fail
  go_cut [17] from 106 to 107 (fun s17 wx=>s17 = .bool has∧wc=wx)
  case first =>
   have hhi:=HHI.out;clear HQ HIn hT hP hPl hne hl1 hol WD HGn HHI hwl2 WQ hwdl
   cases has with
   | false =>
    rw [if_neg (by decide)] at hhi;subst hhi;go_wp2_with fail;go_meet;exact ⟨rfl,rfl⟩
   | true =>
    rw [if_pos rfl] at hhi;subst hhi;go_wp2_with fail;go_meet;exact ⟨rfl,rfl⟩
  case rest =>
  obtain ⟨rfl,rfl⟩:=hcut;clear HHI;go_upto_region 22 with fail
  obtain ⟨b110,h110⟩:∃ b,b=(rc == 58):=⟨_,rfl⟩
  have B110:=j7g h110;clear h110
  go_cut [110] from 108 to 109 (fun s110 wx=>s110 = .bool b110∧wc=wx)
  case first =>
   clear HQ HIn hT hP hPl hne hl1 hol WD HGn hwl2 WQ hwdl;by_cases h1:rc=58
   ·subst h1
    go_wp2_with fail;go_meet;exact ⟨by rw [B110.out];rfl,rfl⟩
   ·have e0:((rc.toNat:Int) == 58)=false:=ne_i (n:=58) (by decide) h1
    have E59:=j7g (show (rc == 58)=false by simpa using h1);clear h1;go_wp2_with fail;go_meet;exact ⟨by rw [B110.out,E59.out],rfl⟩
  case rest =>
  obtain ⟨rfl,rfl⟩:=hcut
  obtain ⟨th,hth⟩:∃ th:Bool,th=if ((rc :: ou)).head?=some 58 then has && v != [] else has:=⟨_,rfl⟩
  have TH:=j7g hth;rw [List.head?_cons] at hth;go_upto_if 110 with fail
  go_cut [17] from 111 to 115 (fun s17 wx=>s17 = .bool th∧wc=wx)
  case first =>
   clear HQ HIn hT hP hPl hne hl1 hol WD HGn hwl2 WQ hwdl TH;have b110e:=B110.out;clear B110;by_cases h1:rc=58
   ·subst h1
    obtain rfl:b110=true:=b110e;rw [if_pos rfl] at hth
    cases has with
    | false =>
     rw [Bool.false_and] at hth;subst hth;go_wp2_with fail;go_meet;exact ⟨rfl,rfl⟩
    | true =>
     rw [Bool.true_and] at hth
     cases v with
     | nil =>
      subst hth;go_wp2_with fail;go_meet;exact ⟨rfl,rfl⟩
     | cons a b =>
      have:th=true:=hth;subst this;clear hth;go_wp2_with fail;go_meet;exact ⟨rfl,rfl⟩
   ·have e59:(rc == 58)=false:=by simpa using h1
    rw [if_neg (by simpa using h1)] at hth;subst hth;rw [e59] at b110e;subst b110e;clear h1;go_wp2_with fail;go_meet;exact ⟨rfl,rfl⟩
  case rest =>
  obtain ⟨rfl,rfl⟩:=hcut;clear hth B110;have HTT:=j7g fun W (hW:Below w0.heap.size w0 W)=>hT wq W hW hwl2;have HPP:=j7g fun W (hW:Below w0.heap.size w0 W)=>hP wq W hW hwl2;have HPL:=j7g (hPl wq);clear hT hP hPl hwl2 HGn HP0 hne hl1 hol hrl hrl3 hwdl;rcases HIn.out with ⟨ho,h⟩|⟨ho,h⟩
  ·rw [ho,if_neg (by simp),← WD.out,← WQ.out] at HQ
   clear ho HIn WD WQ;generalize T wq=rT at *;generalize P wq=rP at *;obtain ⟨tT,eT⟩:=rT;obtain ⟨tP,eP⟩:=rP;unfold ResP at HTT HPP;dsimp only at HTT HPP HPL HQ;rcases h with h|h|h
   ·rcases h with h|h|h|h
    all_goals
     obtain ⟨rfl,rfl⟩:=List.cons.inj h;have HQ:=j7g (HQ.out.trans (by rw [if_pos (by decide)]:_=(([],8):Res)));clear h;go_wp2_with fail;go_ret2;exact ⟨by rw [HQ.out];rfl,HBX.out⟩
   ·rcases h with h|h|h|h
    ·obtain ⟨rfl,rfl⟩:=List.cons.inj h
     have HQ1:=j7g (HQ.out.trans (by rw [if_neg (by decide),if_pos (by decide),zfc (by decide),← TH.out]:_=(if th=true then ((v,0):Res) else (tT,eT))));clear h TH
     cases th with
     | true =>
       have HQ2:Hid (R=(v,0)):=j7g (HQ1.out.trans (if_pos rfl));go_wp2_with fail;go_ret2;exact ⟨by rw [HQ2.out];rfl,HBX.out⟩
     | false =>
       have HQ2:Hid (R=(tT,eT)):=j7g (HQ1.out.trans (if_neg (by decide)))
       go_wp2_with (go_at_call 18;refine (HTT.out _ HBX.out).mono ?_;rintro e w6 ⟨rfl,hb⟩;have HB6:=j7g (zb HBX.out hb);clear hb)
       go_ret2;exact ⟨by rw [HQ2.out];rfl,HB6.out⟩
    ·obtain ⟨rfl,rfl⟩:=List.cons.inj h
     have HQ1:=j7g (HQ.out.trans (by rw [if_neg (by decide),if_pos (by decide),zfc (by decide),← TH.out]:_=(if th=true then ((v,0):Res) else (tT,eT))));clear h TH
     cases th with
     | true =>
       have HQ2:Hid (R=(v,0)):=j7g (HQ1.out.trans (if_pos rfl));go_wp2_with fail;go_ret2;exact ⟨by rw [HQ2.out];rfl,HBX.out⟩
     | false =>
       have HQ2:Hid (R=(tT,eT)):=j7g (HQ1.out.trans (if_neg (by decide)))
       go_wp2_with (go_at_call 18;refine (HTT.out _ HBX.out).mono ?_;rintro e w6 ⟨rfl,hb⟩;have HB6:=j7g (zb HBX.out hb);clear hb)
       go_ret2;exact ⟨by rw [HQ2.out];rfl,HB6.out⟩
    ·obtain ⟨rfl,rfl⟩:=List.cons.inj h
     have HQ1:=j7g (HQ.out.trans (by rw [if_neg (by decide),if_pos (by decide),zgd (by decide),← TH.out]:_=(if th=true then ((tT,eT):Res) else ([],0))));clear h TH
     cases th with
     | true =>
       have HQ2:Hid (R=(tT,eT)):=j7g (HQ1.out.trans (if_pos rfl))
       go_wp2_with (go_at_call 18;refine (HTT.out _ HBX.out).mono ?_;rintro e w6 ⟨rfl,hb⟩;have HB6:=j7g (zb HBX.out hb);clear hb)
       go_ret2;exact ⟨by rw [HQ2.out];rfl,HB6.out⟩
     | false =>
       have HQ2:Hid (R=([],0)):=j7g (HQ1.out.trans (if_neg (by decide)));go_wp2_with fail;go_ret2;exact ⟨by rw [HQ2.out];rfl,HBX.out⟩
    ·obtain ⟨rfl,rfl⟩:=List.cons.inj h
     have HQ1:=j7g (HQ.out.trans (by rw [if_neg (by decide),if_pos (by decide),zgd (by decide),← TH.out]:_=(if th=true then ((tT,eT):Res) else ([],0))));clear h TH
     cases th with
     | true =>
       have HQ2:Hid (R=(tT,eT)):=j7g (HQ1.out.trans (if_pos rfl))
       go_wp2_with (go_at_call 18;refine (HTT.out _ HBX.out).mono ?_;rintro e w6 ⟨rfl,hb⟩;have HB6:=j7g (zb HBX.out hb);clear hb)
       go_ret2;exact ⟨by rw [HQ2.out];rfl,HB6.out⟩
     | false =>
       have HQ2:Hid (R=([],0)):=j7g (HQ1.out.trans (if_neg (by decide)));go_wp2_with fail;go_ret2;exact ⟨by rw [HQ2.out];rfl,HBX.out⟩
   ·clear TH
    have HPA:=j7g fun W=>zq7 tP W (by have:=HPL.out;omega);have HCU:=j7g fun (al:Value) W (ha:Sl W atC 6 al (parse tP))=>And.intro (zpu v tP al W ha hvl (by have:=HPL.out;omega)) (And.intro (zpv v tP al W ha hvl (by have:=HPL.out;omega)) (And.intro (zpw v tP al W ha hvl (by have:=HPL.out;omega)) (zpx v tP al W ha hvl (by have:=HPL.out;omega))));unfold ParseP at HPA;rcases h with h|h|h|h
    ·obtain ⟨rfl,rfl⟩:=List.cons.inj h
     have HQ:=j7g (HQ.out.trans (by rw [if_neg (by decide),if_neg (by decide)]:_=(if eP≠0 then (([],eP):Res) else (cutG v [37] tP,0))));by_cases he:eP=0
     ·subst he
      have HQ:=j7g (HQ.out.trans (if_neg (by decide)))
      go_wp2_with (first
       | (go_at_call 19;refine (HPP.out _ HBX.out).mono ?_;rintro e w6 ⟨rfl,hb⟩;have HB6:=j7g (zb HBX.out hb);clear hb)
       | (go_at_call 69;refine (HPA.out _).mono ?_;rintro e w7 ⟨al,rfl,hsl,hb⟩;have HSL:=j7g hsl;have HB7:=j7g (zb HB6.out hb);clear hb hsl)
       | (go_at_call 68;refine ((HCU.out al _ HSL.out).1).mono ?_;rintro e w8 ⟨rfl,hb⟩;have HB8:=j7g (zb HB7.out hb);clear hb))
      go_ret2;exact ⟨by rw [HQ.out];rfl,HB8.out⟩
     ·have e1:(eP == 0)=false:=by simpa using he
      have e2:(eP != 0)=true:=by simpa using he
      have HQ:=j7g (HQ.out.trans (if_pos he));clear he
      go_wp2_with (go_at_call 19;refine (HPP.out _ HBX.out).mono ?_;rintro e w6 ⟨rfl,hb⟩;have HB6:=j7g (zb HBX.out hb);clear hb)
      go_ret2;exact ⟨by rw [HQ.out];rfl,HB6.out⟩
    ·obtain ⟨rfl,rfl⟩:=List.cons.inj h
     have HQ:=j7g (HQ.out.trans (by rw [if_neg (by decide),if_neg (by decide)]:_=(if eP≠0 then (([],eP):Res) else (cutG v [37,37] tP,0))));by_cases he:eP=0
     ·subst he
      have HQ:=j7g (HQ.out.trans (if_neg (by decide)))
      go_wp2_with (first
       | (go_at_call 19;refine (HPP.out _ HBX.out).mono ?_;rintro e w6 ⟨rfl,hb⟩;have HB6:=j7g (zb HBX.out hb);clear hb)
       | (go_at_call 69;refine (HPA.out _).mono ?_;rintro e w7 ⟨al,rfl,hsl,hb⟩;have HSL:=j7g hsl;have HB7:=j7g (zb HB6.out hb);clear hb hsl)
       | (go_at_call 68;refine ((HCU.out al _ HSL.out).2.1).mono ?_;rintro e w8 ⟨rfl,hb⟩;have HB8:=j7g (zb HB7.out hb);clear hb))
      go_ret2;exact ⟨by rw [HQ.out];rfl,HB8.out⟩
     ·have e1:(eP == 0)=false:=by simpa using he
      have e2:(eP != 0)=true:=by simpa using he
      have HQ:=j7g (HQ.out.trans (if_pos he));clear he
      go_wp2_with (go_at_call 19;refine (HPP.out _ HBX.out).mono ?_;rintro e w6 ⟨rfl,hb⟩;have HB6:=j7g (zb HBX.out hb);clear hb)
      go_ret2;exact ⟨by rw [HQ.out];rfl,HB6.out⟩
    ·obtain ⟨rfl,rfl⟩:=List.cons.inj h
     have HQ:=j7g (HQ.out.trans (by rw [if_neg (by decide),if_neg (by decide)]:_=(if eP≠0 then (([],eP):Res) else (cutG v [35] tP,0))));by_cases he:eP=0
     ·subst he
      have HQ:=j7g (HQ.out.trans (if_neg (by decide)))
      go_wp2_with (first
       | (go_at_call 19;refine (HPP.out _ HBX.out).mono ?_;rintro e w6 ⟨rfl,hb⟩;have HB6:=j7g (zb HBX.out hb);clear hb)
       | (go_at_call 69;refine (HPA.out _).mono ?_;rintro e w7 ⟨al,rfl,hsl,hb⟩;have HSL:=j7g hsl;have HB7:=j7g (zb HB6.out hb);clear hb hsl)
       | (go_at_call 68;refine ((HCU.out al _ HSL.out).2.2.1).mono ?_;rintro e w8 ⟨rfl,hb⟩;have HB8:=j7g (zb HB7.out hb);clear hb))
      go_ret2;exact ⟨by rw [HQ.out];rfl,HB8.out⟩
     ·have e1:(eP == 0)=false:=by simpa using he
      have e2:(eP != 0)=true:=by simpa using he
      have HQ:=j7g (HQ.out.trans (if_pos he));clear he
      go_wp2_with (go_at_call 19;refine (HPP.out _ HBX.out).mono ?_;rintro e w6 ⟨rfl,hb⟩;have HB6:=j7g (zb HBX.out hb);clear hb)
      go_ret2;exact ⟨by rw [HQ.out];rfl,HB6.out⟩
    ·obtain ⟨rfl,rfl⟩:=List.cons.inj h
     have HQ:=j7g (HQ.out.trans (by rw [if_neg (by decide),if_neg (by decide)]:_=(if eP≠0 then (([],eP):Res) else (cutG v [35,35] tP,0))));by_cases he:eP=0
     ·subst he
      have HQ:=j7g (HQ.out.trans (if_neg (by decide)))
      go_wp2_with (first
       | (go_at_call 19;refine (HPP.out _ HBX.out).mono ?_;rintro e w6 ⟨rfl,hb⟩;have HB6:=j7g (zb HBX.out hb);clear hb)
       | (go_at_call 69;refine (HPA.out _).mono ?_;rintro e w7 ⟨al,rfl,hsl,hb⟩;have HSL:=j7g hsl;have HB7:=j7g (zb HB6.out hb);clear hb hsl)
       | (go_at_call 68;refine ((HCU.out al _ HSL.out).2.2.2).mono ?_;rintro e w8 ⟨rfl,hb⟩;have HB8:=j7g (zb HB7.out hb);clear hb))
      go_ret2;exact ⟨by rw [HQ.out];rfl,HB8.out⟩
     ·have e1:(eP == 0)=false:=by simpa using he
      have e2:(eP != 0)=true:=by simpa using he
      have HQ:=j7g (HQ.out.trans (if_pos he));clear he
      go_wp2_with (go_at_call 19;refine (HPP.out _ HBX.out).mono ?_;rintro e w6 ⟨rfl,hb⟩;have HB6:=j7g (zb HBX.out hb);clear hb)
      go_ret2;exact ⟨by rw [HQ.out];rfl,HB6.out⟩
  ·rw [ho,if_pos rfl,if_pos hnn] at HQ
   clear ho HIn WD WQ TH HTT HPP HPL;rcases h with ⟨c,h,ho⟩|⟨d,h,ho⟩
   ·obtain ⟨rfl,rfl⟩:=List.cons.inj h
    obtain ⟨x1,x2,x3,x4,x5,x6⟩:=ho;have y1:(rc == 61)=false:=by simpa using x1
    have y2:(rc == 63)=false:=by simpa using x2
    have y3:(rc == 45)=false:=by simpa using x3
    have y4:(rc == 43)=false:=by simpa using x4
    have y5:(rc == 37)=false:=by simpa using x5
    have y6:(rc == 35)=false:=by simpa using x6
    have z1:(([rc]:List UInt8) == [61])=false:=by simpa using x1
    have z2:(([rc]:List UInt8) == [63])=false:=by simpa using x2
    have z3:(([rc]:List UInt8) == [45])=false:=by simpa using x3
    have z4:(([rc]:List UInt8) == [43])=false:=by simpa using x4
    have z5:(([rc]:List UInt8) == [37])=false:=by simpa using x5
    have z6:(([rc]:List UInt8) == [35])=false:=by simpa using x6
    clear h;go_wp2_with fail;go_ret2;exact ⟨by rw [HQ.out];rfl,HBX.out⟩
   ·obtain ⟨rfl,rfl⟩:=List.cons.inj h
    obtain ⟨x1,x2,x3,x4⟩:=ho;have y1:(d == 61)=false:=by simpa using x1
    have y2:(d == 63)=false:=by simpa using x2
    have y3:(d == 45)=false:=by simpa using x3
    have y4:(d == 43)=false:=by simpa using x4
    have z1:(([58,d]:List UInt8) == [58,61])=false:=by simpa using x1
    have z2:(([58,d]:List UInt8) == [58,63])=false:=by simpa using x2
    have z3:(([58,d]:List UInt8) == [58,45])=false:=by simpa using x3
    have z4:(([58,d]:List UInt8) == [58,43])=false:=by simpa using x4
    clear h;go_wp2_with fail;go_ret2;exact ⟨by rw [HQ.out];rfl,HBX.out⟩
end Go.Proofs.YtfmecpnokefokaaGreatDoor.Ex
