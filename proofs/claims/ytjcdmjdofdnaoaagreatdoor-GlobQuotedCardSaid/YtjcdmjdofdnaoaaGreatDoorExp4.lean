/-
  The walks of layer 25 (expand), on: whether a piece is ended; what stands between braces; what stands for a piece. Conditions: texts of at most 2^20 bytes; values of less than 100 bytes; the library's variable MaxLen holds some number.
-/
import Derived.Test.YtjcdmjdofdnaoaaGreatDoorExp3
set_option linter.unusedSimpArgs false
set_option linter.unusedVariables false
namespace Go.Proofs.YtjcdmjdofdnaoaaGreatDoor.Ex
open Go.ChangeShapes Go.WideShapes Go.Deep Go.RowKit Cls Md Mc _root_.Go.Proofs.YtjcdmjdofdnaoaaGreatDoor.Pa Li Pat
set_option maxRecDepth 100000
theorem _root_.Go.Proofs.YtjcdmjdofdnaoaaGreatDoor.j7c {p:Prop} (h:p):Go.RowKit.Hid p:=Go.Lib.hid h
theorem open_any (p:Pc) (w:World) (hp:p.tx.length≤268435456):Calls Tryz.prog 131 #[.agg #[.bool p.ex,.bool p.qu,.string (B p.tx)]] w fun e w'=>e = .returned (.bool (openG p))∧Below w.heap.size w w':=by
 obtain ⟨ex,qu,tx⟩:=p;dsimp only at hp ⊢;have HB:=j7c (za (Below.refl w.heap.size w) (.cells #[.bool ex,.bool qu,.string (B tx)] 138));have ht:(1:Int)+(tx.length:Int)≤9223372036854775807:=by omega
 cases qu with
 | true =>
  have HC:=j7c fun W=>zfh (34 :: tx) W (by simp;omega);have HO:=j7c (show openG ⟨ex,true,tx⟩=(closL (run (34 :: tx)).l != [34]) from rfl);generalize openG ⟨ex,true,tx⟩=R at *;generalize closL (run (34 :: tx)).l=L at *;go_enter Tryz.func131,Tryz.ntmps131
  go_wp2_with (go_at_call 157;refine (HC.out _).mono ?_;rintro e w1 ⟨rfl,hb⟩;have HB2:=j7c (zb HB.out hb);clear hb)
  go_ret;exact ⟨by rw [HO.out];rfl,HB2.out⟩
 | false =>
  have HC:=j7c fun W=>zfh tx W (by omega);have HO:=j7c (show openG ⟨ex,false,tx⟩=(closL (run tx).l != []) from rfl);generalize openG ⟨ex,false,tx⟩=R at *;generalize closL (run tx).l=L at *;go_enter Tryz.func131,Tryz.ntmps131
  go_wp2_with (go_at_call 157;refine (HC.out _).mono ?_;rintro e w1 ⟨rfl,hb⟩;have HB2:=j7c (zb HB.out hb);clear hb)
  go_ret;exact ⟨by rw [HO.out];cases L <;> rfl,HB2.out⟩
theorem znt (s:List UInt8) (w:World) (hs:s.length≤1073741824):Calls Tryz.prog 158 #[.string (B s),.int .i64 1] w fun e w'=>e = .returned (.int .i64 (paramN s 1))∧Below w.heap.size w w':=by
 cases s with
 | nil =>
  have HN:=j7c (show Calls Tryz.prog 125 #[.string (B []),.int .i64 1] w fun e w'=>e = .returned (.int .i64 0)∧w=w' by
   have HS:=j7c (show Calls Tryz.prog 109 #[.string (B []),.int .i64 1,.func (.func 145) #[] #[]] w fun e w'=>e = .returned (.int .i64 0)∧w=w' by
    go_enter Tryz.func109,Tryz.ntmps109;go_wp2
    go_step3
    go_wp2;rw [Exit.noGoto_ret];go_ret
    exact ⟨rfl,rfl⟩)
   go_enter Tryz.func125,Tryz.ntmps125
   go_wp2_with (go_at_call 109;refine HS.out.mono ?_;rintro e w1 ⟨rfl,rfl⟩)
   go_ret
   exact ⟨rfl,rfl⟩)
  go_enter Tryz.func158,Tryz.ntmps158
  go_wp2_with (go_at_call 125;refine HN.out.mono ?_;rintro e w1 ⟨rfl,rfl⟩)
  go_ret;exact ⟨rfl,Below.refl _ _⟩
 | cons c r=>exact zep (c :: r) 1 w hs (by simp)
theorem opG_in (s:List UInt8):opG s=[]∨(opG s=[58,61]∨opG s=[61]∨opG s=[58,63]∨opG s=[63])∨Four (opG s)∨Cuts (opG s):=by
 unfold opG Four Cuts
 match s with
 | []=>simp
 | c :: r =>
  dsimp only;by_cases h1:c=58
  ·subst h1
   rw [if_pos rfl]
   cases r with
   | nil=>simp
   | cons d t =>
    dsimp only
    split
    ·rename_i h
     rcases h with rfl|rfl|rfl|rfl <;> simp
    ·simp
  ·rw [if_neg h1]
   split
   ·rename_i h
    rcases h.1 with rfl|rfl <;> simp
   ·split
    ·rename_i h
     rcases h with rfl|rfl|rfl|rfl|rfl|rfl <;> simp
    ·simp
theorem opG_len (s:List UInt8):(opG s).length≤s.length∧(opG s).length≤2:=by
 unfold opG
 match s with
 | []=>simp
 | [c] =>
  dsimp only
  split
  ·simp
  ·split
   ·rename_i h;simp at h
   ·split <;> simp
 | c :: d :: r =>
  dsimp only
  split
  ·split <;> simp
  ·split
   ·simp
   ·split <;> simp
def ItoaC (w0:World) (M:Nat):Prop:=∀ n,n<M→∀ W,Below w0.heap.size w0 W→Calls Tryz.prog 159 #[.int .i64 n] W fun e w'=>e = .returned (.string (B (Lib.decDigits n)))∧Below W.heap.size W w'
theorem ItoaC.below {w0 w1:World} {M:Nat} (h:ItoaC w0 M) (hb:Below w0.heap.size w0 w1):ItoaC w1 M:=fun n hn W hW=>h n hn W (zb hb hW)
def ResP (r:Res) (w:World) (e:Ending) (w':World):Prop:=e = .returned (.tuple #[.string (B r.1),.int .i64 r.2])∧Below w.heap.size w w'
set_option maxHeartbeats 6400000 in
theorem zma {w0:World} {vv:Value} {g:Look} {T P:List UInt8→Res} (s:List UInt8) (q:Bool) (hm:MaxL w0) (hg:GetC w0 vv g) {M:Nat} (hM0:0<M) (hM:M≤1048577) (hI:ItoaC w0 M) (hgl:∀ a v,g a=some v→v.length<M) (hs:s.length≤30000)
  (hT:∀ (u:List UInt8) (W:World),Below w0.heap.size w0 W→u.length≤s.length→Calls Tryz.prog 162 #[vv,.string (B u)] W (ResP (T u) W))
  (hP:∀ (u:List UInt8) (W:World),Below w0.heap.size w0 W→u.length≤s.length→Calls Tryz.prog 163 #[vv,.string (B u)] W (ResP (P u) W)) (hPl:∀ u,(P u).1.length≤2097152) :
  Calls Tryz.prog 132 #[vv,.string (B s),.bool q] w0 (ResP (braG T P g s q) w0):=by
 have HP1:=j7c (znt s w0 (by omega));have HP0:=j7c fun W=>zep s 0 W (by omega) (by omega);have hn1:=zb1 s 1;have hn0:=zb1 s 0
 have hgl':∀ a,((g a).getD []).length<M:=fun a=>by
  cases h:g a with
  | none=>simpa using hM0
  | some v=>exact hgl a v h
 have HG:=j7c fun (a:List UInt8) (W:World) (hW:Below w0.heap.size w0 W) (ha:a.length≤30000)=>hg a W hW (by omega);by_cases c1:s.head?=some 35∧0<paramN s 1∧1+paramN s 1=s.length
 ·have HR:=j7c (show braG T P g s q=(Lib.decDigits ((g (s.drop 1)).getD []).length,0) by unfold braG;rw [if_pos c1])
  obtain ⟨c1,c2,c3⟩:=c1;obtain ⟨r,rfl⟩:∃ r,s=35 :: r:=by cases s with|nil=>cases c1|cons a r=>injection c1 with c1;exact ⟨r,by rw [c1]⟩
  have HG1:=j7c fun W (hW:Below w0.heap.size w0 W)=>HG.out r W hW (by simp at hs;omega);have hlen:=hgl' r;rw [List.drop_one,List.tail_cons] at HR;generalize (g r).getD []=v at *;generalize (g r).isSome=has at *;have HI:=j7c fun W (hW:Below w0.heap.size w0 W)=>hI v.length hlen W hW;clear hI;generalize paramN (35 :: r) 1=n1 at *;have d1:decide ((0:Int)<(n1:Int))=true:=decide_eq_true (by omega);have d2:((1:Int)+(n1:Int) == (r.length:Int)+1)=true:=by simp at c3 ⊢;omega
  go_enter Tryz.func132,Tryz.ntmps132
  go_wp2_with (first
   | (go_at_call 158;refine HP1.out.mono ?_;rintro e w1 ⟨rfl,hb⟩;have HB1:=j7c hb;clear hb)
   | (go_at_call 133;refine (HG1.out _ HB1.out).mono ?_;rintro e w2 ⟨rfl,hb⟩;have HB2:=j7c (zb HB1.out hb);clear hb)
   | (go_at_call 159;refine (HI.out _ HB2.out).mono ?_;rintro e w3 ⟨rfl,hb⟩;have HB3:=j7c (zb HB2.out hb);clear hb))
  go_ret2;exact ⟨by rw [HR.out];rfl,HB3.out⟩
 clear hI;have HC1:=j7c c1;clear c1;go_enter Tryz.func132,Tryz.ntmps132;go_upto_region 2 with (go_at_call 158;refine HP1.out.mono ?_;rintro e w1 ⟨rfl,hb⟩;have HB1:=j7c hb;clear hb)
 go_cut [39] from 22 to 38 (fun s39 wx=>s39 = .bool false∧wx=w1)
 case first =>
  clear HG HP0 hgl' hn0 hT hP hPl hg hgl hm
  cases s with
  | nil =>
   go_wp2_with fail;go_meet;exact ⟨rfl,rfl⟩
  | cons c r =>
   by_cases hc:c=35
   ·subst hc
    have h1:=HC1.out;generalize paramN (35 :: r) 1=n1 at *;by_cases h2:0<n1
    ·have d1:decide ((0:Int)<(n1:Int))=true:=decide_eq_true (by omega)
     have d2:((1:Int)+(n1:Int) == (r.length:Int)+1)=false:=by
      rw [beq_eq_false_iff_ne];intro h;exact h1 ⟨rfl,h2,by simp;omega⟩
     have d3:(1:Int)+(n1:Int)≤9223372036854775807:=by simp at hn1 hs;omega
     clear h1;go_wp2_with fail;go_meet;exact ⟨rfl,rfl⟩
    ·have d1:=no (show ¬ (0:Int)<(n1:Int) by omega)
     clear h1;go_wp2_with fail;go_meet;exact ⟨rfl,rfl⟩
   ·have t1:((c.toNat:Int) == 35)=false:=by
     rw [beq_eq_false_iff_ne];intro h;exact hc (UInt8.toNat_inj.1 (by show c.toNat=35;omega))
    clear hc;go_wp2_with fail;go_meet;exact ⟨rfl,rfl⟩
 case rest =>
  obtain ⟨rfl,rfl⟩:=hcut;by_cases h0:paramN s 0=0
  ·have HR:=j7c (show braG T P g s q=([],4) by unfold braG;rw [if_neg HC1.out,if_pos h0])
   rw [h0] at HP0;clear h0
   go_wp2_with (go_at_call 158;refine (HP0.out _).mono ?_;rintro e w2 ⟨rfl,hb⟩;have HB2:=j7c (zb HB1.out hb);clear hb)
   go_ret2;exact ⟨by rw [HR.out];rfl,HB2.out⟩
  have hbr:braG T P g s q=(if opG (s.drop (paramN s 0))=[] then (if paramN s 0<s.length then ([],4) else ((g (s.take (paramN s 0))).getD [],0))
    else if opG (s.drop (paramN s 0))=[58,61]∨opG (s.drop (paramN s 0))=[61]∨opG (s.drop (paramN s 0))=[58,63]∨opG (s.drop (paramN s 0))=[63] then ([],8)
    else if opG (s.drop (paramN s 0))=[58,45]∨opG (s.drop (paramN s 0))=[45]∨opG (s.drop (paramN s 0))=[58,43]∨opG (s.drop (paramN s 0))=[43] then
     (if (chooseG ((g (s.take (paramN s 0))).getD []) (g (s.take (paramN s 0))).isSome (opG (s.drop (paramN s 0)))).2=true then T (if q=true then 34 :: (s.drop (paramN s 0+(opG (s.drop (paramN s 0))).length)++[34]) else s.drop (paramN s 0+(opG (s.drop (paramN s 0))).length)) else ((chooseG ((g (s.take (paramN s 0))).getD []) (g (s.take (paramN s 0))).isSome (opG (s.drop (paramN s 0)))).1,0))
    else if (P (if q=true then 34 :: (s.drop (paramN s 0+(opG (s.drop (paramN s 0))).length)++[34]) else s.drop (paramN s 0+(opG (s.drop (paramN s 0))).length))).2≠0 then ([],(P (if q=true then 34 :: (s.drop (paramN s 0+(opG (s.drop (paramN s 0))).length)++[34]) else s.drop (paramN s 0+(opG (s.drop (paramN s 0))).length))).2)
    else (cutG ((g (s.take (paramN s 0))).getD []) (opG (s.drop (paramN s 0))) (P (if q=true then 34 :: (s.drop (paramN s 0+(opG (s.drop (paramN s 0))).length)++[34]) else s.drop (paramN s 0+(opG (s.drop (paramN s 0))).length))).1,0)):=by
   unfold braG;rw [if_neg HC1.out,if_neg h0]
  have hvl:=hgl' (s.take (paramN s 0));have HGn:=j7c fun W (hW:Below w0.heap.size w0 W)=>HG.out (s.take (paramN s 0)) W hW (by rw [List.length_take];omega);have HOp:=j7c fun W=>zih (s.drop (paramN s 0)) W;have HIn:=j7c (opG_in (s.drop (paramN s 0)));have hol:=opG_len (s.drop (paramN s 0));rw [List.drop_drop] at HOp;have hnl:paramN s 0≤s.length:=by simpa using hn0
  have hwl:(s.drop (paramN s 0+(opG (s.drop (paramN s 0))).length)).length+paramN s 0+(opG (s.drop (paramN s 0))).length=s.length:=by
   rw [List.length_drop];have:=hol.1;rw [List.length_drop] at this;omega
  have HQ:=j7c hbr;clear hbr HP1 hn1 HC1 hgl' hgl hg HG;generalize braG T P g s q=R at *;generalize (g (s.take (paramN s 0))).getD []=v at *;generalize (g (s.take (paramN s 0))).isSome=has at *;generalize s.drop (paramN s 0+(opG (s.drop (paramN s 0))).length)=wd at *;generalize opG (s.drop (paramN s 0))=op at *;generalize paramN s 0=n at *;have k0:((n:Int) == 0)=false:=by rw [beq_eq_false_iff_ne];omega
  have k1:(0:Int)≤(n:Int):=by omega
  have k2:(n:Int)≤(s.length:Int):=by omega
  have k3:n≤s.length:=hnl;have hn1':1≤n:=by omega
  clear h0
  go_upto_region 10 with (first
   | (go_at_call 158;refine (HP0.out _).mono ?_;rintro e w2 ⟨rfl,hb⟩;have HB2:=j7c (zb HB1.out hb);clear hb)
   | (go_at_call 133;refine (HGn.out _ HB2.out).mono ?_;rintro e w3 ⟨rfl,hb⟩;have HB3:=j7c (zb HB2.out hb);clear hb)
   | (go_at_call 160;refine (HOp.out _).mono ?_;rintro e w4 ⟨rfl,hb⟩;have HB4:=j7c (zb HB3.out hb);clear hb))
  have hw0:wd.length≤30000:=by omega
  obtain ⟨wq,hwq⟩:∃ wq,wq=if q=true then 34 :: (wd++[34]) else wd:=⟨_,rfl⟩
  have hwl2:op≠[]→wq.length≤s.length:=by
   intro ho;have:=List.length_pos_iff.2 ho;rw [hwq]
   split
   ·simp;omega
   ·omega
  rw [← hwq] at HQ;have HTT:=j7c fun (ho:op≠[]) W (hW:Below w0.heap.size w0 W)=>hT wq W hW (hwl2 ho);have HPP:=j7c fun (ho:op≠[]) W (hW:Below w0.heap.size w0 W)=>hP wq W hW (hwl2 ho);have HPL:=j7c (hPl wq);have HM:=j7c hm;clear hT hP hPl hwl2 hwl hol HGn HOp HP0 hm;generalize T wq=rT at *;generalize P wq=rP at *;obtain ⟨tT,eT⟩:=rT;obtain ⟨tP,eP⟩:=rP;unfold ResP at HTT HPP;dsimp only at HTT HPP HPL HQ
  cases q with
  | true =>
   rw [if_pos rfl] at hwq;subst hwq;rcases HIn.out with h|h|h|h
   ·subst h
    rw [if_pos rfl] at HQ;by_cases hlt:n<s.length
    ·rw [if_pos hlt] at HQ
     have d0:decide ((n:Int)<(s.length:Int))=true:=decide_eq_true (by omega);have d1:decide (n<s.length)=true:=decide_eq_true hlt;clear hlt;go_wp2_with fail;go_ret2;exact ⟨by rw [HQ.out];rfl,HB4.out⟩
    ·rw [if_neg hlt] at HQ
     have d0:=no (show ¬ (n:Int)<(s.length:Int) by omega);have d1:=no hlt;clear hlt;go_wp2_with fail;go_ret2;exact ⟨by rw [HQ.out];rfl,HB4.out⟩
   ·rcases h with h|h|h|h
    all_goals
     subst h;have HQ:=j7c (HQ.out.trans (by rw [if_neg (by decide),if_pos (by decide)]:_=(([],8):Res)));go_wp2_with fail;go_ret2;exact ⟨by rw [HQ.out];rfl,HB4.out⟩
   ·replace HTT:=j7c fun W hW=>HTT.out (by rcases h with h|h|h|h <;> (rw [h];decide)) W hW
    have HCH:=j7c fun W=>zf5 v op has W h;generalize chooseG v has op=C at *;obtain ⟨cv,cw⟩:=C;rcases h with h|h|h|h
    all_goals
     subst h;have HQ:=j7c (HQ.out.trans (by rw [if_neg (by decide),if_neg (by decide),if_pos (by decide)]:_=(if cw=true then ((tT,eT):Res) else (cv,0))))
     cases cw with
     | true =>
      go_wp2_with (first
       | (go_at_call 161;refine (HCH.out _).mono ?_;rintro e w5 ⟨rfl,rfl⟩)
       | (go_at_call 162;refine (HTT.out _ HB4.out).mono ?_;rintro e w6 ⟨rfl,hb⟩;have HB6:=j7c (zb HB4.out hb);clear hb))
      go_ret2;exact ⟨by rw [HQ.out];rfl,HB6.out⟩
     | false =>
      go_wp2_with (go_at_call 161;refine (HCH.out _).mono ?_;rintro e w5 ⟨rfl,rfl⟩)
      go_ret2;exact ⟨by rw [HQ.out];rfl,HB4.out⟩
   ·replace HPP:=j7c fun W hW=>HPP.out (by rcases h with h|h|h|h <;> (rw [h];decide)) W hW
    have HCU:=j7c fun W (hW:Below w0.heap.size w0 W)=>zle v op tP W (HM.out.below hW) h (by omega) (by have:=HPL.out;omega);generalize cutG v op tP=cv at *;rcases h with h|h|h|h
    all_goals
     subst h;have HQ:=j7c (HQ.out.trans (by rw [if_neg (by decide),if_neg (by decide),if_neg (by decide)]:_=(if eP≠0 then (([],eP):Res) else (cv,0))));by_cases he:eP=0
     ·subst he
      go_wp2_with (first
       | (go_at_call 163;refine (HPP.out _ HB4.out).mono ?_;rintro e w6 ⟨rfl,hb⟩;have HB6:=j7c (zb HB4.out hb);clear hb)
       | (go_at_call 164;refine (HCU.out _ HB6.out).mono ?_;rintro e w7 ⟨rfl,hb⟩;have HB7:=j7c (zb HB6.out hb);clear hb))
      go_ret2;exact ⟨by rw [HQ.out];rfl,HB7.out⟩
     ·have e1:(eP == 0)=false:=by simpa using he
      have e2:(eP != 0)=true:=by simpa using he
      have HQ:=j7c (HQ.out.trans (if_pos he));clear he
      go_wp2_with (go_at_call 163;refine (HPP.out _ HB4.out).mono ?_;rintro e w6 ⟨rfl,hb⟩;have HB6:=j7c (zb HB4.out hb);clear hb)
      go_ret2;exact ⟨by rw [HQ.out];rfl,HB6.out⟩
  | false =>
   rw [if_neg (by decide)] at hwq;subst hwq;rcases HIn.out with h|h|h|h
   ·subst h
    rw [if_pos rfl] at HQ;by_cases hlt:n<s.length
    ·rw [if_pos hlt] at HQ
     have d0:decide ((n:Int)<(s.length:Int))=true:=decide_eq_true (by omega);have d1:decide (n<s.length)=true:=decide_eq_true hlt;clear hlt;go_wp2_with fail;go_ret2;exact ⟨by rw [HQ.out];rfl,HB4.out⟩
    ·rw [if_neg hlt] at HQ
     have d0:=no (show ¬ (n:Int)<(s.length:Int) by omega);have d1:=no hlt;clear hlt;go_wp2_with fail;go_ret2;exact ⟨by rw [HQ.out];rfl,HB4.out⟩
   ·rcases h with h|h|h|h
    all_goals
     subst h;have HQ:=j7c (HQ.out.trans (by rw [if_neg (by decide),if_pos (by decide)]:_=(([],8):Res)));go_wp2_with fail;go_ret2;exact ⟨by rw [HQ.out];rfl,HB4.out⟩
   ·replace HTT:=j7c fun W hW=>HTT.out (by rcases h with h|h|h|h <;> (rw [h];decide)) W hW
    have HCH:=j7c fun W=>zf5 v op has W h;generalize chooseG v has op=C at *;obtain ⟨cv,cw⟩:=C;rcases h with h|h|h|h
    all_goals
     subst h;have HQ:=j7c (HQ.out.trans (by rw [if_neg (by decide),if_neg (by decide),if_pos (by decide)]:_=(if cw=true then ((tT,eT):Res) else (cv,0))))
     cases cw with
     | true =>
      go_wp2_with (first
       | (go_at_call 161;refine (HCH.out _).mono ?_;rintro e w5 ⟨rfl,rfl⟩)
       | (go_at_call 162;refine (HTT.out _ HB4.out).mono ?_;rintro e w6 ⟨rfl,hb⟩;have HB6:=j7c (zb HB4.out hb);clear hb))
      go_ret2;exact ⟨by rw [HQ.out];rfl,HB6.out⟩
     | false =>
      go_wp2_with (go_at_call 161;refine (HCH.out _).mono ?_;rintro e w5 ⟨rfl,rfl⟩)
      go_ret2;exact ⟨by rw [HQ.out];rfl,HB4.out⟩
   ·replace HPP:=j7c fun W hW=>HPP.out (by rcases h with h|h|h|h <;> (rw [h];decide)) W hW
    have HCU:=j7c fun W (hW:Below w0.heap.size w0 W)=>zle v op tP W (HM.out.below hW) h (by omega) (by have:=HPL.out;omega);generalize cutG v op tP=cv at *;rcases h with h|h|h|h
    all_goals
     subst h;have HQ:=j7c (HQ.out.trans (by rw [if_neg (by decide),if_neg (by decide),if_neg (by decide)]:_=(if eP≠0 then (([],eP):Res) else (cv,0))));by_cases he:eP=0
     ·subst he
      go_wp2_with (first
       | (go_at_call 163;refine (HPP.out _ HB4.out).mono ?_;rintro e w6 ⟨rfl,hb⟩;have HB6:=j7c (zb HB4.out hb);clear hb)
       | (go_at_call 164;refine (HCU.out _ HB6.out).mono ?_;rintro e w7 ⟨rfl,hb⟩;have HB7:=j7c (zb HB6.out hb);clear hb))
      go_ret2;exact ⟨by rw [HQ.out];rfl,HB7.out⟩
     ·have e1:(eP == 0)=false:=by simpa using he
      have e2:(eP != 0)=true:=by simpa using he
      have HQ:=j7c (HQ.out.trans (if_pos he));clear he
      go_wp2_with (go_at_call 163;refine (HPP.out _ HB4.out).mono ?_;rintro e w6 ⟨rfl,hb⟩;have HB6:=j7c (zb HB4.out hb);clear hb)
      go_ret2;exact ⟨by rw [HQ.out];rfl,HB6.out⟩
end Go.Proofs.YtjcdmjdofdnaoaaGreatDoor.Ex
