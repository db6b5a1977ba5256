/-
  The walks of layer 25 (expand), on: whether a piece is ended; what stands between braces; what stands for a piece. Conditions: texts of at most 2^20 bytes; values of less than 100 bytes; the library's variable MaxLen holds some number.
-/
import Derived.Test.YtfmecpnokefokaaGreatDoorExp1
set_option linter.unusedSimpArgs false
set_option linter.unusedVariables false
namespace Go.Proofs.YtfmecpnokefokaaGreatDoor.Ex
open Go.ChangeShapes Go.WideShapes Go.Deep Go.RowKit Cls Md Mc Pa Li Pat
set_option maxRecDepth 100000
theorem _root_.Go.Proofs.YtfmecpnokefokaaGreatDoor.j7i {p:Prop} (h:p):Go.RowKit.Hid p:=Go.Lib.hid h
theorem zj9 (w:World):Calls Tryz.prog 149 #[] w fun e w'=>e = .returned (.slice (some ⟨w.heap.size,0,none⟩) 12 12)∧BoxN w' w.heap.size (opsL.map fun o=>.string (B o))∧Below w.heap.size w w':=by
 have HX:=j7i (BoxN.new w (opsL.map fun o=>.string (B o)) 9);have HB:=j7i (za (Below.refl w.heap.size w) (.cells (opsL.map fun o=>.string (B o)).toArray 9));go_enter Tryz.func149,Tryz.ntmps149;go_wp2;go_ret;exact ⟨rfl,HX.out,HB.out⟩
theorem zm1 {α : Type} {q : α → Bool}:∀ {l:List α} {k:Nat} {o : α},l[k]?=some o→q o=true→(∀ a∈l.take k,q a=false)→l.find? q=some o
 | [],_,_,h,_,_=>by simp at h
 | a :: l,0,o,h,hq,_=>by
  have:a=o:=by simpa using h
  rw [this,List.find?_cons_of_pos hq]
 | a :: l,k+1,o,h,hq,hn=>by
  rw [List.find?_cons_of_neg (by rw [hn a (by simp)];decide)];exact zm1 (by simpa using h) hq (fun b hb=>hn b (by simp [hb]))
set_option maxHeartbeats 1600000 in
theorem zkq (s:List UInt8) (w:World):Calls Tryz.prog 124 #[.string (B s)] w fun e w'=>e = .returned (.tuple #[.string (B (opG s)),.string (B (s.drop (opG s).length))])∧Below w.heap.size w w':=by
 have HO:=j7i (zj9 w);have HF:=j7i (ops_find s);generalize opG s=R at *;go_enter Tryz.func124,Tryz.ntmps124
 go_wp2_with (go_at_call 149;refine HO.out.mono ?_;rintro e w1 ⟨rfl,hx,hb⟩;have HX:=j7i hx;have HB:=j7i hb;clear hx hb)
 have HCP:=j7i (zl8 s)
 go_loopw [10] (fun i wr=>∃ k:Nat,k≤12∧i = .int .i64 k∧Hid (∀ o∈opsL.take k,Lib.hasPrefix s o=false)∧w1=wr) (fun i _=>12 - (intOf i).toNat)
 case atStart=>exact ⟨0,by omega,rfl,fun o ho=>by simp at ho,rfl⟩
 case round =>
  obtain ⟨k,hk,rfl,HN,rfl⟩:=hrel;by_cases hlt:k<12
  ·obtain ⟨o,ho⟩:∃ o,opsL[k]?=some o:=⟨_,List.getElem?_eq_getElem (show k<opsL.length from hlt)⟩
   have e0:w1.cell? ⟨w.heap.size,k,none⟩=some (.string (B o)):=HX.out.c k _ (by rw [List.getElem?_map,ho];rfl)
   haveI:Old w1 w.heap.size:=⟨HX.out.lt⟩
   have k0:(0:Int)≤(k:Int):=by omega
   have k1:(k:Int)<12:=by omega
   have HC:=j7i (HCP.out o w1);have HOO:=j7i ho;clear ho
   cases hq:Lib.hasPrefix s o with
   | true =>
    rw [hq] at HC
    have HR:=j7i (show R=o by
     have:=zm1 (q:=fun o=>Lib.hasPrefix s o) HOO.out hq HN.out
     rw [← HF.out,this];rfl)
    have HT:=j7i (show Lib.trimPrefix s o=s.drop o.length by unfold Lib.trimPrefix;rw [if_pos hq]);rw [HT.out] at HC;clear hq
    go_wp2_with (go_at_call 150;refine HC.out.mono ?_;rintro e w2 ⟨rfl,rfl⟩)
    go_ret2;exact ⟨by rw [HR.out];rfl,HB.out⟩
   | false =>
    rw [hq] at HC
    have HN2:=j7i (show ∀ a∈opsL.take (k+1),Lib.hasPrefix s a=false from fun a ha=>by
     rw [List.take_add_one,HOO.out] at ha;rcases List.mem_append.1 ha with ha|ha
     ·exact HN.out a ha
     ·obtain rfl:a=o:=by simpa using ha
      exact hq)
    clear hq
    go_wp2_with (go_at_call 150;refine HC.out.mono ?_;rintro e w2 ⟨rfl,rfl⟩)
    go_roundw
    case rel=>exact ⟨k+1,by omega,by go_num,HN2.out,trivial⟩
    case measure=>simp [intOf];omega
  ·have hk2:k=12:=by omega
   subst hk2
   have HR:=j7i (show R=[] by
    rw [← HF.out]
    have:(opsL.find? fun o=>Lib.hasPrefix s o)=none:=List.find?_eq_none.2 fun a ha=>by
     have:=HN.out a (by rw [List.take_of_length_le (by decide)];exact ha);rw [this];decide
    rw [this];rfl)
   clear hlt;go_wp2;go_ret2;exact ⟨by rw [HR.out];rfl,HB.out⟩
theorem zd2 {f:Nat→Bool}:∀ {n:Nat} {e:Int},e∈evs f n→∃ k:Nat,k<n∧e=(k:Int)
 | 0,e,h=>by simp [evs] at h
 | n+1,e,h=>by
  unfold evs at h
  split at h
  ·rcases List.mem_append.1 h with h|h
   ·obtain ⟨k,h1,h2⟩:=zd2 h
    exact ⟨k,by omega,h2⟩
   ·exact ⟨n,by omega,by simpa using h⟩
  ·obtain ⟨k,h1,h2⟩:=zd2 h
   exact ⟨k,by omega,h2⟩
theorem zkr {w:World} {b0 g off n c:Nat} {N:List Int} (h:Own w b0 1 (.slice (some ⟨g,off,none⟩) n c) n (N.flatMap numC)) {k:Nat} {a:Int} (hk:N[k]?=some a) (hn:0<n):g<w.heap.size∧w.cell? ⟨g,off+k,none⟩=some (.int .i64 a):=by
 rcases h.2 with ⟨h0,_⟩|⟨g',off',c',e,h1,h2,h3,h4,h5,h6⟩
 ·omega
 ·cases e
  refine ⟨h2,h6 k _ ?_⟩
  have:∀ (N:List Int) (k:Nat),N[k]?=some a→(N.flatMap numC)[k]?=some (.int .i64 a):=by
   intro N
   induction N with
   | nil=>intro k hk;simp at hk
   | cons b r ih =>
    intro k hk
    cases k with
    | zero=>simp at hk;subst hk;rfl
    | succ k=>exact ih k (by simpa using hk)
  exact this N k hk
theorem zpy {E:List Int} {m:Nat} (h:E.length=m+1):E[0]?=some (E.headD 0)∧E[m]?=some (E.getLastD 0):=by
 cases E with
 | nil=>simp at h
 | cons a r =>
  refine ⟨rfl,?_⟩;have hl:r.length=m:=by simpa using h
  rw [List.getLastD_cons,List.getLastD_eq_getLast?,List.getLast?_eq_getElem?]
  cases r with
  | nil=>simp at hl;subst hl;rfl
  | cons b t =>
   simp only [List.length_cons] at hl;subst hl;simp
theorem zdb {w:World} {b0 sz n:Nat} {v:Value} {xs:List Value} (h:Own w b0 sz v n xs):n≤9223372036854775807:=by
 rcases Nat.eq_zero_or_pos n with h0|h0
 ·omega
 ·obtain ⟨_,_,_,_,_,_,q1,q2⟩:=h.form' h0
  omega
def Cuts (op:List UInt8):Prop:=op=[37]∨op=[37,37]∨op=[35]∨op=[35,35]
set_option maxHeartbeats 3200000 in
theorem zm2 (v op p:List UInt8) (w:World) (hm:MaxL w) (ho:Cuts op) (hv:v.length≤268435456) (hp:p.length≤268435456):Calls Tryz.prog 126 #[.string (B v),.string (B op),.string (B p)] w fun e w'=>e = .returned (.string (B (cutG v op p)))∧Below w.heap.size w w':=by
 have HT:=j7i (zrw p v w hm (by omega) (by omega));have HH:=j7i (zrv p v w hm (by omega) (by omega));unfold EvP at HT HH;have hmT:=fun e (h:e∈evs (fun n=>gm (parse p) (v.drop n)) (v.length+1))=>zd2 h;have hmH:=fun e (h:e∈evs (fun n=>gm (parse p) (v.take n)) (v.length+1))=>zd2 h;unfold cutG;dsimp only;generalize evs (fun n=>gm (parse p) (v.drop n)) (v.length+1)=ET at *;generalize evs (fun n=>gm (parse p) (v.take n)) (v.length+1)=EH at *
 have key:∀ (E:List Int) (u:Value) (w1:World),(∀ e∈E,∃ k:Nat,k<v.length+1∧e=(k:Int))→Own w1 w.heap.size 1 u E.length (E.flatMap numC)→E≠[] →
   ∃ (m g off c k0 kL:Nat),E.length=m+1∧u = .slice (some ⟨g,off,none⟩) (m+1) c∧g<w1.heap.size∧w1.cell? ⟨g,off,none⟩=some (.int .i64 k0)∧w1.cell? ⟨g,off+m,none⟩=some (.int .i64 kL)∧k0≤v.length∧kL≤v.length∧E.headD 0=k0∧E.getLastD 0=kL:=by
  intro E u w1 hE hO hne
  obtain ⟨m,hml⟩:∃ m,E.length=m+1:=⟨E.length - 1,by have:=List.length_pos_iff.2 hne;omega⟩
  obtain ⟨h0,hL⟩:=zpy hml;rw [hml] at hO;obtain ⟨g,off,c,rfl,-,hg,-,-⟩:=hO.form;obtain ⟨k0,q0,e0⟩:=hE _ (List.mem_of_getElem? h0);obtain ⟨kL,qL,eL⟩:=hE _ (List.mem_of_getElem? hL);have c0:=(zkr hO h0 (by omega)).2;have cL:=(zkr hO hL (by omega)).2;rw [e0,Nat.add_zero] at c0;rw [eL] at cL;exact ⟨m,g,off,c,k0,kL,hml,rfl,hg,c0,cL,by omega,by omega,e0,eL⟩
 have HK:=j7i key;have HmT:=j7i hmT;have HmH:=j7i hmH;clear key hmT hmH hm;rcases ho with rfl|rfl|rfl|rfl
 ·rw [if_pos (.inl rfl)]
  by_cases hE:ET=[]
  ·subst hE
   rw [if_pos rfl];go_enter Tryz.func126,Tryz.ntmps126
   go_wp2_with (go_at_call 152;refine HT.out.mono ?_;rintro e w1 ⟨u,rfl,ho,hb⟩;obtain ⟨A,c,rfl,-⟩:=ho.form0;have HB:=j7i hb;clear ho hb)
   go_ret;exact ⟨rfl,HB.out⟩
  ·rw [if_neg hE,if_neg (by decide)]
   have HE:=j7i hE;clear hE;go_enter Tryz.func126,Tryz.ntmps126
   go_wp2_with (go_at_call 152;refine HT.out.mono ?_;rintro e w1 ⟨u,rfl,ho,hb⟩;obtain ⟨m,g,off,c,k0,kL,hml,rfl,hg,c0,cL,l0,lL,e0,eL⟩:=HK.out _ _ _ HmT.out ho HE.out;haveI:Old w1 g:=⟨hg⟩;have HB:=j7i hb;have HL:=j7i eL;have hm0:(0:Int)≤(m:Int):=(by omega);have hm1:(m:Int)<(m:Int)+1:=(by omega);have hm2:(0:Int)<(m:Int)+1:=(by omega);have hm3:((m:Int)+1 == 0)=false:=(by rw [beq_eq_false_iff_ne];omega);have hmm:=zdb ho;have hm4:(m:Int)+1≤9223372036854775807:=(by omega);have q0:(0:Int)≤(kL:Int):=(by omega);have q1:(kL:Int)≤(v.length:Int):=(by omega);clear ho hb e0 eL hml hmm)
   go_ret;exact ⟨by rw [HL.out];rfl,HB.out⟩
 ·rw [if_pos (.inr rfl)]
  by_cases hE:ET=[]
  ·subst hE
   rw [if_pos rfl];go_enter Tryz.func126,Tryz.ntmps126
   go_wp2_with (go_at_call 152;refine HT.out.mono ?_;rintro e w1 ⟨u,rfl,ho,hb⟩;obtain ⟨A,c,rfl,-⟩:=ho.form0;have HB:=j7i hb;clear ho hb)
   go_ret;exact ⟨rfl,HB.out⟩
  ·rw [if_neg hE,if_pos (by decide)]
   have HE:=j7i hE;clear hE;go_enter Tryz.func126,Tryz.ntmps126
   go_wp2_with (go_at_call 152;refine HT.out.mono ?_;rintro e w1 ⟨u,rfl,ho,hb⟩;obtain ⟨m,g,off,c,k0,kL,hml,rfl,hg,c0,cL,l0,lL,e0,eL⟩:=HK.out _ _ _ HmT.out ho HE.out;haveI:Old w1 g:=⟨hg⟩;have HB:=j7i hb;have HL:=j7i e0;have hm0:(0:Int)≤(m:Int):=(by omega);have hm1:(m:Int)<(m:Int)+1:=(by omega);have hm2:(0:Int)<(m:Int)+1:=(by omega);have hm3:((m:Int)+1 == 0)=false:=(by rw [beq_eq_false_iff_ne];omega);have hmm:=zdb ho;have hm4:(m:Int)+1≤9223372036854775807:=(by omega);have q0:(0:Int)≤(k0:Int):=(by omega);have q1:(k0:Int)≤(v.length:Int):=(by omega);clear ho hb e0 eL hml hmm)
   go_ret;exact ⟨by rw [HL.out];rfl,HB.out⟩
 ·rw [if_neg (by decide)]
  by_cases hE:EH=[]
  ·subst hE
   rw [if_pos rfl];go_enter Tryz.func126,Tryz.ntmps126
   go_wp2_with (go_at_call 153;refine HH.out.mono ?_;rintro e w1 ⟨u,rfl,ho,hb⟩;obtain ⟨A,c,rfl,-⟩:=ho.form0;have HB:=j7i hb;clear ho hb)
   go_ret;exact ⟨rfl,HB.out⟩
  ·rw [if_neg hE,if_neg (by decide)]
   have HE:=j7i hE;clear hE;go_enter Tryz.func126,Tryz.ntmps126
   go_wp2_with (go_at_call 153;refine HH.out.mono ?_;rintro e w1 ⟨u,rfl,ho,hb⟩;obtain ⟨m,g,off,c,k0,kL,hml,rfl,hg,c0,cL,l0,lL,e0,eL⟩:=HK.out _ _ _ HmH.out ho HE.out;haveI:Old w1 g:=⟨hg⟩;have HB:=j7i hb;have HL:=j7i e0;have hm0:(0:Int)≤(m:Int):=(by omega);have hm1:(m:Int)<(m:Int)+1:=(by omega);have hm2:(0:Int)<(m:Int)+1:=(by omega);have hm3:((m:Int)+1 == 0)=false:=(by rw [beq_eq_false_iff_ne];omega);have hmm:=zdb ho;have hm4:(m:Int)+1≤9223372036854775807:=(by omega);have q0:(0:Int)≤(k0:Int):=(by omega);have q1:(k0:Int)≤(v.length:Int):=(by omega);clear ho hb e0 eL hml hmm)
   go_ret;exact ⟨by rw [HL.out];rfl,HB.out⟩
 ·rw [if_neg (by decide)]
  by_cases hE:EH=[]
  ·subst hE
   rw [if_pos rfl];go_enter Tryz.func126,Tryz.ntmps126
   go_wp2_with (go_at_call 153;refine HH.out.mono ?_;rintro e w1 ⟨u,rfl,ho,hb⟩;obtain ⟨A,c,rfl,-⟩:=ho.form0;have HB:=j7i hb;clear ho hb)
   go_ret;exact ⟨rfl,HB.out⟩
  ·rw [if_neg hE,if_pos (by decide)]
   have HE:=j7i hE;clear hE;go_enter Tryz.func126,Tryz.ntmps126
   go_wp2_with (go_at_call 153;refine HH.out.mono ?_;rintro e w1 ⟨u,rfl,ho,hb⟩;obtain ⟨m,g,off,c,k0,kL,hml,rfl,hg,c0,cL,l0,lL,e0,eL⟩:=HK.out _ _ _ HmH.out ho HE.out;haveI:Old w1 g:=⟨hg⟩;have HB:=j7i hb;have HL:=j7i eL;have hm0:(0:Int)≤(m:Int):=(by omega);have hm1:(m:Int)<(m:Int)+1:=(by omega);have hm2:(0:Int)<(m:Int)+1:=(by omega);have hm3:((m:Int)+1 == 0)=false:=(by rw [beq_eq_false_iff_ne];omega);have hmm:=zdb ho;have hm4:(m:Int)+1≤9223372036854775807:=(by omega);have q0:(0:Int)≤(kL:Int):=(by omega);have q1:(kL:Int)≤(v.length:Int):=(by omega);clear ho hb e0 eL hml hmm)
   go_ret;exact ⟨by rw [HL.out];rfl,HB.out⟩
theorem open_any (p:Pc) (w:World) (hp:p.tx.length≤268435456):Calls Tryz.prog 88 #[.agg #[.bool p.ex,.bool p.qu,.string (B p.tx)]] w fun e w'=>e = .returned (.bool (openG p))∧Below w.heap.size w w':=by
 obtain ⟨ex,qu,tx⟩:=p;dsimp only at hp ⊢;have HB:=j7i (za (Below.refl w.heap.size w) (.cells #[.bool ex,.bool qu,.string (B tx)] 35));have ht:(1:Int)+(tx.length:Int)≤9223372036854775807:=by omega
 cases qu with
 | true =>
  have HC:=j7i fun W=>zgo (34 :: tx) W (by simp;omega);have HO:=j7i (show openG ⟨ex,true,tx⟩=(closL (run (34 :: tx)).l != [34]) from rfl);generalize openG ⟨ex,true,tx⟩=R at *;generalize closL (run (34 :: tx)).l=L at *;go_enter Tryz.func88,Tryz.ntmps88
  go_wp2_with (go_at_call 121;refine (HC.out _).mono ?_;rintro e w1 ⟨rfl,hb⟩;have HB2:=j7i (zb HB.out hb);clear hb)
  go_ret;exact ⟨by rw [HO.out];rfl,HB2.out⟩
 | false =>
  have HC:=j7i fun W=>zgo tx W (by omega);have HO:=j7i (show openG ⟨ex,false,tx⟩=(closL (run tx).l != []) from rfl);generalize openG ⟨ex,false,tx⟩=R at *;generalize closL (run tx).l=L at *;go_enter Tryz.func88,Tryz.ntmps88
  go_wp2_with (go_at_call 121;refine (HC.out _).mono ?_;rintro e w1 ⟨rfl,hb⟩;have HB2:=j7i (zb HB.out hb);clear hb)
  go_ret;exact ⟨by rw [HO.out];cases L <;> rfl,HB2.out⟩
theorem zpz (s:List UInt8) (w:World) (hs:s.length≤1073741824):Calls Tryz.prog 111 #[.string (B s),.int .i64 1] w fun e w'=>e = .returned (.int .i64 (paramN s 1))∧Below w.heap.size w w':=by
 cases s with
 | nil =>
  have HN:=j7i (show Calls Tryz.prog 79 #[.string (B []),.int .i64 1] w fun e w'=>e = .returned (.int .i64 0)∧w=w' by
   have HS:=j7i (show Calls Tryz.prog 114 #[.string (B []),.int .i64 1,.func (.func 115) #[] #[]] w fun e w'=>e = .returned (.int .i64 0)∧w=w' by
    go_enter Tryz.func114,Tryz.ntmps114;go_wp2
    go_step3
    go_wp2;rw [Exit.noGoto_ret];go_ret
    exact ⟨rfl,rfl⟩)
   go_enter Tryz.func79,Tryz.ntmps79
   go_wp2_with (go_at_call 114;refine HS.out.mono ?_;rintro e w1 ⟨rfl,rfl⟩)
   go_ret
   exact ⟨rfl,rfl⟩)
  go_enter Tryz.func111,Tryz.ntmps111
  go_wp2_with (go_at_call 79;refine HN.out.mono ?_;rintro e w1 ⟨rfl,rfl⟩)
  go_ret;exact ⟨rfl,Below.refl _ _⟩
 | cons c r=>exact zfs (c :: r) 1 w hs (by simp)
theorem opG_in (s:List UInt8):opG s=[]∨(opG s=[58,61]∨opG s=[61]∨opG s=[58,63]∨opG s=[63])∨Four (opG s)∨Cuts (opG s):=by
 unfold opG Four Cuts
 match s with
 | []=>simp
 | c :: r =>
  dsimp only;by_cases h1:c=58
  ·subst h1
   rw [if_pos rfl]
   cases r with
   | nil=>simp
   | cons d t =>
    dsimp only
    split
    ·rename_i h
     rcases h with rfl|rfl|rfl|rfl <;> simp
    ·simp
  ·rw [if_neg h1]
   split
   ·rename_i h
    rcases h.1 with rfl|rfl <;> simp
   ·split
    ·rename_i h
     rcases h with rfl|rfl|rfl|rfl|rfl|rfl <;> simp
    ·simp
theorem opG_len (s:List UInt8):(opG s).length≤s.length∧(opG s).length≤2:=by
 unfold opG
 match s with
 | []=>simp
 | [c] =>
  dsimp only
  split
  ·simp
  ·split
   ·rename_i h;simp at h
   ·split <;> simp
 | c :: d :: r =>
  dsimp only
  split
  ·split <;> simp
  ·split
   ·simp
   ·split <;> simp
def ItoaC (w0:World) (M:Nat):Prop:=∀ n,n<M→∀ W,Below w0.heap.size w0 W→Calls Tryz.prog 123 #[.int .i64 n] W fun e w'=>e = .returned (.string (B (Lib.decDigits n)))∧Below W.heap.size W w'
theorem ItoaC.below {w0 w1:World} {M:Nat} (h:ItoaC w0 M) (hb:Below w0.heap.size w0 w1):ItoaC w1 M:=fun n hn W hW=>h n hn W (zb hb hW)
theorem zn3 (w0:World):ItoaC w0 100:=fun n hn W _=>(Tryz.strconv_Itoa_small n hn W).mono fun e w' ⟨he,hw⟩=>⟨he,by rw [hw];exact Below.refl _ _⟩
def ResP (r:Res) (w:World) (e:Ending) (w':World):Prop:=e = .returned (.tuple #[.string (B r.1),.int .i64 r.2])∧Below w.heap.size w w'
set_option maxHeartbeats 6400000 in
theorem zn4 {w0:World} {vv:Value} {g:Look} {T P:List UInt8→Res} (s:List UInt8) (q:Bool) (hm:MaxL w0) (hg:GetC w0 vv g) {M:Nat} (hM0:0<M) (hM:M≤1048577) (hI:ItoaC w0 M) (hgl:∀ a v,g a=some v→v.length<M) (hs:s.length≤30000)
  (hT:∀ (u:List UInt8) (W:World),Below w0.heap.size w0 W→u.length≤s.length→Calls Tryz.prog 16 #[vv,.string (B u)] W (ResP (T u) W))
  (hP:∀ (u:List UInt8) (W:World),Below w0.heap.size w0 W→u.length≤s.length→Calls Tryz.prog 17 #[vv,.string (B u)] W (ResP (P u) W)) (hPl:∀ u,(P u).1.length≤2097152) :
  Calls Tryz.prog 90 #[vv,.string (B s),.bool q] w0 (ResP (braG T P g s q) w0):=by
 have HP1:=j7i (zpz s w0 (by omega));have HP0:=j7i fun W=>zfs s 0 W (by omega) (by omega);have hn1:=za3 s 1;have hn0:=za3 s 0
 have hgl':∀ a,((g a).getD []).length<M:=fun a=>by
  cases h:g a with
  | none=>simpa using hM0
  | some v=>exact hgl a v h
 have HG:=j7i fun (a:List UInt8) (W:World) (hW:Below w0.heap.size w0 W) (ha:a.length≤30000)=>hg a W hW (by omega);by_cases c1:s.head?=some 35∧0<paramN s 1∧1+paramN s 1=s.length
 ·have HR:=j7i (show braG T P g s q=(Lib.decDigits ((g (s.drop 1)).getD []).length,0) by unfold braG;rw [if_pos c1])
  obtain ⟨c1,c2,c3⟩:=c1;obtain ⟨r,rfl⟩:∃ r,s=35 :: r:=by cases s with|nil=>cases c1|cons a r=>injection c1 with c1;exact ⟨r,by rw [c1]⟩
  have HG1:=j7i fun W (hW:Below w0.heap.size w0 W)=>HG.out r W hW (by simp at hs;omega);have hlen:=hgl' r;rw [List.drop_one,List.tail_cons] at HR;generalize (g r).getD []=v at *;generalize (g r).isSome=has at *;have HI:=j7i fun W (hW:Below w0.heap.size w0 W)=>hI v.length hlen W hW;clear hI;generalize paramN (35 :: r) 1=n1 at *;have d1:decide ((0:Int)<(n1:Int))=true:=decide_eq_true (by omega);have d2:((1:Int)+(n1:Int) == (r.length:Int)+1)=true:=by simp at c3 ⊢;omega
  go_enter Tryz.func90,Tryz.ntmps90
  go_wp2_with (first
   | (go_at_call 111;refine HP1.out.mono ?_;rintro e w1 ⟨rfl,hb⟩;have HB1:=j7i hb;clear hb)
   | (go_at_call 91;refine (HG1.out _ HB1.out).mono ?_;rintro e w2 ⟨rfl,hb⟩;have HB2:=j7i (zb HB1.out hb);clear hb)
   | (go_at_call 123;refine (HI.out _ HB2.out).mono ?_;rintro e w3 ⟨rfl,hb⟩;have HB3:=j7i (zb HB2.out hb);clear hb))
  go_ret2;exact ⟨by rw [HR.out];rfl,HB3.out⟩
 clear hI;have HC1:=j7i c1;clear c1;go_enter Tryz.func90,Tryz.ntmps90;go_upto_region 2 with (go_at_call 111;refine HP1.out.mono ?_;rintro e w1 ⟨rfl,hb⟩;have HB1:=j7i hb;clear hb)
 go_cut [39] from 22 to 38 (fun s39 wx=>s39 = .bool false∧wx=w1)
 case first =>
  clear HG HP0 hgl' hn0 hT hP hPl hg hgl hm
  cases s with
  | nil =>
   go_wp2_with fail;go_meet;exact ⟨rfl,rfl⟩
  | cons c r =>
   by_cases hc:c=35
   ·subst hc
    have h1:=HC1.out;generalize paramN (35 :: r) 1=n1 at *;by_cases h2:0<n1
    ·have d1:decide ((0:Int)<(n1:Int))=true:=decide_eq_true (by omega)
     have d2:((1:Int)+(n1:Int) == (r.length:Int)+1)=false:=by
      rw [beq_eq_false_iff_ne];intro h;exact h1 ⟨rfl,h2,by simp;omega⟩
     have d3:(1:Int)+(n1:Int)≤9223372036854775807:=by simp at hn1 hs;omega
     clear h1;go_wp2_with fail;go_meet;exact ⟨rfl,rfl⟩
    ·have d1:=no (show ¬ (0:Int)<(n1:Int) by omega)
     clear h1;go_wp2_with fail;go_meet;exact ⟨rfl,rfl⟩
   ·have t1:((c.toNat:Int) == 35)=false:=by
     rw [beq_eq_false_iff_ne];intro h;exact hc (UInt8.toNat_inj.1 (by show c.toNat=35;omega))
    clear hc;go_wp2_with fail;go_meet;exact ⟨rfl,rfl⟩
 case rest =>
  obtain ⟨rfl,rfl⟩:=hcut;by_cases h0:paramN s 0=0
  ·have HR:=j7i (show braG T P g s q=([],4) by unfold braG;rw [if_neg HC1.out,if_pos h0])
   rw [h0] at HP0;clear h0
   go_wp2_with (go_at_call 111;refine (HP0.out _).mono ?_;rintro e w2 ⟨rfl,hb⟩;have HB2:=j7i (zb HB1.out hb);clear hb)
   go_ret2;exact ⟨by rw [HR.out];rfl,HB2.out⟩
  have hbr:braG T P g s q=(if opG (s.drop (paramN s 0))=[] then (if paramN s 0<s.length then ([],4) else ((g (s.take (paramN s 0))).getD [],0))
    else if opG (s.drop (paramN s 0))=[58,61]∨opG (s.drop (paramN s 0))=[61]∨opG (s.drop (paramN s 0))=[58,63]∨opG (s.drop (paramN s 0))=[63] then ([],8)
    else if opG (s.drop (paramN s 0))=[58,45]∨opG (s.drop (paramN s 0))=[45]∨opG (s.drop (paramN s 0))=[58,43]∨opG (s.drop (paramN s 0))=[43] then
     (if (chooseG ((g (s.take (paramN s 0))).getD []) (g (s.take (paramN s 0))).isSome (opG (s.drop (paramN s 0)))).2=true then T (if q=true then 34 :: (s.drop (paramN s 0+(opG (s.drop (paramN s 0))).length)++[34]) else s.drop (paramN s 0+(opG (s.drop (paramN s 0))).length)) else ((chooseG ((g (s.take (paramN s 0))).getD []) (g (s.take (paramN s 0))).isSome (opG (s.drop (paramN s 0)))).1,0))
    else if (P (if q=true then 34 :: (s.drop (paramN s 0+(opG (s.drop (paramN s 0))).length)++[34]) else s.drop (paramN s 0+(opG (s.drop (paramN s 0))).length))).2≠0 then ([],(P (if q=true then 34 :: (s.drop (paramN s 0+(opG (s.drop (paramN s 0))).length)++[34]) else s.drop (paramN s 0+(opG (s.drop (paramN s 0))).length))).2)
    else (cutG ((g (s.take (paramN s 0))).getD []) (opG (s.drop (paramN s 0))) (P (if q=true then 34 :: (s.drop (paramN s 0+(opG (s.drop (paramN s 0))).length)++[34]) else s.drop (paramN s 0+(opG (s.drop (paramN s 0))).length))).1,0)):=by
   unfold braG;rw [if_neg HC1.out,if_neg h0]
  have hvl:=hgl' (s.take (paramN s 0));have HGn:=j7i fun W (hW:Below w0.heap.size w0 W)=>HG.out (s.take (paramN s 0)) W hW (by rw [List.length_take];omega);have HOp:=j7i fun W=>zkq (s.drop (paramN s 0)) W;have HIn:=j7i (opG_in (s.drop (paramN s 0)));have hol:=opG_len (s.drop (paramN s 0));rw [List.drop_drop] at HOp;have hnl:paramN s 0≤s.length:=by simpa using hn0
  have hwl:(s.drop (paramN s 0+(opG (s.drop (paramN s 0))).length)).length+paramN s 0+(opG (s.drop (paramN s 0))).length=s.length:=by
   rw [List.length_drop];have:=hol.1;rw [List.length_drop] at this;omega
  have HQ:=j7i hbr;clear hbr HP1 hn1 HC1 hgl' hgl hg HG;generalize braG T P g s q=R at *;generalize (g (s.take (paramN s 0))).getD []=v at *;generalize (g (s.take (paramN s 0))).isSome=has at *;generalize s.drop (paramN s 0+(opG (s.drop (paramN s 0))).length)=wd at *;generalize opG (s.drop (paramN s 0))=op at *;generalize paramN s 0=n at *;have k0:((n:Int) == 0)=false:=by rw [beq_eq_false_iff_ne];omega
  have k1:(0:Int)≤(n:Int):=by omega
  have k2:(n:Int)≤(s.length:Int):=by omega
  have k3:n≤s.length:=hnl;have hn1':1≤n:=by omega
  clear h0
  go_upto_region 10 with (first
   | (go_at_call 111;refine (HP0.out _).mono ?_;rintro e w2 ⟨rfl,hb⟩;have HB2:=j7i (zb HB1.out hb);clear hb)
   | (go_at_call 91;refine (HGn.out _ HB2.out).mono ?_;rintro e w3 ⟨rfl,hb⟩;have HB3:=j7i (zb HB2.out hb);clear hb)
   | (go_at_call 124;refine (HOp.out _).mono ?_;rintro e w4 ⟨rfl,hb⟩;have HB4:=j7i (zb HB3.out hb);clear hb))
  have hw0:wd.length≤30000:=by omega
  obtain ⟨wq,hwq⟩:∃ wq,wq=if q=true then 34 :: (wd++[34]) else wd:=⟨_,rfl⟩
  have hwl2:op≠[]→wq.length≤s.length:=by
   intro ho;have:=List.length_pos_iff.2 ho;rw [hwq]
   split
   ·simp;omega
   ·omega
  rw [← hwq] at HQ;have HTT:=j7i fun (ho:op≠[]) W (hW:Below w0.heap.size w0 W)=>hT wq W hW (hwl2 ho);have HPP:=j7i fun (ho:op≠[]) W (hW:Below w0.heap.size w0 W)=>hP wq W hW (hwl2 ho);have HPL:=j7i (hPl wq);have HM:=j7i hm;clear hT hP hPl hwl2 hwl hol HGn HOp HP0 hm;generalize T wq=rT at *;generalize P wq=rP at *;obtain ⟨tT,eT⟩:=rT;obtain ⟨tP,eP⟩:=rP;unfold ResP at HTT HPP;dsimp only at HTT HPP HPL HQ
  cases q with
  | true =>
   rw [if_pos rfl] at hwq;subst hwq;rcases HIn.out with h|h|h|h
   ·subst h
    rw [if_pos rfl] at HQ;by_cases hlt:n<s.length
    ·rw [if_pos hlt] at HQ
     have d0:decide ((n:Int)<(s.length:Int))=true:=decide_eq_true (by omega);have d1:decide (n<s.length)=true:=decide_eq_true hlt;clear hlt;go_wp2_with fail;go_ret2;exact ⟨by rw [HQ.out];rfl,HB4.out⟩
    ·rw [if_neg hlt] at HQ
     have d0:=no (show ¬ (n:Int)<(s.length:Int) by omega);have d1:=no hlt;clear hlt;go_wp2_with fail;go_ret2;exact ⟨by rw [HQ.out];rfl,HB4.out⟩
   ·rcases h with h|h|h|h
    all_goals
     subst h;have HQ:=j7i (HQ.out.trans (by rw [if_neg (by decide),if_pos (by decide)]:_=(([],8):Res)));go_wp2_with fail;go_ret2;exact ⟨by rw [HQ.out];rfl,HB4.out⟩
   ·replace HTT:=j7i fun W hW=>HTT.out (by rcases h with h|h|h|h <;> (rw [h];decide)) W hW
    have HCH:=j7i fun W=>zhn v op has W h;generalize chooseG v has op=C at *;obtain ⟨cv,cw⟩:=C;rcases h with h|h|h|h
    all_goals
     subst h;have HQ:=j7i (HQ.out.trans (by rw [if_neg (by decide),if_neg (by decide),if_pos (by decide)]:_=(if cw=true then ((tT,eT):Res) else (cv,0))))
     cases cw with
     | true =>
      go_wp2_with (first
       | (go_at_call 125;refine (HCH.out _).mono ?_;rintro e w5 ⟨rfl,rfl⟩)
       | (go_at_call 16;refine (HTT.out _ HB4.out).mono ?_;rintro e w6 ⟨rfl,hb⟩;have HB6:=j7i (zb HB4.out hb);clear hb))
      go_ret2;exact ⟨by rw [HQ.out];rfl,HB6.out⟩
     | false =>
      go_wp2_with (go_at_call 125;refine (HCH.out _).mono ?_;rintro e w5 ⟨rfl,rfl⟩)
      go_ret2;exact ⟨by rw [HQ.out];rfl,HB4.out⟩
   ·replace HPP:=j7i fun W hW=>HPP.out (by rcases h with h|h|h|h <;> (rw [h];decide)) W hW
    have HCU:=j7i fun W (hW:Below w0.heap.size w0 W)=>zm2 v op tP W (HM.out.below hW) h (by omega) (by have:=HPL.out;omega);generalize cutG v op tP=cv at *;rcases h with h|h|h|h
    all_goals
     subst h;have HQ:=j7i (HQ.out.trans (by rw [if_neg (by decide),if_neg (by decide),if_neg (by decide)]:_=(if eP≠0 then (([],eP):Res) else (cv,0))));by_cases he:eP=0
     ·subst he
      go_wp2_with (first
       | (go_at_call 17;refine (HPP.out _ HB4.out).mono ?_;rintro e w6 ⟨rfl,hb⟩;have HB6:=j7i (zb HB4.out hb);clear hb)
       | (go_at_call 126;refine (HCU.out _ HB6.out).mono ?_;rintro e w7 ⟨rfl,hb⟩;have HB7:=j7i (zb HB6.out hb);clear hb))
      go_ret2;exact ⟨by rw [HQ.out];rfl,HB7.out⟩
     ·have e1:(eP == 0)=false:=by simpa using he
      have e2:(eP != 0)=true:=by simpa using he
      have HQ:=j7i (HQ.out.trans (if_pos he));clear he
      go_wp2_with (go_at_call 17;refine (HPP.out _ HB4.out).mono ?_;rintro e w6 ⟨rfl,hb⟩;have HB6:=j7i (zb HB4.out hb);clear hb)
      go_ret2;exact ⟨by rw [HQ.out];rfl,HB6.out⟩
  | false =>
   rw [if_neg (by decide)] at hwq;subst hwq;rcases HIn.out with h|h|h|h
   ·subst h
    rw [if_pos rfl] at HQ;by_cases hlt:n<s.length
    ·rw [if_pos hlt] at HQ
     have d0:decide ((n:Int)<(s.length:Int))=true:=decide_eq_true (by omega);have d1:decide (n<s.length)=true:=decide_eq_true hlt;clear hlt;go_wp2_with fail;go_ret2;exact ⟨by rw [HQ.out];rfl,HB4.out⟩
    ·rw [if_neg hlt] at HQ
     have d0:=no (show ¬ (n:Int)<(s.length:Int) by omega);have d1:=no hlt;clear hlt;go_wp2_with fail;go_ret2;exact ⟨by rw [HQ.out];rfl,HB4.out⟩
   ·rcases h with h|h|h|h
    all_goals
     subst h;have HQ:=j7i (HQ.out.trans (by rw [if_neg (by decide),if_pos (by decide)]:_=(([],8):Res)));go_wp2_with fail;go_ret2;exact ⟨by rw [HQ.out];rfl,HB4.out⟩
   ·replace HTT:=j7i fun W hW=>HTT.out (by rcases h with h|h|h|h <;> (rw [h];decide)) W hW
    have HCH:=j7i fun W=>zhn v op has W h;generalize chooseG v has op=C at *;obtain ⟨cv,cw⟩:=C;rcases h with h|h|h|h
    all_goals
     subst h;have HQ:=j7i (HQ.out.trans (by rw [if_neg (by decide),if_neg (by decide),if_pos (by decide)]:_=(if cw=true then ((tT,eT):Res) else (cv,0))))
     cases cw with
     | true =>
      go_wp2_with (first
       | (go_at_call 125;refine (HCH.out _).mono ?_;rintro e w5 ⟨rfl,rfl⟩)
       | (go_at_call 16;refine (HTT.out _ HB4.out).mono ?_;rintro e w6 ⟨rfl,hb⟩;have HB6:=j7i (zb HB4.out hb);clear hb))
      go_ret2;exact ⟨by rw [HQ.out];rfl,HB6.out⟩
     | false =>
      go_wp2_with (go_at_call 125;refine (HCH.out _).mono ?_;rintro e w5 ⟨rfl,rfl⟩)
      go_ret2;exact ⟨by rw [HQ.out];rfl,HB4.out⟩
   ·replace HPP:=j7i fun W hW=>HPP.out (by rcases h with h|h|h|h <;> (rw [h];decide)) W hW
    have HCU:=j7i fun W (hW:Below w0.heap.size w0 W)=>zm2 v op tP W (HM.out.below hW) h (by omega) (by have:=HPL.out;omega);generalize cutG v op tP=cv at *;rcases h with h|h|h|h
    all_goals
     subst h;have HQ:=j7i (HQ.out.trans (by rw [if_neg (by decide),if_neg (by decide),if_neg (by decide)]:_=(if eP≠0 then (([],eP):Res) else (cv,0))));by_cases he:eP=0
     ·subst he
      go_wp2_with (first
       | (go_at_call 17;refine (HPP.out _ HB4.out).mono ?_;rintro e w6 ⟨rfl,hb⟩;have HB6:=j7i (zb HB4.out hb);clear hb)
       | (go_at_call 126;refine (HCU.out _ HB6.out).mono ?_;rintro e w7 ⟨rfl,hb⟩;have HB7:=j7i (zb HB6.out hb);clear hb))
      go_ret2;exact ⟨by rw [HQ.out];rfl,HB7.out⟩
     ·have e1:(eP == 0)=false:=by simpa using he
      have e2:(eP != 0)=true:=by simpa using he
      have HQ:=j7i (HQ.out.trans (if_pos he));clear he
      go_wp2_with (go_at_call 17;refine (HPP.out _ HB4.out).mono ?_;rintro e w6 ⟨rfl,hb⟩;have HB6:=j7i (zb HB4.out hb);clear hb)
      go_ret2;exact ⟨by rw [HQ.out];rfl,HB6.out⟩
end Go.Proofs.YtfmecpnokefokaaGreatDoor.Ex
