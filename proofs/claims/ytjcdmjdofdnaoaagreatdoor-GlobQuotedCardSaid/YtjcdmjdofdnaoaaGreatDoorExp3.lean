/-
  The walks of layer 25 (expand), on: a cut, whether a piece is ended. Conditions: texts of at most 2^28 bytes; the library's variable MaxLen holds some number.
-/
import Derived.Test.YtjcdmjdofdnaoaaGreatDoorRefDbl
import Derived.Test.YtjcdmjdofdnaoaaGreatDoorTab7
set_option linter.unusedSimpArgs false
set_option linter.unusedVariables false
namespace Go.Proofs.YtjcdmjdofdnaoaaGreatDoor.Ex
open Go.ChangeShapes Go.WideShapes Go.Deep Go.RowKit Cls Md Mc _root_.Go.Proofs.YtjcdmjdofdnaoaaGreatDoor.Pa Li Pat
set_option maxRecDepth 100000
theorem _root_.Go.Proofs.YtjcdmjdofdnaoaaGreatDoor.j7b {p:Prop} (h:p):Go.RowKit.Hid p:=Go.Lib.hid h
def GetC (w0:World) (vv:Value) (g:Look):Prop :=
 ∀ (s:List UInt8) (W:World),Below w0.heap.size w0 W→s.length≤1073741824→Calls Tryz.prog 133 #[vv,.string (B s)] W fun e w'=>e = .returned (.tuple #[.string (B ((g s).getD [])),.bool (g s).isSome])∧Below W.heap.size W w'
theorem GetC.below {w0 w1:World} {vv:Value} {g:Look} (h:GetC w0 vv g) (hb:Below w0.heap.size w0 w1):GetC w1 vv g:=fun s W hW hs=>h s W (zb hb hW) hs
theorem zig (s p:List UInt8) (w:World):Calls Tryz.prog 35 #[.string (B s),.string (B p)] w fun e w'=>e = .returned (.bool (Lib.hasPrefix s p))∧w=w' :=
 (Tryz.strings_HasPrefix (B s) (B p) w).mono fun e w' ⟨he,hw⟩=>⟨by rw [he,B_data,B_data],hw.symm⟩
theorem suffix_x (s p:List UInt8) (w:World) (hs:s.length≤1073741824):Calls Tryz.prog 183 #[.string (B s),.string (B p)] w fun e w'=>e = .returned (.bool (Lib.hasSuffix s p))∧w=w' :=
 (Tryz.strings_HasSuffix (B s) (B p) w (by rw [B_size];omega)).mono fun e w' ⟨he,hw⟩=>⟨by rw [he,B_data,B_data],hw.symm⟩
theorem zkk (s p:List UInt8) (w:World):Calls Tryz.prog 182 #[.string (B s),.string (B p)] w fun e w'=>e = .returned (.tuple #[.string (B (Lib.trimPrefix s p)),.bool (Lib.hasPrefix s p)])∧w=w' :=
 (Tryz.strings_CutPrefix (B s) (B p) w).mono fun e w' ⟨he,hw⟩=>⟨by rw [he,B_data,B_data];rfl,hw.symm⟩
def Four (op:List UInt8):Prop:=op=[58,45]∨op=[45]∨op=[58,43]∨op=[43]
set_option maxHeartbeats 1600000 in
theorem zf5 (v op:List UInt8) (has:Bool) (w:World) (ho:Four op):Calls Tryz.prog 161 #[.string (B v),.bool has,.string (B op)] w fun e w'=>e = .returned (.tuple #[.string (B (chooseG v has op).1),.bool (chooseG v has op).2])∧w=w':=by
 have key:∀ (op:List UInt8) (b1 b2:Bool),Lib.hasPrefix op [58]=b1→Lib.hasSuffix op [43]=b2→(op.head?=some 58 ↔ b1=true)→(op.getLast? == some 43)=b2→op.length≤2 →
   Calls Tryz.prog 161 #[.string (B v),.bool has,.string (B op)] w fun e w'=>e = .returned (.tuple #[.string (B (chooseG v has op).1),.bool (chooseG v has op).2])∧w=w':=by
  intro op b1 b2 h1 h2 h3 h4 h5;have HP:=j7b (zig op [58] w);have HS:=j7b (suffix_x op [43] w (by omega));rw [h1] at HP;rw [h2] at HS;have HC:=j7b (show chooseG v has op=if b2=(if b1=true then has && v != [] else has) then ([],true) else if b2=true then ([],false) else (v,false) by unfold chooseG;rw [h4];simp only [h3]);generalize chooseG v has op=R at *;clear h1 h2 h3 h4;by_cases hv:v=[]
  ·subst hv
   cases b1 <;> cases b2 <;> cases has
   all_goals
    go_enter Tryz.func161,Tryz.ntmps161
    go_wp2_with (first|(go_at_call 35;refine HP.out.mono ?_;rintro e w1 ⟨rfl,rfl⟩)|(go_at_call 183;refine HS.out.mono ?_;rintro e w1 ⟨rfl,rfl⟩))
    go_ret2;exact ⟨by rw [HC.out];rfl,rfl⟩
  ·have e1:(v == [])=false:=by simpa using hv
   have e2:(v != [])=true:=by simpa using hv
   rw [e2] at HC;clear hv e2
   cases b1 <;> cases b2 <;> cases has
   all_goals
    go_enter Tryz.func161,Tryz.ntmps161
    go_wp2_with (first|(go_at_call 35;refine HP.out.mono ?_;rintro e w1 ⟨rfl,rfl⟩)|(go_at_call 183;refine HS.out.mono ?_;rintro e w1 ⟨rfl,rfl⟩))
    go_ret2;exact ⟨by rw [HC.out];rfl,rfl⟩
 rcases ho with rfl|rfl|rfl|rfl
 ·exact key _ true false (by decide) (by decide) (by decide) (by decide) (by decide)
 ·exact key _ false false (by decide) (by decide) (by decide) (by decide) (by decide)
 ·exact key _ true true (by decide) (by decide) (by decide) (by decide) (by decide)
 ·exact key _ false true (by decide) (by decide) (by decide) (by decide) (by decide)
def opsL:List (List UInt8):=[[58,45],[58,43],[58,61],[58,63],[37,37],[35,35],[45],[43],[61],[63],[37],[35]]
theorem ops_find (s:List UInt8):(opsL.find? fun o=>Lib.hasPrefix s o).getD []=opG s:=by
 have hp:∀ (c:UInt8) (r:List UInt8) (o:List UInt8),Lib.hasPrefix (c :: r) o=match o with
   | []=>true
   | a :: t=>a == c && t.isPrefixOf r:=by
  intro c r o
  cases o <;> rfl
 match s with
 | []=>rfl
 | [c] =>
  have key:∀ n:_root_.Fin 256,(opsL.find? fun o=>Lib.hasPrefix [UInt8.ofNat n.val] o).getD []=opG [UInt8.ofNat n.val]:=by decide +kernel
  have:=key ⟨c.toNat,c.toNat_lt⟩
  rwa [show UInt8.ofNat c.toNat=c from UInt8.ofNat_toNat] at this
 | c :: d :: r =>
  by_cases h1:c=58
  ·subst h1
   have key:∀ n:_root_.Fin 256,(opsL.find? fun o=>Lib.hasPrefix [58,UInt8.ofNat n.val] o).getD []=opG [58,UInt8.ofNat n.val]:=by decide +kernel
   have h:=key ⟨d.toNat,d.toNat_lt⟩;rw [show UInt8.ofNat d.toNat=d from UInt8.ofNat_toNat] at h
   have e:(opsL.find? fun o=>Lib.hasPrefix (58 :: d :: r) o)=opsL.find? fun o=>Lib.hasPrefix [58,d] o:=by
    simp [opsL,Lib.hasPrefix,List.find?,List.isPrefixOf]
   rw [e,h];rfl
  by_cases h2:c=37
  ·subst h2
   have key:∀ n:_root_.Fin 256,(opsL.find? fun o=>Lib.hasPrefix [37,UInt8.ofNat n.val] o).getD []=opG [37,UInt8.ofNat n.val]:=by decide +kernel
   have h:=key ⟨d.toNat,d.toNat_lt⟩;rw [show UInt8.ofNat d.toNat=d from UInt8.ofNat_toNat] at h
   have e:(opsL.find? fun o=>Lib.hasPrefix (37 :: d :: r) o)=opsL.find? fun o=>Lib.hasPrefix [37,d] o:=by
    simp [opsL,Lib.hasPrefix,List.find?,List.isPrefixOf]
   rw [e,h];rfl
  by_cases h3:c=35
  ·subst h3
   have key:∀ n:_root_.Fin 256,(opsL.find? fun o=>Lib.hasPrefix [35,UInt8.ofNat n.val] o).getD []=opG [35,UInt8.ofNat n.val]:=by decide +kernel
   have h:=key ⟨d.toNat,d.toNat_lt⟩;rw [show UInt8.ofNat d.toNat=d from UInt8.ofNat_toNat] at h
   have e:(opsL.find? fun o=>Lib.hasPrefix (35 :: d :: r) o)=opsL.find? fun o=>Lib.hasPrefix [35,d] o:=by
    simp [opsL,Lib.hasPrefix,List.find?,List.isPrefixOf]
   rw [e,h];rfl
  have n1:(58 == c)=false:=by rw [beq_eq_false_iff_ne];exact fun e=>h1 e.symm
  have n2:(37 == c)=false:=by rw [beq_eq_false_iff_ne];exact fun e=>h2 e.symm
  have n3:(35 == c)=false:=by rw [beq_eq_false_iff_ne];exact fun e=>h3 e.symm
  have e:(opsL.find? fun o=>Lib.hasPrefix (c :: d :: r) o)=opsL.find? fun o=>Lib.hasPrefix [c] o:=by
   simp [opsL,Lib.hasPrefix,List.find?,List.isPrefixOf,n1,n2,n3]
  have key:∀ n:_root_.Fin 256,(opsL.find? fun o=>Lib.hasPrefix [UInt8.ofNat n.val] o).getD []=opG [UInt8.ofNat n.val]:=by decide +kernel
  have h:=key ⟨c.toNat,c.toNat_lt⟩;rw [show UInt8.ofNat c.toNat=c from UInt8.ofNat_toNat] at h;rw [e,h];unfold opG;simp [h1,h2,h3]
theorem zh8 (w:World):Calls Tryz.prog 181 #[] w fun e w'=>e = .returned (.slice (some ⟨w.heap.size,0,none⟩) 12 12)∧BoxN w' w.heap.size (opsL.map fun o=>.string (B o))∧Below w.heap.size w w':=by
 have HX:=j7b (BoxN.new w (opsL.map fun o=>.string (B o)) 9);have HB:=j7b (za (Below.refl w.heap.size w) (.cells (opsL.map fun o=>.string (B o)).toArray 9));go_enter Tryz.func181,Tryz.ntmps181;go_wp2;go_ret;exact ⟨rfl,HX.out,HB.out⟩
theorem zld {α : Type} {q : α → Bool}:∀ {l:List α} {k:Nat} {o : α},l[k]?=some o→q o=true→(∀ a∈l.take k,q a=false)→l.find? q=some o
 | [],_,_,h,_,_=>by simp at h
 | a :: l,0,o,h,hq,_=>by
  have:a=o:=by simpa using h
  rw [this,List.find?_cons_of_pos hq]
 | a :: l,k+1,o,h,hq,hn=>by
  rw [List.find?_cons_of_neg (by rw [hn a (by simp)];decide)];exact zld (by simpa using h) hq (fun b hb=>hn b (by simp [hb]))
set_option maxHeartbeats 1600000 in
theorem zih (s:List UInt8) (w:World):Calls Tryz.prog 160 #[.string (B s)] w fun e w'=>e = .returned (.tuple #[.string (B (opG s)),.string (B (s.drop (opG s).length))])∧Below w.heap.size w w':=by
 have HO:=j7b (zh8 w);have HF:=j7b (ops_find s);generalize opG s=R at *;go_enter Tryz.func160,Tryz.ntmps160
 go_wp2_with (go_at_call 181;refine HO.out.mono ?_;rintro e w1 ⟨rfl,hx,hb⟩;have HX:=j7b hx;have HB:=j7b hb;clear hx hb)
 have HCP:=j7b (zkk s)
 go_loopw [10] (fun i wr=>∃ k:Nat,k≤12∧i = .int .i64 k∧Hid (∀ o∈opsL.take k,Lib.hasPrefix s o=false)∧w1=wr) (fun i _=>12 - (intOf i).toNat)
 case atStart=>exact ⟨0,by omega,rfl,fun o ho=>by simp at ho,rfl⟩
 case round =>
  obtain ⟨k,hk,rfl,HN,rfl⟩:=hrel;by_cases hlt:k<12
  ·obtain ⟨o,ho⟩:∃ o,opsL[k]?=some o:=⟨_,List.getElem?_eq_getElem (show k<opsL.length from hlt)⟩
   have e0:w1.cell? ⟨w.heap.size,k,none⟩=some (.string (B o)):=HX.out.c k _ (by rw [List.getElem?_map,ho];rfl)
   haveI:Old w1 w.heap.size:=⟨HX.out.lt⟩
   have k0:(0:Int)≤(k:Int):=by omega
   have k1:(k:Int)<12:=by omega
   have HC:=j7b (HCP.out o w1);have HOO:=j7b ho;clear ho
   cases hq:Lib.hasPrefix s o with
   | true =>
    rw [hq] at HC
    have HR:=j7b (show R=o by
     have:=zld (q:=fun o=>Lib.hasPrefix s o) HOO.out hq HN.out
     rw [← HF.out,this];rfl)
    have HT:=j7b (show Lib.trimPrefix s o=s.drop o.length by unfold Lib.trimPrefix;rw [if_pos hq]);rw [HT.out] at HC;clear hq
    go_wp2_with (go_at_call 182;refine HC.out.mono ?_;rintro e w2 ⟨rfl,rfl⟩)
    go_ret2;exact ⟨by rw [HR.out];rfl,HB.out⟩
   | false =>
    rw [hq] at HC
    have HN2:=j7b (show ∀ a∈opsL.take (k+1),Lib.hasPrefix s a=false from fun a ha=>by
     rw [List.take_add_one,HOO.out] at ha;rcases List.mem_append.1 ha with ha|ha
     ·exact HN.out a ha
     ·obtain rfl:a=o:=by simpa using ha
      exact hq)
    clear hq
    go_wp2_with (go_at_call 182;refine HC.out.mono ?_;rintro e w2 ⟨rfl,rfl⟩)
    go_roundw
    case rel=>exact ⟨k+1,by omega,by go_num,HN2.out,trivial⟩
    case measure=>simp [intOf];omega
  ·have hk2:k=12:=by omega
   subst hk2
   have HR:=j7b (show R=[] by
    rw [← HF.out]
    have:(opsL.find? fun o=>Lib.hasPrefix s o)=none:=List.find?_eq_none.2 fun a ha=>by
     have:=HN.out a (by rw [List.take_of_length_le (by decide)];exact ha);rw [this];decide
    rw [this];rfl)
   clear hlt;go_wp2;go_ret2;exact ⟨by rw [HR.out];rfl,HB.out⟩
theorem ze1 {f:Nat→Bool}:∀ {n:Nat} {e:Int},e∈evs f n→∃ k:Nat,k<n∧e=(k:Int)
 | 0,e,h=>by simp [evs] at h
 | n+1,e,h=>by
  unfold evs at h
  split at h
  ·rcases List.mem_append.1 h with h|h
   ·obtain ⟨k,h1,h2⟩:=ze1 h
    exact ⟨k,by omega,h2⟩
   ·exact ⟨n,by omega,by simpa using h⟩
  ·obtain ⟨k,h1,h2⟩:=ze1 h
   exact ⟨k,by omega,h2⟩
theorem zii {w:World} {b0 g off n c:Nat} {N:List Int} (h:Own w b0 1 (.slice (some ⟨g,off,none⟩) n c) n (N.flatMap numC)) {k:Nat} {a:Int} (hk:N[k]?=some a) (hn:0<n):g<w.heap.size∧w.cell? ⟨g,off+k,none⟩=some (.int .i64 a):=by
 rcases h.2 with ⟨h0,_⟩|⟨g',off',c',e,h1,h2,h3,h4,h5,h6⟩
 ·omega
 ·cases e
  refine ⟨h2,h6 k _ ?_⟩
  have:∀ (N:List Int) (k:Nat),N[k]?=some a→(N.flatMap numC)[k]?=some (.int .i64 a):=by
   intro N
   induction N with
   | nil=>intro k hk;simp at hk
   | cons b r ih =>
    intro k hk
    cases k with
    | zero=>simp at hk;subst hk;rfl
    | succ k=>exact ih k (by simpa using hk)
  exact this N k hk
theorem zns {E:List Int} {m:Nat} (h:E.length=m+1):E[0]?=some (E.headD 0)∧E[m]?=some (E.getLastD 0):=by
 cases E with
 | nil=>simp at h
 | cons a r =>
  refine ⟨rfl,?_⟩;have hl:r.length=m:=by simpa using h
  rw [List.getLastD_cons,List.getLastD_eq_getLast?,List.getLast?_eq_getElem?]
  cases r with
  | nil=>simp at hl;subst hl;rfl
  | cons b t =>
   simp only [List.length_cons] at hl;subst hl;simp
theorem zcq {w:World} {b0 sz n:Nat} {v:Value} {xs:List Value} (h:Own w b0 sz v n xs):n≤9223372036854775807:=by
 rcases Nat.eq_zero_or_pos n with h0|h0
 ·omega
 ·obtain ⟨_,_,_,_,_,_,q1,q2⟩:=h.form' h0
  omega
def Cuts (op:List UInt8):Prop:=op=[37]∨op=[37,37]∨op=[35]∨op=[35,35]
set_option maxHeartbeats 3200000 in
theorem zle (v op p:List UInt8) (w:World) (hm:MaxL w) (ho:Cuts op) (hv:v.length≤268435456) (hp:p.length≤268435456):Calls Tryz.prog 164 #[.string (B v),.string (B op),.string (B p)] w fun e w'=>e = .returned (.string (B (cutG v op p)))∧Below w.heap.size w w':=by
 have HT:=j7b (zpy p v w hm (by omega) (by omega));have HH:=j7b (zpx p v w hm (by omega) (by omega));unfold EvP at HT HH;have hmT:=fun e (h:e∈evs (fun n=>gm (parse p) (v.drop n)) (v.length+1))=>ze1 h;have hmH:=fun e (h:e∈evs (fun n=>gm (parse p) (v.take n)) (v.length+1))=>ze1 h;unfold cutG;dsimp only;generalize evs (fun n=>gm (parse p) (v.drop n)) (v.length+1)=ET at *;generalize evs (fun n=>gm (parse p) (v.take n)) (v.length+1)=EH at *
 have key:∀ (E:List Int) (u:Value) (w1:World),(∀ e∈E,∃ k:Nat,k<v.length+1∧e=(k:Int))→Own w1 w.heap.size 1 u E.length (E.flatMap numC)→E≠[] →
   ∃ (m g off c k0 kL:Nat),E.length=m+1∧u = .slice (some ⟨g,off,none⟩) (m+1) c∧g<w1.heap.size∧w1.cell? ⟨g,off,none⟩=some (.int .i64 k0)∧w1.cell? ⟨g,off+m,none⟩=some (.int .i64 kL)∧k0≤v.length∧kL≤v.length∧E.headD 0=k0∧E.getLastD 0=kL:=by
  intro E u w1 hE hO hne
  obtain ⟨m,hml⟩:∃ m,E.length=m+1:=⟨E.length - 1,by have:=List.length_pos_iff.2 hne;omega⟩
  obtain ⟨h0,hL⟩:=zns hml;rw [hml] at hO;obtain ⟨g,off,c,rfl,-,hg,-,-⟩:=hO.form;obtain ⟨k0,q0,e0⟩:=hE _ (List.mem_of_getElem? h0);obtain ⟨kL,qL,eL⟩:=hE _ (List.mem_of_getElem? hL);have c0:=(zii hO h0 (by omega)).2;have cL:=(zii hO hL (by omega)).2;rw [e0,Nat.add_zero] at c0;rw [eL] at cL;exact ⟨m,g,off,c,k0,kL,hml,rfl,hg,c0,cL,by omega,by omega,e0,eL⟩
 have HK:=j7b key;have HmT:=j7b hmT;have HmH:=j7b hmH;clear key hmT hmH hm;rcases ho with rfl|rfl|rfl|rfl
 ·rw [if_pos (.inl rfl)]
  by_cases hE:ET=[]
  ·subst hE
   rw [if_pos rfl];go_enter Tryz.func164,Tryz.ntmps164
   go_wp2_with (go_at_call 184;refine HT.out.mono ?_;rintro e w1 ⟨u,rfl,ho,hb⟩;obtain ⟨A,c,rfl,-⟩:=ho.form0;have HB:=j7b hb;clear ho hb)
   go_ret;exact ⟨rfl,HB.out⟩
  ·rw [if_neg hE,if_neg (by decide)]
   have HE:=j7b hE;clear hE;go_enter Tryz.func164,Tryz.ntmps164
   go_wp2_with (go_at_call 184;refine HT.out.mono ?_;rintro e w1 ⟨u,rfl,ho,hb⟩;obtain ⟨m,g,off,c,k0,kL,hml,rfl,hg,c0,cL,l0,lL,e0,eL⟩:=HK.out _ _ _ HmT.out ho HE.out;haveI:Old w1 g:=⟨hg⟩;have HB:=j7b hb;have HL:=j7b eL;have hm0:(0:Int)≤(m:Int):=(by omega);have hm1:(m:Int)<(m:Int)+1:=(by omega);have hm2:(0:Int)<(m:Int)+1:=(by omega);have hm3:((m:Int)+1 == 0)=false:=(by rw [beq_eq_false_iff_ne];omega);have hmm:=zcq ho;have hm4:(m:Int)+1≤9223372036854775807:=(by omega);have q0:(0:Int)≤(kL:Int):=(by omega);have q1:(kL:Int)≤(v.length:Int):=(by omega);clear ho hb e0 eL hml hmm)
   go_ret;exact ⟨by rw [HL.out];rfl,HB.out⟩
 ·rw [if_pos (.inr rfl)]
  by_cases hE:ET=[]
  ·subst hE
   rw [if_pos rfl];go_enter Tryz.func164,Tryz.ntmps164
   go_wp2_with (go_at_call 184;refine HT.out.mono ?_;rintro e w1 ⟨u,rfl,ho,hb⟩;obtain ⟨A,c,rfl,-⟩:=ho.form0;have HB:=j7b hb;clear ho hb)
   go_ret;exact ⟨rfl,HB.out⟩
  ·rw [if_neg hE,if_pos (by decide)]
   have HE:=j7b hE;clear hE;go_enter Tryz.func164,Tryz.ntmps164
   go_wp2_with (go_at_call 184;refine HT.out.mono ?_;rintro e w1 ⟨u,rfl,ho,hb⟩;obtain ⟨m,g,off,c,k0,kL,hml,rfl,hg,c0,cL,l0,lL,e0,eL⟩:=HK.out _ _ _ HmT.out ho HE.out;haveI:Old w1 g:=⟨hg⟩;have HB:=j7b hb;have HL:=j7b e0;have hm0:(0:Int)≤(m:Int):=(by omega);have hm1:(m:Int)<(m:Int)+1:=(by omega);have hm2:(0:Int)<(m:Int)+1:=(by omega);have hm3:((m:Int)+1 == 0)=false:=(by rw [beq_eq_false_iff_ne];omega);have hmm:=zcq ho;have hm4:(m:Int)+1≤9223372036854775807:=(by omega);have q0:(0:Int)≤(k0:Int):=(by omega);have q1:(k0:Int)≤(v.length:Int):=(by omega);clear ho hb e0 eL hml hmm)
   go_ret;exact ⟨by rw [HL.out];rfl,HB.out⟩
 ·rw [if_neg (by decide)]
  by_cases hE:EH=[]
  ·subst hE
   rw [if_pos rfl];go_enter Tryz.func164,Tryz.ntmps164
   go_wp2_with (go_at_call 185;refine HH.out.mono ?_;rintro e w1 ⟨u,rfl,ho,hb⟩;obtain ⟨A,c,rfl,-⟩:=ho.form0;have HB:=j7b hb;clear ho hb)
   go_ret;exact ⟨rfl,HB.out⟩
  ·rw [if_neg hE,if_neg (by decide)]
   have HE:=j7b hE;clear hE;go_enter Tryz.func164,Tryz.ntmps164
   go_wp2_with (go_at_call 185;refine HH.out.mono ?_;rintro e w1 ⟨u,rfl,ho,hb⟩;obtain ⟨m,g,off,c,k0,kL,hml,rfl,hg,c0,cL,l0,lL,e0,eL⟩:=HK.out _ _ _ HmH.out ho HE.out;haveI:Old w1 g:=⟨hg⟩;have HB:=j7b hb;have HL:=j7b e0;have hm0:(0:Int)≤(m:Int):=(by omega);have hm1:(m:Int)<(m:Int)+1:=(by omega);have hm2:(0:Int)<(m:Int)+1:=(by omega);have hm3:((m:Int)+1 == 0)=false:=(by rw [beq_eq_false_iff_ne];omega);have hmm:=zcq ho;have hm4:(m:Int)+1≤9223372036854775807:=(by omega);have q0:(0:Int)≤(k0:Int):=(by omega);have q1:(k0:Int)≤(v.length:Int):=(by omega);clear ho hb e0 eL hml hmm)
   go_ret;exact ⟨by rw [HL.out];rfl,HB.out⟩
 ·rw [if_neg (by decide)]
  by_cases hE:EH=[]
  ·subst hE
   rw [if_pos rfl];go_enter Tryz.func164,Tryz.ntmps164
   go_wp2_with (go_at_call 185;refine HH.out.mono ?_;rintro e w1 ⟨u,rfl,ho,hb⟩;obtain ⟨A,c,rfl,-⟩:=ho.form0;have HB:=j7b hb;clear ho hb)
   go_ret;exact ⟨rfl,HB.out⟩
  ·rw [if_neg hE,if_pos (by decide)]
   have HE:=j7b hE;clear hE;go_enter Tryz.func164,Tryz.ntmps164
   go_wp2_with (go_at_call 185;refine HH.out.mono ?_;rintro e w1 ⟨u,rfl,ho,hb⟩;obtain ⟨m,g,off,c,k0,kL,hml,rfl,hg,c0,cL,l0,lL,e0,eL⟩:=HK.out _ _ _ HmH.out ho HE.out;haveI:Old w1 g:=⟨hg⟩;have HB:=j7b hb;have HL:=j7b eL;have hm0:(0:Int)≤(m:Int):=(by omega);have hm1:(m:Int)<(m:Int)+1:=(by omega);have hm2:(0:Int)<(m:Int)+1:=(by omega);have hm3:((m:Int)+1 == 0)=false:=(by rw [beq_eq_false_iff_ne];omega);have hmm:=zcq ho;have hm4:(m:Int)+1≤9223372036854775807:=(by omega);have q0:(0:Int)≤(kL:Int):=(by omega);have q1:(kL:Int)≤(v.length:Int):=(by omega);clear ho hb e0 eL hml hmm)
   go_ret;exact ⟨by rw [HL.out];rfl,HB.out⟩
end Go.Proofs.YtjcdmjdofdnaoaaGreatDoor.Ex
