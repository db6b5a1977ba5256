/-
  The walks of layer 4 (class), on: names; of layer 19 (tables): May, and the reference's. Conditions: texts of at most 2^30 bytes.
-/
import Derived.Test.YtfmecpnokefokaaGreatDoorHist
import Derived.Test.YtfmecpnokefokaaGreatDoorPat4
import Derived.WalkMore
set_option linter.unusedSimpArgs false
set_option linter.unusedVariables false
namespace Go.Proofs.YtfmecpnokefokaaGreatDoor.Cls
open Go.ChangeShapes Go.WideShapes Go.Deep Go.RowKit
set_option maxRecDepth 100000
theorem _root_.Go.Proofs.YtfmecpnokefokaaGreatDoor.j7c {p:Prop} (h:p):Go.RowKit.Hid p:=Go.Lib.hid h
theorem ret_b {a b:Bool} (h:a=b):Ending.returned (.bool a) = .returned (.bool b):=by rw [h]
def clsB (c:UInt8):Int:=cls c.toNat
def metaL:List UInt8:=[124,38,59,60,62,40,41]
def quoteL:List UInt8:=[92,39,34,96,36]
def letterL:List UInt8:=[65,66,67,68,69,70,71,72,73,74,75,76,77,78,79,80,81,82,83,84,85,86,87,88,89,90,97,98,99,100,101,102,103,104,105,106,107,108,109,110,111,112,113,114,115,116,117,118,119,120,121,122,95]
def digitL:List UInt8:=[48,49,50,51,52,53,54,55,56,57]
def safeL:List UInt8:=[37,43,44,45,46,47,58,64]
def classR (c:UInt8):Int :=
 if c=32∨c=9 then 1 else if c=10 then 2 else if metaL.contains c=true then 3 else if quoteL.contains c=true then 4 else if letterL.contains c=true then 5 else if digitL.contains c=true then 6 else 0
theorem zpo (c:UInt8):classR c=clsB c:=by
 have h:∀ n:Fin 256,classR (UInt8.ofNat n.val)=clsB (UInt8.ofNat n.val):=by decide +kernel
 have:=h ⟨c.toNat,c.toNat_lt⟩
 simpa using this
def safeB (c:UInt8):Bool:=clsB c == 5 || clsB c == 6 || decide ((127:Int)<(c.toNat:Int)) || safeL.contains c
def safeI (n:Int):Bool:=n == 37 || n == 43 || n == 44 || n == 45 || n == 46 || n == 47 || n == 58 || n == 64 || cls n == 5 || cls n == 6 || decide (128≤n)
theorem safeI_eq (c:UInt8):safeI c.toNat=safeB c:=by
 have h:∀ n:Fin 256,safeI (UInt8.ofNat n.val).toNat=safeB (UInt8.ofNat n.val):=by decide +kernel
 have:=h ⟨c.toNat,c.toNat_lt⟩
 simpa using this
theorem of_any (c:UInt8) (w:World):Calls Tryz.prog 143 #[.int .u8 c.toNat] w fun e w'=>e = .returned (.int .i64 (clsB c))∧w=w':=cls_any c.toNat w
set_option maxHeartbeats 1000000 in
theorem zbv (c:UInt8) (w:World):Calls Tryz.prog 45 #[.int .u8 c.toNat] w fun e w'=>e = .returned (.int .i64 (clsB c))∧w=w':=by
 rw [← zpo];have h1:=fun w=>Pat.in_any c metaL w (by decide);have h2:=fun w=>Pat.in_any c quoteL w (by decide);have h3:=fun w=>Pat.in_any c letterL w (by decide);have h4:=fun w=>Pat.in_any c digitL w (by decide);by_cases c1:c=32
 ·have e1:=Pat.is_b (n:=32) rfl c1
  have HR:=j7c (show classR c=1 by unfold classR;rw [if_pos (.inl c1)]);clear c1 h1 h2 h3 h4;go_enter Tryz.func45,Tryz.ntmps45;go_wp2;go_ret;exact ⟨by rw [HR.out];rfl,rfl⟩
 have e1:=Pat.not_b (n:=32) rfl c1;by_cases c2:c=9
 ·have e2:=Pat.is_b (n:=9) rfl c2
  have HR:=j7c (show classR c=1 by unfold classR;rw [if_pos (.inr c2)]);clear c1 c2 h1 h2 h3 h4;go_enter Tryz.func45,Tryz.ntmps45;go_wp2;go_ret;exact ⟨by rw [HR.out];rfl,rfl⟩
 have e2:=Pat.not_b (n:=9) rfl c2;have c12:¬ (c=32∨c=9):=fun h=>h.elim c1 c2;by_cases c3:c=10
 ·have e3:=Pat.is_b (n:=10) rfl c3
  have HR:=j7c (show classR c=2 by unfold classR;rw [if_neg c12,if_pos c3]);clear c1 c2 c3 c12 h1 h2 h3 h4;go_enter Tryz.func45,Tryz.ntmps45;go_wp2;go_ret;exact ⟨by rw [HR.out];rfl,rfl⟩
 have e3:=Pat.not_b (n:=10) rfl c3;have HR0:=j7c (show classR c=if metaL.contains c=true then 3 else if quoteL.contains c=true then 4 else if letterL.contains c=true then 5 else if digitL.contains c=true then 6 else 0 by unfold classR;rw [if_neg c12,if_neg c3]);clear c1 c2 c3 c12;generalize metaL.contains c=b1 at *;generalize quoteL.contains c=b2 at *;generalize letterL.contains c=b3 at *;generalize digitL.contains c=b4 at *;have H1:=j7c h1;have H2:=j7c h2;have H3:=j7c h3;have H4:=j7c h4;clear h1 h2 h3 h4;unfold metaL at H1;unfold quoteL at H2;unfold letterL at H3;unfold digitL at H4;rw [HR0.out];go_enter Tryz.func45,Tryz.ntmps45
 go_wp2_with (first
  | (go_at_call 54;(with_reducible refine (H1.out _).mono ?_);rintro e w' ⟨rfl,rfl⟩)
  | (go_at_call 54;(with_reducible refine (H2.out _).mono ?_);rintro e w' ⟨rfl,rfl⟩)
  | (go_at_call 54;(with_reducible refine (H3.out _).mono ?_);rintro e w' ⟨rfl,rfl⟩)
  | (go_at_call 54;(with_reducible refine (H4.out _).mono ?_);rintro e w' ⟨rfl,rfl⟩))
 all_goals
  go_ret;refine ⟨?_,rfl⟩
  simp_all
theorem safe_any (c:UInt8) (w:World):Calls Tryz.prog 127 #[.int .u8 c.toNat] w fun e w'=>e = .returned (.bool (safeB c))∧w=w':=by
 have HC:=j7c fun w=>cls_any c.toNat w;rw [← safeI_eq];generalize (c.toNat:Int)=n at *;go_enter Tryz.func127,Tryz.ntmps127
 go_wp2_with (go_at_call 143;refine (HC.out _).mono ?_;rintro e w' ⟨rfl,rfl⟩)
 all_goals
  go_ret;refine ⟨ret_b ?_,rfl⟩;simp [safeI, *]
theorem zl6 (c:UInt8) (w:World):Calls Tryz.prog 78 #[.int .u8 c.toNat] w fun e w'=>e = .returned (.bool (safeB c))∧w=w':=by
 have HC:=j7c fun w=>zbv c w;have hs:=fun w=>Pat.in_any c safeL w (by decide);unfold safeB;generalize safeL.contains c=b at *;have HS:=j7c hs;unfold safeL at HS;clear hs;generalize clsB c=k at *;go_enter Tryz.func78,Tryz.ntmps78
 go_wp2_with (first|(go_at_call 45;refine (HC.out _).mono ?_;rintro e w' ⟨rfl,rfl⟩)|(go_at_call 54;refine (HS.out _).mono ?_;rintro e w' ⟨rfl,rfl⟩))
 all_goals
  go_ret;refine ⟨ret_b ?_,rfl⟩
  first|rfl|(simp [*];done)|(simp_all;done)|trace_state
def spanN (f:UInt8→Bool) (l:List UInt8):Nat:=(l.takeWhile f).length
theorem zgr (f:UInt8→Bool):∀ l,spanN f l≤l.length
 | []=>Nat.le_refl _
 | c :: l=>by
  have:=zgr f l;unfold spanN at *;rw [List.takeWhile_cons]
  split <;> simp <;> omega
theorem zco (f:UInt8→Bool) {s:List UInt8} {n:Nat} (h:n<s.length):spanN f (s.drop n)=if f s[n]=true then 1+spanN f (s.drop (n+1)) else 0:=by
 rw [List.drop_eq_getElem_cons h];unfold spanN;rw [List.takeWhile_cons]
 split <;> simp [Nat.add_comm]
def letterB (c:UInt8):Bool:=clsB c == 5
def digitB (c:UInt8):Bool:=clsB c == 6
def nameB (c:UInt8):Bool:=letterB c || digitB c
theorem zhl (c:UInt8) (w:World):Calls Tryz.prog 115 #[.int .u8 c.toNat] w fun e w'=>e = .returned (.bool (letterB c))∧w=w':=by
 have HC:=j7c (of_any c);unfold letterB;generalize clsB c=k at *;go_enter Tryz.func115,Tryz.ntmps115
 go_wp2_with (go_at_call 143;refine (HC.out _).mono ?_;rintro e w' ⟨rfl,rfl⟩)
 go_ret;exact ⟨rfl,rfl⟩
theorem ziz (c:UInt8) (w:World):Calls Tryz.prog 117 #[.int .u8 c.toNat] w fun e w'=>e = .returned (.bool (digitB c))∧w=w':=by
 have HC:=j7c (of_any c);unfold digitB;generalize clsB c=k at *;go_enter Tryz.func117,Tryz.ntmps117
 go_wp2_with (go_at_call 143;refine (HC.out _).mono ?_;rintro e w' ⟨rfl,rfl⟩)
 go_ret;exact ⟨rfl,rfl⟩
theorem zpp (c:UInt8) (w:World):Calls Tryz.prog 116 #[.int .u8 c.toNat] w fun e w'=>e = .returned (.bool (nameB c))∧w=w':=by
 have HL:=j7c (zhl c);have HD:=j7c (ziz c);unfold nameB;generalize letterB c=a at *;generalize digitB c=b at *;cases a
 all_goals
  go_enter Tryz.func116,Tryz.ntmps116
  go_wp2_with (first|(go_at_call 115;refine (HL.out _).mono ?_;rintro e w' ⟨rfl,rfl⟩)|(go_at_call 117;refine (HD.out _).mono ?_;rintro e w' ⟨rfl,rfl⟩))
  go_ret;exact ⟨rfl,rfl⟩
-- span
set_option maxHeartbeats 1000000 in
theorem zl7 (s:List UInt8) (at_:Nat) (w:World) (hs:s.length≤1073741824) (ha:at_≤s.length):Calls Tryz.prog 114 #[.string (B s),.int .i64 at_,.func (.func 115) #[] #[]] w fun e w'=>e = .returned (.int .i64 (spanN letterB (s.drop at_)))∧w=w':=by
 have HF:=j7c fun c w=>zhl c w;have a1:=no (show ¬ (at_:Int)<0 by omega);by_cases hal:at_<s.length;rotate_left
 ·have hz:spanN letterB (s.drop at_)=0:=by rw [List.drop_eq_nil_of_le (by omega)];rfl
  have a2:s.length≤at_:=by omega
  have a3:(s.length:Int)≤(at_:Int):=by omega
  rw [hz];clear hz hal;go_enter Tryz.func114,Tryz.ntmps114;go_wp2
  go_step3
  go_wp2;rw [Exit.noGoto_ret];go_ret;exact ⟨rfl,rfl⟩
 have a2:=no (show ¬ s.length≤at_ by omega);go_enter Tryz.func114,Tryz.ntmps114;go_wp2
 go_step3
 go_wp2
 go_step3
 go_wp2
 go_loopw [7] (fun i w'=>∃ k:Nat,at_+k≤s.length∧i = .int .i64 k∧w=w'∧Hid (spanN letterB (s.drop at_)=k+spanN letterB (s.drop (at_+k)))) (fun i _=>s.length - (intOf i).toNat)
 case atStart=>exact ⟨0,by omega,rfl,rfl,by show _=_;rw [Nat.zero_add,Nat.add_zero]⟩
 case round =>
  obtain ⟨k,hk,rfl,rfl,HK⟩:=hrel
  obtain ⟨n,hn⟩:∃ n:Nat,n=at_+k:=⟨_,rfl⟩
  have hn2:(at_:Int)+(k:Int)=(n:Int):=by omega
  have HN:=j7c hn;rw [← hn] at HK;by_cases hlt:n<s.length
  ·have n0:(0:Int)≤(n:Int):=by omega
   have n1:(n:Int)<(s.length:Int):=by omega
   have HFC:=j7c (HF.out s[n]);have HS:=j7c (zco letterB hlt);clear hn hal a1 a2
   cases hf:letterB s[n] with
   | true =>
    rw [hf] at HFC HS;clear hf
    go_wp2_with (go_at_call 115;refine (HFC.out _).mono ?_;rintro e w' ⟨rfl,rfl⟩)
    go_roundw
    case rel=>exact ⟨k+1,by have:=HN.out;omega,by go_num,by trivial,by
     show _=_
     have h1:=HK.out;have h2:=HS.out;rw [if_pos trivial] at h2;rw [h1,h2,show at_+(k+1)=n+1 by have:=HN.out;omega]
     omega⟩
    case measure=>have:=HN.out;simp [intOf];omega
   | false =>
    rw [hf] at HFC HS;clear hf
    go_wp2_with (go_at_call 115;refine (HFC.out _).mono ?_;rintro e w' ⟨rfl,rfl⟩)
    rw [Exit.noGoto_ret];go_ret;refine ⟨?_,rfl⟩;have h2:=HS.out;rw [if_neg (by simp)] at h2;rw [HK.out,h2];rfl
  ·have d0:=no hlt
   have hz:spanN letterB (s.drop n)=0:=by rw [List.drop_eq_nil_of_le (by omega)];rfl
   rw [hz] at HK;clear hz hn hal a1 a2 hlt;go_wp2;rw [Exit.noGoto_ret];go_ret;refine ⟨?_,rfl⟩;rw [HK.out];rfl
set_option maxHeartbeats 1000000 in
theorem zpq (s:List UInt8) (at_:Nat) (w:World) (hs:s.length≤1073741824) (ha:at_≤s.length):Calls Tryz.prog 114 #[.string (B s),.int .i64 at_,.func (.func 116) #[] #[]] w fun e w'=>e = .returned (.int .i64 (spanN nameB (s.drop at_)))∧w=w':=by
 have HF:=j7c fun c w=>zpp c w;have a1:=no (show ¬ (at_:Int)<0 by omega);by_cases hal:at_<s.length;rotate_left
 ·have hz:spanN nameB (s.drop at_)=0:=by rw [List.drop_eq_nil_of_le (by omega)];rfl
  have a2:s.length≤at_:=by omega
  have a3:(s.length:Int)≤(at_:Int):=by omega
  rw [hz];clear hz hal;go_enter Tryz.func114,Tryz.ntmps114;go_wp2
  go_step3
  go_wp2;rw [Exit.noGoto_ret];go_ret;exact ⟨rfl,rfl⟩
 have a2:=no (show ¬ s.length≤at_ by omega);go_enter Tryz.func114,Tryz.ntmps114;go_wp2
 go_step3
 go_wp2
 go_step3
 go_wp2
 go_loopw [7] (fun i w'=>∃ k:Nat,at_+k≤s.length∧i = .int .i64 k∧w=w'∧Hid (spanN nameB (s.drop at_)=k+spanN nameB (s.drop (at_+k)))) (fun i _=>s.length - (intOf i).toNat)
 case atStart=>exact ⟨0,by omega,rfl,rfl,by show _=_;rw [Nat.zero_add,Nat.add_zero]⟩
 case round =>
  obtain ⟨k,hk,rfl,rfl,HK⟩:=hrel
  obtain ⟨n,hn⟩:∃ n:Nat,n=at_+k:=⟨_,rfl⟩
  have hn2:(at_:Int)+(k:Int)=(n:Int):=by omega
  have HN:=j7c hn;rw [← hn] at HK;by_cases hlt:n<s.length
  ·have n0:(0:Int)≤(n:Int):=by omega
   have n1:(n:Int)<(s.length:Int):=by omega
   have HFC:=j7c (HF.out s[n]);have HS:=j7c (zco nameB hlt);clear hn hal a1 a2
   cases hf:nameB s[n] with
   | true =>
    rw [hf] at HFC HS;clear hf
    go_wp2_with (go_at_call 116;refine (HFC.out _).mono ?_;rintro e w' ⟨rfl,rfl⟩)
    go_roundw
    case rel=>exact ⟨k+1,by have:=HN.out;omega,by go_num,by trivial,by
     show _=_
     have h1:=HK.out;have h2:=HS.out;rw [if_pos trivial] at h2;rw [h1,h2,show at_+(k+1)=n+1 by have:=HN.out;omega]
     omega⟩
    case measure=>have:=HN.out;simp [intOf];omega
   | false =>
    rw [hf] at HFC HS;clear hf
    go_wp2_with (go_at_call 116;refine (HFC.out _).mono ?_;rintro e w' ⟨rfl,rfl⟩)
    rw [Exit.noGoto_ret];go_ret;refine ⟨?_,rfl⟩;have h2:=HS.out;rw [if_neg (by simp)] at h2;rw [HK.out,h2];rfl
  ·have d0:=no hlt
   have hz:spanN nameB (s.drop n)=0:=by rw [List.drop_eq_nil_of_le (by omega)];rfl
   rw [hz] at HK;clear hz hn hal a1 a2 hlt;go_wp2;rw [Exit.noGoto_ret];go_ret;refine ⟨?_,rfl⟩;rw [HK.out];rfl
-- end span
def nameN (s:List UInt8) (at_:Nat):Nat:=if spanN letterB (s.drop at_) == 0 then 0 else spanN nameB (s.drop at_)
theorem zki (s:List UInt8) (at_:Nat) (w:World) (hs:s.length≤1073741824) (ha:at_≤s.length):Calls Tryz.prog 79 #[.string (B s),.int .i64 at_] w fun e w'=>e = .returned (.int .i64 (nameN s at_))∧w=w':=by
 have HL:=j7c (zl7 s at_ · hs ha);have HN:=j7c (zpq s at_ · hs ha);unfold nameN;generalize spanN letterB (s.drop at_)=a at *;generalize spanN nameB (s.drop at_)=b at *;by_cases h:a=0
 ·subst h
  go_enter Tryz.func79,Tryz.ntmps79
  go_wp2_with (go_at_call 114;(with_reducible refine (HL.out _).mono ?_);rintro e w' ⟨rfl,rfl⟩)
  go_ret;exact ⟨rfl,rfl⟩
 ·have h1:((a:Int) == 0)=false:=by simpa using h
  have h2:(a == 0)=false:=by simpa using h
  go_enter Tryz.func79,Tryz.ntmps79
  go_wp2_with (first|(go_at_call 114;(with_reducible refine (HL.out _).mono ?_);rintro e w' ⟨rfl,rfl⟩)|(go_at_call 114;(with_reducible refine (HN.out _).mono ?_);rintro e w' ⟨rfl,rfl⟩))
  go_ret;exact ⟨rfl,rfl⟩
theorem zkj (f:UInt8→Bool):∀ l,(spanN f l == l.length)=l.all f
 | []=>rfl
 | c :: l=>by
  have ih:=zkj f l;unfold spanN at *;rw [List.takeWhile_cons,List.all_cons]
  cases hf:f c with
  | true =>
   rw [if_pos rfl,List.length_cons,List.length_cons,Bool.true_and,← ih,Bool.eq_iff_iff];simp
  | false=>simp
def isNameB (s:List UInt8):Bool:=letterB (s.getD 0 0) && s.all nameB
theorem zpr (s:List UInt8) (h:0<s.length):(nameN s 0 == s.length)=isNameB s:=by
 match s,h with
 | c :: r,_ =>
  unfold nameN isNameB;rw [List.drop_zero]
  show _=(letterB c && _)
  cases hc:letterB c with
  | true =>
   have h1:(spanN letterB (c :: r) == 0)=false:=by unfold spanN;rw [List.takeWhile_cons,if_pos hc];simp
   rw [h1,if_neg (by simp),zkj];rfl
  | false =>
   have h1:(spanN letterB (c :: r) == 0)=true:=by unfold spanN;rw [List.takeWhile_cons,if_neg (by rw [hc];simp)];rfl
   rw [h1,if_pos rfl];simp
theorem zhm (s:List UInt8) (w:World) (hs:s.length≤1073741824):Calls Tryz.prog 92 #[.string (B s)] w fun e w'=>e = .returned (.bool (isNameB s))∧w=w':=by
 have HN:=j7c fun w=>zki s 0 w hs (by omega);rcases Nat.eq_zero_or_pos s.length with h|h
 ·have:s=[]:=List.eq_nil_of_length_eq_zero h
  subst this;go_enter Tryz.func92,Tryz.ntmps92;go_wp2;go_ret;exact ⟨rfl,rfl⟩
 ·have HE:=j7c (zpr s h)
  have hne:s.isEmpty=false:=by cases s with
   | nil=>simp at h
   | cons _ _=>rfl
  generalize nameN s 0=a at *;by_cases ha:a=s.length
  ·have h1:((a:Int) == (s.length:Int))=true:=by rw [ha];simp
   have HR:=j7c (show isNameB s=true by rw [← HE.out,ha];simp);clear ha;go_enter Tryz.func92,Tryz.ntmps92
   go_wp2_with (go_at_call 79;refine (HN.out _).mono ?_;rintro e w' ⟨rfl,rfl⟩)
   go_ret;exact ⟨by rw [HR.out];rfl,rfl⟩
  ·have h1:((a:Int) == (s.length:Int))=false:=by rw [beq_eq_false_iff_ne];omega
   have HR:=j7c (show isNameB s=false by rw [← HE.out];simpa using ha);clear ha;go_enter Tryz.func92,Tryz.ntmps92
   go_wp2_with (go_at_call 79;refine (HN.out _).mono ?_;rintro e w' ⟨rfl,rfl⟩)
   go_ret;exact ⟨by rw [HR.out];rfl,rfl⟩
theorem nameB_eq (c:UInt8):nameB c=(clsB c == 5 || clsB c == 6):=rfl
set_option maxHeartbeats 1000000 in
theorem zci (s:List UInt8) (w:World) (hs:s.length≤1073741824):Calls Tryz.prog 20 #[.string (B s)] w fun e w'=>e = .returned (.bool (isNameB s))∧w=w':=by
 have HC:=j7c zbv;rcases Nat.eq_zero_or_pos s.length with h|h
 ·have:s=[]:=List.eq_nil_of_length_eq_zero h
  subst this;go_enter Tryz.func20,Tryz.ntmps20;go_wp2;go_ret;exact ⟨rfl,rfl⟩
 ·have HC0:=j7c (HC.out s[0])
  have hg:s.getD 0 0=s[0]:=by rw [List.getD_eq_getElem?_getD,List.getElem?_eq_getElem h];rfl
  have HE:=j7c (show isNameB s=((clsB s[0] == 5) && s.all nameB) by unfold isNameB;rw [hg];rfl);have h0:((s.length:Int) == 0)=false:=by rw [beq_eq_false_iff_ne];omega
  have h1:(0:Int)<(s.length:Int):=by omega
  have HH:=j7c h
  have HN0:=j7c (show clsB s[0]=5→(s.take 1).all nameB=true from fun e=>by
   rw [List.take_succ_eq_append_getElem h];simp [nameB,letterB]
   exact .inl e)
  clear hg;generalize clsB s[0]=q at *;by_cases h5:q=5;rotate_left
  ·have h6:(q == 5)=false:=by simpa using h5
   have h7:(q != 5)=true:=by simpa using h5
   rw [h6,Bool.false_and] at HE;clear h5;go_enter Tryz.func20,Tryz.ntmps20
   go_wp2_with (go_at_call 45;refine (HC0.out _).mono ?_;rintro e w' ⟨rfl,rfl⟩)
   go_ret;exact ⟨by rw [HE.out];rfl,rfl⟩
  ·subst h5
   have HE2:Hid (isNameB s=s.all nameB):=HE.out;go_enter Tryz.func20,Tryz.ntmps20
   go_wp2_with (go_at_call 45;refine (HC0.out _).mono ?_;rintro e w' ⟨rfl,rfl⟩)
   clear HC0 HE
   go_loopw [3] (fun i w'=>∃ k:Nat,k≤s.length∧i = .int .i64 k∧w=w'∧Hid ((s.take k).all nameB=true)) (fun i _=>s.length - (intOf i).toNat)
   case atStart=>exact ⟨1,by omega,rfl,rfl,HN0.out trivial⟩
   case round =>
    clear HN0;obtain ⟨k,hk,rfl,rfl,HK⟩:=hrel;by_cases hlt:k<s.length
    ·have k0:(0:Int)≤(k:Int):=by omega
     have k1:(k:Int)<(s.length:Int):=by omega
     have HCK:=j7c (HC.out s[k])
     have HT:=j7c (show (s.take (k+1)).all nameB=(clsB s[k] == 5 || clsB s[k] == 6) by
      rw [List.take_succ_eq_append_getElem hlt,List.all_append,HK.out]
      simp [nameB,letterB,digitB])
     have HX:=j7c (show (clsB s[k] == 5 || clsB s[k] == 6)=false→s.all nameB=false from fun e=>by
      rw [List.all_eq_false]
      exact ⟨s[k],List.getElem_mem hlt,by rw [nameB_eq,e];simp⟩)
     generalize clsB s[k]=q at *;by_cases q5:q=5
     ·subst q5
      go_wp2_with (go_at_call 45;refine (HCK.out _).mono ?_;rintro e w' ⟨rfl,rfl⟩)
      go_roundw
      case rel=>exact ⟨k+1,by omega,by go_num,by trivial,by show _=_;rw [HT.out];rfl⟩
      case measure=>simp [intOf];omega
     by_cases q6:q=6
     ·subst q6
      go_wp2_with (go_at_call 45;refine (HCK.out _).mono ?_;rintro e w' ⟨rfl,rfl⟩)
      go_roundw
      case rel=>exact ⟨k+1,by omega,by go_num,by trivial,by show _=_;rw [HT.out];rfl⟩
      case measure=>simp [intOf];omega
     have z5:(q != 5)=true:=by simpa using q5
     have z6:(q != 6)=true:=by simpa using q6
     have HR:=j7c (HX.out (by simp [q5,q6]));clear q5 q6
     go_wp2_with (go_at_call 45;refine (HCK.out _).mono ?_;rintro e w' ⟨rfl,rfl⟩)
     go_ret;exact ⟨by rw [HE2.out,HR.out];rfl,rfl⟩
    ·have hk2:k=s.length:=by omega
     have HR:Hid (s.all nameB=true):=by have:=HK.out;rw [hk2,List.take_length] at this;exact this
     have d0:=no hlt;clear hk2 hlt;go_wp2;go_ret;exact ⟨by rw [HE2.out,HR.out];rfl,rfl⟩
def wordB (s:List UInt8):Bool := !s.isEmpty && s.all fun c=>safeB c && !(c == 47)
set_option maxHeartbeats 1000000 in
theorem word_any (s:List UInt8) (w:World) (hs:s.length≤1073741824):Calls Tryz.prog 93 #[.string (B s)] w fun e w'=>e = .returned (.bool (wordB s))∧w=w':=by
 have HC:=j7c safe_any;rcases Nat.eq_zero_or_pos s.length with h|h
 ·have:s=[]:=List.eq_nil_of_length_eq_zero h
  subst this;go_enter Tryz.func93,Tryz.ntmps93;go_wp2
  go_step3
  go_wp2;rw [Exit.noGoto_ret];go_ret;exact ⟨rfl,rfl⟩
 ·have hne:s.isEmpty=false:=by cases s with
   | nil=>simp at h
   | cons _ _=>rfl
  have HE:=j7c (show wordB s=s.all fun c=>safeB c && !(c == 47) by unfold wordB;rw [hne];rfl);go_enter Tryz.func93,Tryz.ntmps93;go_wp2
  go_step3
  go_wp2
  go_step3
  go_wp2
  go_loopw [8] (fun i w'=>∃ k:Nat,k≤s.length∧i = .int .i64 k∧w=w'∧Hid ((s.take k).all (fun c=>safeB c && !(c == 47))=true)) (fun i _=>s.length - (intOf i).toNat)
  case atStart=>exact ⟨0,by omega,rfl,rfl,rfl⟩
  case round =>
   obtain ⟨k,hk,rfl,rfl,HK⟩:=hrel;by_cases hlt:k<s.length
   ·have k0:(0:Int)≤(k:Int):=by omega
    have k1:(k:Int)<(s.length:Int):=by omega
    have HCK:=j7c (HC.out s[k])
    have HT:=j7c (show (s.take (k+1)).all (fun c=>safeB c && !(c == 47))=(safeB s[k] && !(s[k] == 47)) by
     rw [List.take_succ_eq_append_getElem hlt,List.all_append,HK.out]
     simp)
    have HX:=j7c (show (safeB s[k] && !(s[k] == 47))=false→s.all (fun c=>safeB c && !(c == 47))=false from fun e=>by
     rw [List.all_eq_false]
     exact ⟨s[k],List.getElem_mem hlt,by rw [e];simp⟩)
    cases hsf:safeB s[k] with
    | false =>
     rw [hsf] at HCK;have HR:=j7c (HX.out (by rw [hsf];rfl));clear hsf
     go_wp2_with (go_at_call 127;refine (HCK.out _).mono ?_;rintro e w' ⟨rfl,rfl⟩)
     rw [Exit.noGoto_ret];go_ret;exact ⟨by rw [HE.out,HR.out];rfl,rfl⟩
    | true =>
     rw [hsf] at HCK;by_cases hc:s[k]=47
     ·have z1:=Pat.is_nb (n:=47) rfl hc
      have HR:=j7c (HX.out (by rw [hc];simp));clear hc hsf
      go_wp2_with (go_at_call 127;refine (HCK.out _).mono ?_;rintro e w' ⟨rfl,rfl⟩)
      rw [Exit.noGoto_ret];go_ret;exact ⟨by rw [HE.out,HR.out];rfl,rfl⟩
     ·have z1:=Pat.not_nb (n:=47) rfl hc
      rw [hsf,show (s[k] == 47)=false by simpa using hc] at HT;clear hc hsf
      go_wp2_with (go_at_call 127;refine (HCK.out _).mono ?_;rintro e w' ⟨rfl,rfl⟩)
      go_roundw
      case rel=>exact ⟨k+1,by omega,by go_num,by trivial,by show _=_;rw [HT.out];rfl⟩
      case measure=>simp [intOf];omega
   ·have hk2:k=s.length:=by omega
    have HR:Hid (s.all (fun c=>safeB c && !(c == 47))=true):=by have:=HK.out;rw [hk2,List.take_length] at this;exact this
    have d0:=no hlt;have d1:=no (show ¬ (k:Int)<(s.length:Int) by omega);clear hk2 hlt;go_wp2;rw [Exit.noGoto_ret];go_ret;exact ⟨by rw [HE.out,HR.out];rfl,rfl⟩
def mayB (kind:Int) (s:List UInt8):Bool:=if kind == 1 || kind == 3 then isNameB s else if kind == 2 || kind == 4 then wordB s else false
theorem may_any (kind:Int) (s:List UInt8) (w:World) (hs:s.length≤1073741824):Calls Tryz.prog 58 #[.int .i64 kind,.string (B s)] w fun e w'=>e = .returned (.bool (mayB kind s))∧w=w':=by
 have HN:=j7c (zhm s · hs);have HW:=j7c (word_any s · hs);unfold mayB;generalize isNameB s=a at *;generalize wordB s=b at *;go_enter Tryz.func58,Tryz.ntmps58
 go_wp2_with (first|(go_at_call 92;refine (HN.out _).mono ?_;rintro e w' ⟨rfl,rfl⟩)|(go_at_call 93;refine (HW.out _).mono ?_;rintro e w' ⟨rfl,rfl⟩))
 all_goals
  go_ret;refine ⟨ret_b ?_,rfl⟩;simp [*]
set_option maxHeartbeats 1000000 in
theorem refMay_any (kind:Int) (s:List UInt8) (w:World) (hs:s.length≤1073741824):Calls Tryz.prog 48 #[.int .i64 kind,.string (B s)] w fun e w'=>e = .returned (.bool (mayB kind s))∧w=w':=by
 have HN:=j7c (zci s · hs);have HC:=j7c zl6;by_cases h13:kind=1∨kind=3
 ·have HR:=j7c (show mayB kind s=isNameB s by unfold mayB;rw [if_pos (by simpa using h13)])
  rcases h13 with rfl|rfl
  all_goals
   go_enter Tryz.func48,Tryz.ntmps48
   go_wp2_with (go_at_call 20;refine (HN.out _).mono ?_;rintro e w' ⟨rfl,rfl⟩)
   go_ret;exact ⟨by rw [HR.out];rfl,rfl⟩
 have hm:mayB kind s=if kind == 2 || kind == 4 then wordB s else false:=by unfold mayB;rw [if_neg (by simpa using h13)]
 have c1:(kind == 1)=false:=by simpa using fun e=>h13 (.inl e)
 have c3:(kind == 3)=false:=by simpa using fun e=>h13 (.inr e)
 by_cases h24:kind=2∨kind=4;rotate_left
 ·have c2:(kind != 2)=true:=by simpa using fun e=>h24 (.inl e)
  have c4:(kind != 4)=true:=by simpa using fun e=>h24 (.inr e)
  have HR:=j7c (show mayB kind s=false by rw [hm,if_neg (by simpa using h24)]);clear hm h13 h24;go_enter Tryz.func48,Tryz.ntmps48;go_wp2;go_ret;exact ⟨by rw [HR.out];rfl,rfl⟩
 rw [if_pos (by simpa using h24)] at hm;rcases Nat.eq_zero_or_pos s.length with h|h
 ·have:s=[]:=List.eq_nil_of_length_eq_zero h
  subst this;have HR:=j7c (show mayB kind []=false by rw [hm];rfl);clear hm h13;rcases h24 with rfl|rfl
  all_goals
   go_enter Tryz.func48,Tryz.ntmps48;go_wp2;go_ret;exact ⟨by rw [HR.out];rfl,rfl⟩
 ·have hne:s.isEmpty=false:=by cases s with
   | nil=>simp at h
   | cons _ _=>rfl
  have HE:=j7c (show mayB kind s=s.all fun c=>safeB c && !(c == 47) by rw [hm];unfold wordB;rw [hne];rfl);clear hm h13;rcases h24 with rfl|rfl
  all_goals
   clear c1 c3;go_enter Tryz.func48,Tryz.ntmps48;go_wp2
   go_loopw [5] (fun i w'=>∃ k:Nat,k≤s.length∧i = .int .i64 k∧w=w'∧Hid ((s.take k).all (fun c=>safeB c && !(c == 47))=true)) (fun i _=>s.length - (intOf i).toNat)
   case atStart=>exact ⟨0,by omega,rfl,rfl,rfl⟩
   case round =>
    obtain ⟨k,hk,rfl,rfl,HK⟩:=hrel;by_cases hlt:k<s.length
    ·have k0:(0:Int)≤(k:Int):=by omega
     have k1:(k:Int)<(s.length:Int):=by omega
     have HCK:=j7c (HC.out s[k])
     have HT:=j7c (show (s.take (k+1)).all (fun c=>safeB c && !(c == 47))=(safeB s[k] && !(s[k] == 47)) by
      rw [List.take_succ_eq_append_getElem hlt,List.all_append,HK.out]
      simp)
     have HX:=j7c (show (safeB s[k] && !(s[k] == 47))=false→s.all (fun c=>safeB c && !(c == 47))=false from fun e=>by
      rw [List.all_eq_false]
      exact ⟨s[k],List.getElem_mem hlt,by rw [e];simp⟩)
     cases hsf:safeB s[k] with
     | false =>
      rw [hsf] at HCK;have HR:=j7c (HX.out (by rw [hsf];rfl));clear hsf
      go_wp2_with (go_at_call 78;refine (HCK.out _).mono ?_;rintro e w' ⟨rfl,rfl⟩)
      go_ret;exact ⟨by rw [HE.out,HR.out];rfl,rfl⟩
     | true =>
      rw [hsf] at HCK;by_cases hc:s[k]=47
      ·have z1:=Pat.is_b (n:=47) rfl hc
       have HR:=j7c (HX.out (by rw [hc];simp));clear hc hsf
       go_wp2_with (go_at_call 78;refine (HCK.out _).mono ?_;rintro e w' ⟨rfl,rfl⟩)
       go_ret;exact ⟨by rw [HE.out,HR.out];rfl,rfl⟩
      ·have z1:=Pat.not_b (n:=47) rfl hc
       rw [hsf,show (s[k] == 47)=false by simpa using hc] at HT;clear hc hsf
       go_wp2_with (go_at_call 78;refine (HCK.out _).mono ?_;rintro e w' ⟨rfl,rfl⟩)
       go_roundw
       case rel=>exact ⟨k+1,by omega,by go_num,by trivial,by show _=_;rw [HT.out];rfl⟩
       case measure=>simp [intOf];omega
    ·have hk2:k=s.length:=by omega
     have HR:Hid (s.all (fun c=>safeB c && !(c == 47))=true):=by have:=HK.out;rw [hk2,List.take_length] at this;exact this
     have d0:=no hlt;clear hk2 hlt;go_wp2;go_ret;exact ⟨by rw [HE.out,HR.out];rfl,rfl⟩
end Go.Proofs.YtfmecpnokefokaaGreatDoor.Cls
