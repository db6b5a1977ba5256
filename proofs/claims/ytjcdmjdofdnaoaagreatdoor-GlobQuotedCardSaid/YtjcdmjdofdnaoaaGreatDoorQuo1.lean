/-
  Layer 4 (class), on: digits, blanks, what ends a word, reserved words; the reference's All, Ends, Reserved. Conditions: texts of at most 2^30 bytes.
-/
import Derived.Test.YtjcdmjdofdnaoaaGreatDoorPatA
import Derived.Test.YtjcdmjdofdnaoaaGreatDoorShelfB
import Derived.Test.YtjcdmjdofdnaoaaGreatDoorHist
import Derived.WalkMore
set_option linter.unusedSimpArgs false
set_option linter.unusedVariables false
namespace Go.Proofs.YtjcdmjdofdnaoaaGreatDoor.Pat
open Go.ChangeShapes Go.WideShapes Go.Deep Go.RowKit
set_option maxRecDepth 100000
theorem _root_.Go.Proofs.YtjcdmjdofdnaoaaGreatDoor.j7qb {p:Prop} (h:p):Go.RowKit.Hid p:=Go.Lib.hid h
theorem u8_ne {x y:UInt8} (h:¬ x=y):(((x.toNat:Nat):Int) == ((y.toNat:Nat):Int))=false:=by
 rw [beq_eq_false_iff_ne];intro e;exact h (UInt8.toNat_inj.1 (by omega))
theorem e32 (b:UInt8):btw b 32 126=(decide (32≤(b.toNat:Int)) && decide ((b.toNat:Int)≤126)):=rfl
theorem e9 (b:UInt8):btw b 9 13=(decide (9≤(b.toNat:Int)) && decide ((b.toNat:Int)≤13)):=rfl
end Go.Proofs.YtjcdmjdofdnaoaaGreatDoor.Pat
namespace Go.Proofs.YtjcdmjdofdnaoaaGreatDoor.Cls
open Go.ChangeShapes Go.WideShapes Go.Deep Go.RowKit
set_option maxRecDepth 100000
theorem ret_b {a b:Bool} (h:a=b):Ending.returned (.bool a) = .returned (.bool b):=by rw [h]
def clsB (c:UInt8):Int:=cls c.toNat
def safeL:List UInt8:=[37,43,44,45,46,47,58,64]
def safeB (c:UInt8):Bool:=clsB c == 5 || clsB c == 6 || decide ((127:Int)<(c.toNat:Int)) || safeL.contains c
def safeI (n:Int):Bool:=n == 37 || n == 43 || n == 44 || n == 45 || n == 46 || n == 47 || n == 58 || n == 64 || cls n == 5 || cls n == 6 || decide (128≤n)
theorem safeI_eq (c:UInt8):safeI c.toNat=safeB c:=by
 have h:∀ n:Fin 256,safeI (UInt8.ofNat n.val).toNat=safeB (UInt8.ofNat n.val):=by decide +kernel
 have:=h ⟨c.toNat,c.toNat_lt⟩
 simpa using this
theorem of_any (c:UInt8) (w:World):Calls Tryz.prog 74 #[.int .u8 c.toNat] w fun e w'=>e = .returned (.int .i64 (clsB c))∧w=w':=cls_any c.toNat w
theorem zj0 (c:UInt8) (w:World):Calls Tryz.prog 45 #[.int .u8 c.toNat] w fun e w'=>e = .returned (.bool (safeB c))∧w=w':=by
 have HC:=j7qb fun w=>cls_any c.toNat w;rw [← safeI_eq];generalize (c.toNat:Int)=n at *;go_enter Tryz.func45,Tryz.ntmps45
 go_wp2_with (go_at_call 74;refine (HC.out _).mono ?_;rintro e w' ⟨rfl,rfl⟩)
 all_goals
  go_ret;refine ⟨ret_b ?_,rfl⟩;simp [safeI, *]
def spanN (f:UInt8→Bool) (l:List UInt8):Nat:=(l.takeWhile f).length
theorem zj1 (f:UInt8→Bool):∀ l,spanN f l≤l.length
 | []=>Nat.le_refl _
 | c :: l=>by
  have:=zj1 f l;unfold spanN at *;rw [List.takeWhile_cons]
  split <;> simp <;> omega
theorem zd5 (f:UInt8→Bool) {s:List UInt8} {n:Nat} (h:n<s.length):spanN f (s.drop n)=if f s[n]=true then 1+spanN f (s.drop (n+1)) else 0:=by
 rw [List.drop_eq_getElem_cons h];unfold spanN;rw [List.takeWhile_cons]
 split <;> simp [Nat.add_comm]
def letterB (c:UInt8):Bool:=clsB c == 5
def digitB (c:UInt8):Bool:=clsB c == 6
def nameB (c:UInt8):Bool:=letterB c || digitB c
theorem zgq (c:UInt8) (w:World):Calls Tryz.prog 145 #[.int .u8 c.toNat] w fun e w'=>e = .returned (.bool (letterB c))∧w=w':=by
 have HC:=j7qb (of_any c);unfold letterB;generalize clsB c=k at *;go_enter Tryz.func145,Tryz.ntmps145
 go_wp2_with (go_at_call 74;refine (HC.out _).mono ?_;rintro e w' ⟨rfl,rfl⟩)
 go_ret;exact ⟨rfl,rfl⟩
theorem zh1 (c:UInt8) (w:World):Calls Tryz.prog 110 #[.int .u8 c.toNat] w fun e w'=>e = .returned (.bool (digitB c))∧w=w':=by
 have HC:=j7qb (of_any c);unfold digitB;generalize clsB c=k at *;go_enter Tryz.func110,Tryz.ntmps110
 go_wp2_with (go_at_call 74;refine (HC.out _).mono ?_;rintro e w' ⟨rfl,rfl⟩)
 go_ret;exact ⟨rfl,rfl⟩
theorem zpr (c:UInt8) (w:World):Calls Tryz.prog 146 #[.int .u8 c.toNat] w fun e w'=>e = .returned (.bool (nameB c))∧w=w':=by
 have HL:=j7qb (zgq c);have HD:=j7qb (zh1 c);unfold nameB;generalize letterB c=a at *;generalize digitB c=b at *;cases a
 all_goals
  go_enter Tryz.func146,Tryz.ntmps146
  go_wp2_with (first|(go_at_call 145;refine (HL.out _).mono ?_;rintro e w' ⟨rfl,rfl⟩)|(go_at_call 110;refine (HD.out _).mono ?_;rintro e w' ⟨rfl,rfl⟩))
  go_ret;exact ⟨rfl,rfl⟩
-- span
set_option maxHeartbeats 1000000 in
theorem zk7 (s:List UInt8) (at_:Nat) (w:World) (hs:s.length≤1073741824) (ha:at_≤s.length):Calls Tryz.prog 109 #[.string (B s),.int .i64 at_,.func (.func 145) #[] #[]] w fun e w'=>e = .returned (.int .i64 (spanN letterB (s.drop at_)))∧w=w':=by
 have HF:=j7qb fun c w=>zgq c w;have a1:=no (show ¬ (at_:Int)<0 by omega);by_cases hal:at_<s.length;rotate_left
 ·have hz:spanN letterB (s.drop at_)=0:=by rw [List.drop_eq_nil_of_le (by omega)];rfl
  have a2:s.length≤at_:=by omega
  have a3:(s.length:Int)≤(at_:Int):=by omega
  rw [hz];clear hz hal;go_enter Tryz.func109,Tryz.ntmps109;go_wp2
  go_step3
  go_wp2;rw [Exit.noGoto_ret];go_ret;exact ⟨rfl,rfl⟩
 have a2:=no (show ¬ s.length≤at_ by omega);go_enter Tryz.func109,Tryz.ntmps109;go_wp2
 go_step3
 go_wp2
 go_step3
 go_wp2
 go_loopw [7] (fun i w'=>∃ k:Nat,at_+k≤s.length∧i = .int .i64 k∧w=w'∧Hid (spanN letterB (s.drop at_)=k+spanN letterB (s.drop (at_+k)))) (fun i _=>s.length - (intOf i).toNat)
 case atStart=>exact ⟨0,by omega,rfl,rfl,by show _=_;rw [Nat.zero_add,Nat.add_zero]⟩
 case round =>
  obtain ⟨k,hk,rfl,rfl,HK⟩:=hrel
  obtain ⟨n,hn⟩:∃ n:Nat,n=at_+k:=⟨_,rfl⟩
  have hn2:(at_:Int)+(k:Int)=(n:Int):=by omega
  have HN:=j7qb hn;rw [← hn] at HK;by_cases hlt:n<s.length
  ·have n0:(0:Int)≤(n:Int):=by omega
   have n1:(n:Int)<(s.length:Int):=by omega
   have HFC:=j7qb (HF.out s[n]);have HS:=j7qb (zd5 letterB hlt);clear hn hal a1 a2
   cases hf:letterB s[n] with
   | true =>
    rw [hf] at HFC HS;clear hf
    go_wp2_with (go_at_call 145;refine (HFC.out _).mono ?_;rintro e w' ⟨rfl,rfl⟩)
    go_roundw
    case rel=>exact ⟨k+1,by have:=HN.out;omega,by go_num,by trivial,by
     show _=_
     have h1:=HK.out;have h2:=HS.out;rw [if_pos trivial] at h2;rw [h1,h2,show at_+(k+1)=n+1 by have:=HN.out;omega]
     omega⟩
    case measure=>have:=HN.out;simp [intOf];omega
   | false =>
    rw [hf] at HFC HS;clear hf
    go_wp2_with (go_at_call 145;refine (HFC.out _).mono ?_;rintro e w' ⟨rfl,rfl⟩)
    rw [Exit.noGoto_ret];go_ret;refine ⟨?_,rfl⟩;have h2:=HS.out;rw [if_neg (by simp)] at h2;rw [HK.out,h2];rfl
  ·have d0:=no hlt
   have hz:spanN letterB (s.drop n)=0:=by rw [List.drop_eq_nil_of_le (by omega)];rfl
   rw [hz] at HK;clear hz hn hal a1 a2 hlt;go_wp2;rw [Exit.noGoto_ret];go_ret;refine ⟨?_,rfl⟩;rw [HK.out];rfl
set_option maxHeartbeats 1000000 in
theorem zps (s:List UInt8) (at_:Nat) (w:World) (hs:s.length≤1073741824) (ha:at_≤s.length):Calls Tryz.prog 109 #[.string (B s),.int .i64 at_,.func (.func 146) #[] #[]] w fun e w'=>e = .returned (.int .i64 (spanN nameB (s.drop at_)))∧w=w':=by
 have HF:=j7qb fun c w=>zpr c w;have a1:=no (show ¬ (at_:Int)<0 by omega);by_cases hal:at_<s.length;rotate_left
 ·have hz:spanN nameB (s.drop at_)=0:=by rw [List.drop_eq_nil_of_le (by omega)];rfl
  have a2:s.length≤at_:=by omega
  have a3:(s.length:Int)≤(at_:Int):=by omega
  rw [hz];clear hz hal;go_enter Tryz.func109,Tryz.ntmps109;go_wp2
  go_step3
  go_wp2;rw [Exit.noGoto_ret];go_ret;exact ⟨rfl,rfl⟩
 have a2:=no (show ¬ s.length≤at_ by omega);go_enter Tryz.func109,Tryz.ntmps109;go_wp2
 go_step3
 go_wp2
 go_step3
 go_wp2
 go_loopw [7] (fun i w'=>∃ k:Nat,at_+k≤s.length∧i = .int .i64 k∧w=w'∧Hid (spanN nameB (s.drop at_)=k+spanN nameB (s.drop (at_+k)))) (fun i _=>s.length - (intOf i).toNat)
 case atStart=>exact ⟨0,by omega,rfl,rfl,by show _=_;rw [Nat.zero_add,Nat.add_zero]⟩
 case round =>
  obtain ⟨k,hk,rfl,rfl,HK⟩:=hrel
  obtain ⟨n,hn⟩:∃ n:Nat,n=at_+k:=⟨_,rfl⟩
  have hn2:(at_:Int)+(k:Int)=(n:Int):=by omega
  have HN:=j7qb hn;rw [← hn] at HK;by_cases hlt:n<s.length
  ·have n0:(0:Int)≤(n:Int):=by omega
   have n1:(n:Int)<(s.length:Int):=by omega
   have HFC:=j7qb (HF.out s[n]);have HS:=j7qb (zd5 nameB hlt);clear hn hal a1 a2
   cases hf:nameB s[n] with
   | true =>
    rw [hf] at HFC HS;clear hf
    go_wp2_with (go_at_call 146;refine (HFC.out _).mono ?_;rintro e w' ⟨rfl,rfl⟩)
    go_roundw
    case rel=>exact ⟨k+1,by have:=HN.out;omega,by go_num,by trivial,by
     show _=_
     have h1:=HK.out;have h2:=HS.out;rw [if_pos trivial] at h2;rw [h1,h2,show at_+(k+1)=n+1 by have:=HN.out;omega]
     omega⟩
    case measure=>have:=HN.out;simp [intOf];omega
   | false =>
    rw [hf] at HFC HS;clear hf
    go_wp2_with (go_at_call 146;refine (HFC.out _).mono ?_;rintro e w' ⟨rfl,rfl⟩)
    rw [Exit.noGoto_ret];go_ret;refine ⟨?_,rfl⟩;have h2:=HS.out;rw [if_neg (by simp)] at h2;rw [HK.out,h2];rfl
  ·have d0:=no hlt
   have hz:spanN nameB (s.drop n)=0:=by rw [List.drop_eq_nil_of_le (by omega)];rfl
   rw [hz] at HK;clear hz hn hal a1 a2 hlt;go_wp2;rw [Exit.noGoto_ret];go_ret;refine ⟨?_,rfl⟩;rw [HK.out];rfl
-- end span
def nameN (s:List UInt8) (at_:Nat):Nat:=if spanN letterB (s.drop at_) == 0 then 0 else spanN nameB (s.drop at_)
theorem zj2 (s:List UInt8) (at_:Nat) (w:World) (hs:s.length≤1073741824) (ha:at_≤s.length):Calls Tryz.prog 125 #[.string (B s),.int .i64 at_] w fun e w'=>e = .returned (.int .i64 (nameN s at_))∧w=w':=by
 have HL:=j7qb (zk7 s at_ · hs ha);have HN:=j7qb (zps s at_ · hs ha);unfold nameN;generalize spanN letterB (s.drop at_)=a at *;generalize spanN nameB (s.drop at_)=b at *;by_cases h:a=0
 ·subst h
  go_enter Tryz.func125,Tryz.ntmps125
  go_wp2_with (go_at_call 109;(with_reducible refine (HL.out _).mono ?_);rintro e w' ⟨rfl,rfl⟩)
  go_ret;exact ⟨rfl,rfl⟩
 ·have h1:((a:Int) == 0)=false:=by simpa using h
  have h2:(a == 0)=false:=by simpa using h
  go_enter Tryz.func125,Tryz.ntmps125
  go_wp2_with (first|(go_at_call 109;(with_reducible refine (HL.out _).mono ?_);rintro e w' ⟨rfl,rfl⟩)|(go_at_call 109;(with_reducible refine (HN.out _).mono ?_);rintro e w' ⟨rfl,rfl⟩))
  go_ret;exact ⟨rfl,rfl⟩
theorem zf0 (f:UInt8→Bool):∀ l,(spanN f l == l.length)=l.all f
 | []=>rfl
 | c :: l=>by
  have ih:=zf0 f l;unfold spanN at *;rw [List.takeWhile_cons,List.all_cons]
  cases hf:f c with
  | true =>
   rw [if_pos rfl,List.length_cons,List.length_cons,Bool.true_and,← ih,Bool.eq_iff_iff];simp
  | false=>simp
def isNameB (s:List UInt8):Bool:=letterB (s.getD 0 0) && s.all nameB
theorem zpt (s:List UInt8) (h:0<s.length):(nameN s 0 == s.length)=isNameB s:=by
 match s,h with
 | c :: r,_ =>
  unfold nameN isNameB;rw [List.drop_zero]
  show _=(letterB c && _)
  cases hc:letterB c with
  | true =>
   have h1:(spanN letterB (c :: r) == 0)=false:=by unfold spanN;rw [List.takeWhile_cons,if_pos hc];simp
   rw [h1,if_neg (by simp),zf0];rfl
  | false =>
   have h1:(spanN letterB (c :: r) == 0)=true:=by unfold spanN;rw [List.takeWhile_cons,if_neg (by rw [hc];simp)];rfl
   rw [h1,if_pos rfl];simp
theorem isName_any (s:List UInt8) (w:World) (hs:s.length≤1073741824):Calls Tryz.prog 95 #[.string (B s)] w fun e w'=>e = .returned (.bool (isNameB s))∧w=w':=by
 have HN:=j7qb fun w=>zj2 s 0 w hs (by omega);rcases Nat.eq_zero_or_pos s.length with h|h
 ·have:s=[]:=List.eq_nil_of_length_eq_zero h
  subst this;go_enter Tryz.func95,Tryz.ntmps95;go_wp2;go_ret;exact ⟨rfl,rfl⟩
 ·have HE:=j7qb (zpt s h)
  have hne:s.isEmpty=false:=by cases s with
   | nil=>simp at h
   | cons _ _=>rfl
  generalize nameN s 0=a at *;by_cases ha:a=s.length
  ·have h1:((a:Int) == (s.length:Int))=true:=by rw [ha];simp
   have HR:=j7qb (show isNameB s=true by rw [← HE.out,ha];simp);clear ha;go_enter Tryz.func95,Tryz.ntmps95
   go_wp2_with (go_at_call 125;refine (HN.out _).mono ?_;rintro e w' ⟨rfl,rfl⟩)
   go_ret;exact ⟨by rw [HR.out];rfl,rfl⟩
  ·have h1:((a:Int) == (s.length:Int))=false:=by rw [beq_eq_false_iff_ne];omega
   have HR:=j7qb (show isNameB s=false by rw [← HE.out];simpa using ha);clear ha;go_enter Tryz.func95,Tryz.ntmps95
   go_wp2_with (go_at_call 125;refine (HN.out _).mono ?_;rintro e w' ⟨rfl,rfl⟩)
   go_ret;exact ⟨by rw [HR.out];rfl,rfl⟩
def wordB (s:List UInt8):Bool := !s.isEmpty && s.all fun c=>safeB c && !(c == 47)
set_option maxHeartbeats 1000000 in
theorem word_any (s:List UInt8) (w:World) (hs:s.length≤1073741824):Calls Tryz.prog 96 #[.string (B s)] w fun e w'=>e = .returned (.bool (wordB s))∧w=w':=by
 have HC:=j7qb zj0;rcases Nat.eq_zero_or_pos s.length with h|h
 ·have:s=[]:=List.eq_nil_of_length_eq_zero h
  subst this;go_enter Tryz.func96,Tryz.ntmps96;go_wp2
  go_step3
  go_wp2;rw [Exit.noGoto_ret];go_ret;exact ⟨rfl,rfl⟩
 ·have hne:s.isEmpty=false:=by cases s with
   | nil=>simp at h
   | cons _ _=>rfl
  have HE:=j7qb (show wordB s=s.all fun c=>safeB c && !(c == 47) by unfold wordB;rw [hne];rfl);go_enter Tryz.func96,Tryz.ntmps96;go_wp2
  go_step3
  go_wp2
  go_step3
  go_wp2
  go_loopw [8] (fun i w'=>∃ k:Nat,k≤s.length∧i = .int .i64 k∧w=w'∧Hid ((s.take k).all (fun c=>safeB c && !(c == 47))=true)) (fun i _=>s.length - (intOf i).toNat)
  case atStart=>exact ⟨0,by omega,rfl,rfl,rfl⟩
  case round =>
   obtain ⟨k,hk,rfl,rfl,HK⟩:=hrel;by_cases hlt:k<s.length
   ·have k0:(0:Int)≤(k:Int):=by omega
    have k1:(k:Int)<(s.length:Int):=by omega
    have HCK:=j7qb (HC.out s[k])
    have HT:=j7qb (show (s.take (k+1)).all (fun c=>safeB c && !(c == 47))=(safeB s[k] && !(s[k] == 47)) by
     rw [List.take_succ_eq_append_getElem hlt,List.all_append,HK.out]
     simp)
    have HX:=j7qb (show (safeB s[k] && !(s[k] == 47))=false→s.all (fun c=>safeB c && !(c == 47))=false from fun e=>by
     rw [List.all_eq_false]
     exact ⟨s[k],List.getElem_mem hlt,by rw [e];simp⟩)
    cases hsf:safeB s[k] with
    | false =>
     rw [hsf] at HCK;have HR:=j7qb (HX.out (by rw [hsf];rfl));clear hsf
     go_wp2_with (go_at_call 45;refine (HCK.out _).mono ?_;rintro e w' ⟨rfl,rfl⟩)
     rw [Exit.noGoto_ret];go_ret;exact ⟨by rw [HE.out,HR.out];rfl,rfl⟩
    | true =>
     rw [hsf] at HCK;by_cases hc:s[k]=47
     ·have z1:=Pat.is_nb (n:=47) rfl hc
      have HR:=j7qb (HX.out (by rw [hc];simp));clear hc hsf
      go_wp2_with (go_at_call 45;refine (HCK.out _).mono ?_;rintro e w' ⟨rfl,rfl⟩)
      rw [Exit.noGoto_ret];go_ret;exact ⟨by rw [HE.out,HR.out];rfl,rfl⟩
     ·have z1:=Pat.not_nb (n:=47) rfl hc
      rw [hsf,show (s[k] == 47)=false by simpa using hc] at HT;clear hc hsf
      go_wp2_with (go_at_call 45;refine (HCK.out _).mono ?_;rintro e w' ⟨rfl,rfl⟩)
      go_roundw
      case rel=>exact ⟨k+1,by omega,by go_num,by trivial,by show _=_;rw [HT.out];rfl⟩
      case measure=>simp [intOf];omega
   ·have hk2:k=s.length:=by omega
    have HR:Hid (s.all (fun c=>safeB c && !(c == 47))=true):=by have:=HK.out;rw [hk2,List.take_length] at this;exact this
    have d0:=no hlt;have d1:=no (show ¬ (k:Int)<(s.length:Int) by omega);clear hk2 hlt;go_wp2;rw [Exit.noGoto_ret];go_ret;exact ⟨by rw [HE.out,HR.out];rfl,rfl⟩
def mayB (kind:Int) (s:List UInt8):Bool:=if kind == 1 || kind == 3 then isNameB s else if kind == 2 || kind == 4 then wordB s else false
theorem may_any (kind:Int) (s:List UInt8) (w:World) (hs:s.length≤1073741824):Calls Tryz.prog 61 #[.int .i64 kind,.string (B s)] w fun e w'=>e = .returned (.bool (mayB kind s))∧w=w':=by
 have HN:=j7qb (isName_any s · hs);have HW:=j7qb (word_any s · hs);unfold mayB;generalize isNameB s=a at *;generalize wordB s=b at *;go_enter Tryz.func61,Tryz.ntmps61
 go_wp2_with (first|(go_at_call 95;refine (HN.out _).mono ?_;rintro e w' ⟨rfl,rfl⟩)|(go_at_call 96;refine (HW.out _).mono ?_;rintro e w' ⟨rfl,rfl⟩))
 all_goals
  go_ret;refine ⟨ret_b ?_,rfl⟩;simp [*]
def blankB (c:UInt8):Bool:=clsB c == 1
set_option maxHeartbeats 1000000 in
theorem zne (s:List UInt8) (at_:Nat) (w:World) (hs:s.length≤1073741824) (ha:at_≤s.length):Calls Tryz.prog 109 #[.string (B s),.int .i64 at_,.func (.func 110) #[] #[]] w fun e w'=>e = .returned (.int .i64 (spanN digitB (s.drop at_)))∧w=w':=by
 have HF:=j7qb fun c w=>zh1 c w;have a1:=no (show ¬ (at_:Int)<0 by omega);by_cases hal:at_<s.length;rotate_left
 ·have hz:spanN digitB (s.drop at_)=0:=by rw [List.drop_eq_nil_of_le (by omega)];rfl
  have a2:s.length≤at_:=by omega
  have a3:(s.length:Int)≤(at_:Int):=by omega
  rw [hz];clear hz hal;go_enter Tryz.func109,Tryz.ntmps109;go_wp2
  go_step3
  go_wp2;rw [Exit.noGoto_ret];go_ret;exact ⟨rfl,rfl⟩
 have a2:=no (show ¬ s.length≤at_ by omega);go_enter Tryz.func109,Tryz.ntmps109;go_wp2
 go_step3
 go_wp2
 go_step3
 go_wp2
 go_loopw [7] (fun i w'=>∃ k:Nat,at_+k≤s.length∧i = .int .i64 k∧w=w'∧Hid (spanN digitB (s.drop at_)=k+spanN digitB (s.drop (at_+k)))) (fun i _=>s.length - (intOf i).toNat)
 case atStart=>exact ⟨0,by omega,rfl,rfl,by show _=_;rw [Nat.zero_add,Nat.add_zero]⟩
 case round =>
  obtain ⟨k,hk,rfl,rfl,HK⟩:=hrel
  obtain ⟨n,hn⟩:∃ n:Nat,n=at_+k:=⟨_,rfl⟩
  have hn2:(at_:Int)+(k:Int)=(n:Int):=by omega
  have HN:=j7qb hn;rw [← hn] at HK;by_cases hlt:n<s.length
  ·have n0:(0:Int)≤(n:Int):=by omega
   have n1:(n:Int)<(s.length:Int):=by omega
   have HFC:=j7qb (HF.out s[n]);have HS:=j7qb (zd5 digitB hlt);clear hn hal a1 a2
   cases hf:digitB s[n] with
   | true =>
    rw [hf] at HFC HS;clear hf
    go_wp2_with (go_at_call 110;refine (HFC.out _).mono ?_;rintro e w' ⟨rfl,rfl⟩)
    go_roundw
    case rel=>exact ⟨k+1,by have:=HN.out;omega,by go_num,by trivial,by
     show _=_
     have h1:=HK.out;have h2:=HS.out;rw [if_pos trivial] at h2;rw [h1,h2,show at_+(k+1)=n+1 by have:=HN.out;omega]
     omega⟩
    case measure=>have:=HN.out;simp [intOf];omega
   | false =>
    rw [hf] at HFC HS;clear hf
    go_wp2_with (go_at_call 110;refine (HFC.out _).mono ?_;rintro e w' ⟨rfl,rfl⟩)
    rw [Exit.noGoto_ret];go_ret;refine ⟨?_,rfl⟩;have h2:=HS.out;rw [if_neg (by simp)] at h2;rw [HK.out,h2];rfl
  ·have d0:=no hlt
   have hz:spanN digitB (s.drop n)=0:=by rw [List.drop_eq_nil_of_le (by omega)];rfl
   rw [hz] at HK;clear hz hn hal a1 a2 hlt;go_wp2;rw [Exit.noGoto_ret];go_ret;refine ⟨?_,rfl⟩;rw [HK.out];rfl
theorem zgr (s:List UInt8) (at_:Nat) (w:World) (hs:s.length≤1073741824) (ha:at_≤s.length):Calls Tryz.prog 76 #[.string (B s),.int .i64 at_] w fun e w'=>e = .returned (.int .i64 (spanN digitB (s.drop at_)))∧w=w':=by
 have H:=j7qb (zne s at_ w hs ha);generalize spanN digitB (s.drop at_)=n at *;go_enter Tryz.func76,Tryz.ntmps76
 go_wp2_with (go_at_call 109;refine (H.out).mono ?_;rintro e w' ⟨rfl,rfl⟩)
 go_ret;exact ⟨rfl,rfl⟩
def endsB (c:UInt8):Bool:=clsB c == 1 || clsB c == 2 || clsB c == 3
theorem ends_any (c:UInt8) (w:World):Calls Tryz.prog 210 #[.int .u8 c.toNat] w fun e w'=>e = .returned (.bool (endsB c))∧w=w':=by
 have HC:=j7qb (of_any c);unfold endsB;generalize clsB c=k at *;go_enter Tryz.func210,Tryz.ntmps210
 go_wp2_with (go_at_call 74;refine (HC.out _).mono ?_;rintro e w' ⟨rfl,rfl⟩)
 all_goals
  go_ret;refine ⟨ret_b ?_,rfl⟩;simp [*]
def resL:List (List UInt8):=[[33],[123],[125],[99,97,115,101],[100,111],[100,111,110,101],[101,108,105,102],[101,108,115,101],[101,115,97,99],[102,105],[102,111,114],[105,102],[105,110],[116,104,101,110],[117,110,116,105,108],[119,104,105,108,101]]
def resB (s:List UInt8):Bool:=resL.contains s
set_option maxHeartbeats 3200000 in
theorem zj3 (s:List UInt8) (w:World):Calls Tryz.prog 75 #[.string (B s)] w fun e w'=>e = .returned (.bool (resB s))∧w=w':=by
 by_cases h0:s=[33]
 ·subst h0
  rw [show resB [33]=true by decide +kernel];go_enter Tryz.func75,Tryz.ntmps75;go_wp2;go_ret;exact ⟨rfl,rfl⟩
 by_cases h1:s=[123]
 ·subst h1
  rw [show resB [123]=true by decide +kernel];clear h0;go_enter Tryz.func75,Tryz.ntmps75;go_wp2;go_ret;exact ⟨rfl,rfl⟩
 by_cases h2:s=[125]
 ·subst h2
  rw [show resB [125]=true by decide +kernel];clear h0 h1;go_enter Tryz.func75,Tryz.ntmps75;go_wp2;go_ret;exact ⟨rfl,rfl⟩
 by_cases h3:s=[99,97,115,101]
 ·subst h3
  rw [show resB [99,97,115,101]=true by decide +kernel];clear h0 h1 h2;go_enter Tryz.func75,Tryz.ntmps75;go_wp2;go_ret;exact ⟨rfl,rfl⟩
 by_cases h4:s=[100,111]
 ·subst h4
  rw [show resB [100,111]=true by decide +kernel];clear h0 h1 h2 h3;go_enter Tryz.func75,Tryz.ntmps75;go_wp2;go_ret;exact ⟨rfl,rfl⟩
 by_cases h5:s=[100,111,110,101]
 ·subst h5
  rw [show resB [100,111,110,101]=true by decide +kernel];clear h0 h1 h2 h3 h4;go_enter Tryz.func75,Tryz.ntmps75;go_wp2;go_ret;exact ⟨rfl,rfl⟩
 by_cases h6:s=[101,108,105,102]
 ·subst h6
  rw [show resB [101,108,105,102]=true by decide +kernel];clear h0 h1 h2 h3 h4 h5;go_enter Tryz.func75,Tryz.ntmps75;go_wp2;go_ret;exact ⟨rfl,rfl⟩
 by_cases h7:s=[101,108,115,101]
 ·subst h7
  rw [show resB [101,108,115,101]=true by decide +kernel];clear h0 h1 h2 h3 h4 h5 h6;go_enter Tryz.func75,Tryz.ntmps75;go_wp2;go_ret;exact ⟨rfl,rfl⟩
 by_cases h8:s=[101,115,97,99]
 ·subst h8
  rw [show resB [101,115,97,99]=true by decide +kernel];clear h0 h1 h2 h3 h4 h5 h6 h7;go_enter Tryz.func75,Tryz.ntmps75;go_wp2;go_ret;exact ⟨rfl,rfl⟩
 by_cases h9:s=[102,105]
 ·subst h9
  rw [show resB [102,105]=true by decide +kernel];clear h0 h1 h2 h3 h4 h5 h6 h7 h8;go_enter Tryz.func75,Tryz.ntmps75;go_wp2;go_ret;exact ⟨rfl,rfl⟩
 by_cases h10:s=[102,111,114]
 ·subst h10
  rw [show resB [102,111,114]=true by decide +kernel];clear h0 h1 h2 h3 h4 h5 h6 h7 h8 h9;go_enter Tryz.func75,Tryz.ntmps75;go_wp2;go_ret;exact ⟨rfl,rfl⟩
 by_cases h11:s=[105,102]
 ·subst h11
  rw [show resB [105,102]=true by decide +kernel];clear h0 h1 h2 h3 h4 h5 h6 h7 h8 h9 h10;go_enter Tryz.func75,Tryz.ntmps75;go_wp2;go_ret;exact ⟨rfl,rfl⟩
 by_cases h12:s=[105,110]
 ·subst h12
  rw [show resB [105,110]=true by decide +kernel];clear h0 h1 h2 h3 h4 h5 h6 h7 h8 h9 h10 h11;go_enter Tryz.func75,Tryz.ntmps75;go_wp2;go_ret;exact ⟨rfl,rfl⟩
 by_cases h13:s=[116,104,101,110]
 ·subst h13
  rw [show resB [116,104,101,110]=true by decide +kernel];clear h0 h1 h2 h3 h4 h5 h6 h7 h8 h9 h10 h11 h12;go_enter Tryz.func75,Tryz.ntmps75;go_wp2;go_ret;exact ⟨rfl,rfl⟩
 by_cases h14:s=[117,110,116,105,108]
 ·subst h14
  rw [show resB [117,110,116,105,108]=true by decide +kernel];clear h0 h1 h2 h3 h4 h5 h6 h7 h8 h9 h10 h11 h12 h13;go_enter Tryz.func75,Tryz.ntmps75;go_wp2;go_ret;exact ⟨rfl,rfl⟩
 by_cases h15:s=[119,104,105,108,101]
 ·subst h15
  rw [show resB [119,104,105,108,101]=true by decide +kernel];clear h0 h1 h2 h3 h4 h5 h6 h7 h8 h9 h10 h11 h12 h13 h14;go_enter Tryz.func75,Tryz.ntmps75;go_wp2;go_ret;exact ⟨rfl,rfl⟩
 have e0:(s == [33])=false:=by rw [beq_eq_false_iff_ne];exact h0
 have e1:(s == [123])=false:=by rw [beq_eq_false_iff_ne];exact h1
 have e2:(s == [125])=false:=by rw [beq_eq_false_iff_ne];exact h2
 have e3:(s == [99,97,115,101])=false:=by rw [beq_eq_false_iff_ne];exact h3
 have e4:(s == [100,111])=false:=by rw [beq_eq_false_iff_ne];exact h4
 have e5:(s == [100,111,110,101])=false:=by rw [beq_eq_false_iff_ne];exact h5
 have e6:(s == [101,108,105,102])=false:=by rw [beq_eq_false_iff_ne];exact h6
 have e7:(s == [101,108,115,101])=false:=by rw [beq_eq_false_iff_ne];exact h7
 have e8:(s == [101,115,97,99])=false:=by rw [beq_eq_false_iff_ne];exact h8
 have e9:(s == [102,105])=false:=by rw [beq_eq_false_iff_ne];exact h9
 have e10:(s == [102,111,114])=false:=by rw [beq_eq_false_iff_ne];exact h10
 have e11:(s == [105,102])=false:=by rw [beq_eq_false_iff_ne];exact h11
 have e12:(s == [105,110])=false:=by rw [beq_eq_false_iff_ne];exact h12
 have e13:(s == [116,104,101,110])=false:=by rw [beq_eq_false_iff_ne];exact h13
 have e14:(s == [117,110,116,105,108])=false:=by rw [beq_eq_false_iff_ne];exact h14
 have e15:(s == [119,104,105,108,101])=false:=by rw [beq_eq_false_iff_ne];exact h15
 have hr:resB s=false:=by
  unfold resB resL;simp only [List.contains_eq_any_beq,List.any_cons,List.any_nil,e0,e1,e2,e3,e4,e5,e6,e7,e8,e9,e10,e11,e12,e13,e14,e15,Bool.or_false]
 rw [hr];clear hr h0 h1 h2 h3 h4 h5 h6 h7 h8 h9 h10 h11 h12 h13 h14 h15;go_enter Tryz.func75,Tryz.ntmps75;go_wp2;go_ret;exact ⟨rfl,rfl⟩
end Go.Proofs.YtjcdmjdofdnaoaaGreatDoor.Cls
