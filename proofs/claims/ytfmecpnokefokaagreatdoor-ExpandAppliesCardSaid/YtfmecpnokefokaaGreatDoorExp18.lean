/-
  The walks of ref25, on: Open, by the letters of the state.
-/
import Derived.Test.YtfmecpnokefokaaGreatDoorTabPlain
import Derived.Test.YtfmecpnokefokaaGreatDoorModA
set_option linter.unusedSimpArgs false
set_option linter.unusedVariables false
namespace Go.Proofs.YtfmecpnokefokaaGreatDoor.Ex
open Cls Md Mc Pa Li Pat
def openR (x:List UInt8) (qu:Bool):Bool:=if qu=true then lets (run (34 :: x)).l != [84,68] && lets (run (34 :: x)).l != [84,68,76] else lets (run x).l != [84] && lets (run x).l != [84,76]
theorem zgs {c:UInt8} (h:c∈innerL) (h2:c≠84):closeB c≠[]:=by
 simp only [innerL,List.mem_cons,List.not_mem_nil,or_false] at h;rcases h with rfl|rfl|rfl|rfl|rfl|rfl|rfl|rfl|rfl
 ·exact absurd rfl h2
 all_goals decide
theorem zfs {c:UInt8} (h:c∈lettersL) (h2:c≠76):closeB c≠[]:=by
 simp only [lettersL,List.mem_cons,List.not_mem_nil,or_false] at h;rcases h with rfl|rfl|rfl|rfl|rfl|rfl|rfl|rfl|rfl|rfl|rfl|rfl|rfl|rfl
 all_goals first|decide|exact absurd rfl h2
theorem zft {c:UInt8} {p:Nat} {r:List (UInt8×Nat)} (h:WFl ((c,p) :: r)) (hc:c∈innerL) (hl:closL ((c,p) :: r)=[]):c=84∧r=[]:=by
 have hcc:closeB c=[]:=by
  unfold closL at hl;rw [List.flatMap_cons] at hl;exact (List.append_eq_nil_iff.1 hl).1
 have e:c=84:=Classical.byContradiction fun h2=>zgs hc h2 hcc;subst e
 cases r with
 | nil=>exact ⟨rfl,rfl⟩
 | cons d r =>
  obtain ⟨d,q⟩:=d;exact absurd h.1 (by decide)
theorem clos_nil {l:List (UInt8×Nat)} (h:WFl l):(closL l=[]) ↔ (lets l=[84]∨lets l=[84,76]):=by
 match l,h with
 | [(c,p)],h =>
  have e:c=84:=h;subst e;exact ⟨fun _=>.inl rfl,fun _=>rfl⟩
 | (c,p) :: (d,q) :: r,h =>
  obtain ⟨h1,h2,h3⟩:=h
  constructor
  ·intro hl
   have hl2:closeB c++closL ((d,q) :: r)=[]:=by unfold closL at hl ⊢;rw [List.flatMap_cons] at hl;exact hl
   obtain ⟨g1,g2⟩:=List.append_eq_nil_iff.1 hl2;obtain ⟨rfl,rfl⟩:=zft h3 h2 g2;have e:c=76:=Classical.byContradiction fun k=>zfs h1 k g1;subst e;exact .inr rfl
  ·intro hl
   unfold lets at hl;rcases hl with hl|hl
   ·have:=congrArg List.length hl
    simp at this
   ·have:=congrArg List.length hl
    simp at this;subst this;simp at hl;obtain ⟨rfl,rfl⟩:=hl;rfl
theorem clos_dbl {l:List (UInt8×Nat)} (h:WFl l):(closL l=[34]) ↔ (lets l=[84,68]∨lets l=[84,68,76]):=by
 match l,h with
 | [(c,p)],h =>
  have e:c=84:=h;subst e
  constructor
  ·intro h;exact absurd h (by simp [closL,closeB])
  ·intro h;simp [lets] at h
 | (c,p) :: (d,q) :: r,h =>
  obtain ⟨h1,h2,h3⟩:=h;have hcc:closL ((c,p) :: (d,q) :: r)=closeB c++closL ((d,q) :: r):=by unfold closL;rw [List.flatMap_cons]
  constructor
  ·intro hl
   rw [hcc] at hl;by_cases hc:c=76
   ·subst hc
    rw [show closeB 76=[] from by decide,List.nil_append] at hl
    match r,h3 with
    | [],h3 =>
     have e:d=84:=h3;subst e;exact absurd hl (by simp [closL,closeB])
    | (e,u) :: r,h3 =>
     obtain ⟨k1,k2,k3⟩:=h3;have hd:closL ((d,q) :: (e,u) :: r)=closeB d++closL ((e,u) :: r):=by unfold closL;rw [List.flatMap_cons]
     rw [hd] at hl;have hdl:closeB d≠[]:=zgs h2 (by rintro rfl;exact absurd k1 (by decide))
     have hdd:closeB d=[34]∧closL ((e,u) :: r)=[]:=by
      cases hx:closeB d with
      | nil=>exact absurd hx hdl
      | cons a t =>
       rw [hx] at hl;simp at hl;obtain ⟨rfl,rfl,h⟩:=hl;exact ⟨rfl,h⟩
     obtain ⟨rfl,rfl⟩:=zft k3 k2 hdd.2
     have e2:d=68:=by
      have h1:=hdd.1;simp only [innerL,List.mem_cons,List.not_mem_nil,or_false] at h2
      rcases h2 with rfl|rfl|rfl|rfl|rfl|rfl|rfl|rfl|rfl <;> first|rfl|exact absurd h1 (by decide)
     subst e2;exact .inr rfl
   ·have hcl:=zfs h1 hc
    have hdd:closeB c=[34]∧closL ((d,q) :: r)=[]:=by
     cases hx:closeB c with
     | nil=>exact absurd hx hcl
     | cons a t =>
      rw [hx] at hl;simp at hl;obtain ⟨rfl,rfl,h⟩:=hl;exact ⟨rfl,h⟩
    obtain ⟨rfl,rfl⟩:=zft h3 h2 hdd.2
    have e2:c=68:=by
     have k1:=hdd.1;simp only [lettersL,List.mem_cons,List.not_mem_nil,or_false] at h1
     rcases h1 with rfl|rfl|rfl|rfl|rfl|rfl|rfl|rfl|rfl|rfl|rfl|rfl|rfl|rfl <;> first|rfl|exact absurd k1 (by decide)
    subst e2;exact .inl rfl
  ·intro hl
   unfold lets at hl;rcases hl with hl|hl
   ·have:=congrArg List.length hl
    simp at this;subst this;simp at hl;obtain ⟨rfl,rfl⟩:=hl;rfl
   ·have:=congrArg List.length hl
    simp at this
    match r,this with
    | [(e,u)],_ =>
     simp at hl;obtain ⟨rfl,rfl,rfl⟩:=hl;rfl
theorem openR_eq (ex qu:Bool) (x:List UInt8):openR x qu=openG ⟨ex,qu,x⟩:=by
 unfold openR openG;dsimp only
 split
 ·rw [Bool.eq_iff_iff]
  have:=clos_dbl (wf_run (34 :: x));simp only [Bool.and_eq_true,bne_iff_ne];rw [ne_eq,ne_eq,ne_eq,this];exact ⟨fun h k=>k.elim h.1 h.2,fun h=>⟨fun k=>h (.inl k),fun k=>h (.inr k)⟩⟩
 ·rw [Bool.eq_iff_iff]
  have:=clos_nil (wf_run x);simp only [Bool.and_eq_true,bne_iff_ne];rw [ne_eq,ne_eq,ne_eq,this];exact ⟨fun h k=>k.elim h.1 h.2,fun h=>⟨fun k=>h (.inl k),fun k=>h (.inr k)⟩⟩
end Go.Proofs.YtfmecpnokefokaaGreatDoor.Ex
namespace Go.Proofs.YtfmecpnokefokaaGreatDoor.Ex
open Go.ChangeShapes Go.WideShapes Go.Deep Go.RowKit Cls Md Mc Pa Li Pat Bd
set_option maxRecDepth 100000
theorem zmy (a b c:Value) (W:World):(Instr.field 114 (.agg #[a,b,c]) 0).run Tryz.prog W = .ok a W:=by
 unfold Instr.field;simp [go_sem,asAgg,Tryz.underlying114]
theorem zh8 (s S:List UInt8) (w:World) (hs:s.length≤536870912) (hS:lets (run s).l=S):Calls Tryz.prog 65 #[.string (B s)] w fun e w'=>∃ A n c f,e = .returned (.agg #[.string (B S),.slice A n c,.bool f])∧n≤c∧c≤9223372036854775807∧Below w.heap.size w w' :=
 (zpp s w hs).mono fun e w' ⟨v,he,hr,hb⟩=>by
  obtain ⟨A,c,rfl,h1,h2,-⟩:=hr.form;exact ⟨A,_,c,_,by rw [he,hS],h1,h2,hb⟩
set_option maxHeartbeats 800000 in
theorem zmz (x:List UInt8) (qu:Bool) (w:World) (hx:x.length≤268435456):Calls Tryz.prog 39 #[.string (B x),.bool qu] w fun e w'=>e = .returned (.bool (openR x qu))∧Below w.heap.size w w':=by
 have hfs:=zmy
 cases qu with
 | true =>
  have hb1:(1:Int)+(x.length:Int)≤1000000000:=by omega
  obtain ⟨S,hS⟩:∃ S,lets (run (34 :: x)).l=S:=⟨_,rfl⟩
  have HR:=Lib.hid fun W=>zh8 (34 :: x) S W (by simp;omega) hS;have HO:=Lib.hid (show openR x true=(S != [84,68] && S != [84,68,76]) from by rw [← hS];rfl);generalize openR x true=R at *;clear hS;by_cases h1:S=[84,68]
  ·subst h1
   go_enter Tryz.func39,Tryz.ntmps39
   go_wp2_with (go_at_call 65;(refine (HR.out _).mono ?_);rintro e w3 ⟨A,n,c,f,rfl,hn1,hn2,hb⟩;have HB3:=Lib.hid hb;clear hb)
   go_ret;exact ⟨by rw [HO.out];rfl,HB3.out⟩
  have e1:(S == [84,68])=false:=by simpa using h1
  have e2:(S != [84,68])=true:=by simpa using h1
  rw [e2] at HO;clear h1;by_cases h2:S=[84,68,76]
  ·subst h2
   go_enter Tryz.func39,Tryz.ntmps39
   go_wp2_with (go_at_call 65;(refine (HR.out _).mono ?_);rintro e w3 ⟨A,n,c,f,rfl,hn1,hn2,hb⟩;have HB3:=Lib.hid hb;clear hb)
   go_ret;exact ⟨by rw [HO.out];rfl,HB3.out⟩
  have e3:(S == [84,68,76])=false:=by simpa using h2
  have e4:(S != [84,68,76])=true:=by simpa using h2
  rw [e4] at HO;clear h2;go_enter Tryz.func39,Tryz.ntmps39
  go_wp2_with (go_at_call 65;(refine (HR.out _).mono ?_);rintro e w3 ⟨A,n,c,f,rfl,hn1,hn2,hb⟩;have HB3:=Lib.hid hb;clear hb)
  go_ret;exact ⟨by rw [HO.out];rfl,HB3.out⟩
 | false =>
  obtain ⟨S,hS⟩:∃ S,lets (run x).l=S:=⟨_,rfl⟩
  have HR:=Lib.hid fun W=>zh8 x S W (by omega) hS;have HO:=Lib.hid (show openR x false=(S != [84] && S != [84,76]) from by rw [← hS];rfl);generalize openR x false=R at *;clear hS;by_cases h1:S=[84]
  ·subst h1
   go_enter Tryz.func39,Tryz.ntmps39
   go_wp2_with (go_at_call 65;(refine (HR.out _).mono ?_);rintro e w3 ⟨A,n,c,f,rfl,hn1,hn2,hb⟩;have HB3:=Lib.hid hb;clear hb)
   go_ret;exact ⟨by rw [HO.out];rfl,HB3.out⟩
  have e1:(S == [84])=false:=by simpa using h1
  have e2:(S != [84])=true:=by simpa using h1
  rw [e2] at HO;clear h1;by_cases h2:S=[84,76]
  ·subst h2
   go_enter Tryz.func39,Tryz.ntmps39
   go_wp2_with (go_at_call 65;(refine (HR.out _).mono ?_);rintro e w3 ⟨A,n,c,f,rfl,hn1,hn2,hb⟩;have HB3:=Lib.hid hb;clear hb)
   go_ret;exact ⟨by rw [HO.out];rfl,HB3.out⟩
  have e3:(S == [84,76])=false:=by simpa using h2
  have e4:(S != [84,76])=true:=by simpa using h2
  rw [e4] at HO;clear h2;go_enter Tryz.func39,Tryz.ntmps39
  go_wp2_with (go_at_call 65;(refine (HR.out _).mono ?_);rintro e w3 ⟨A,n,c,f,rfl,hn1,hn2,hb⟩;have HB3:=Lib.hid hb;clear hb)
  go_ret;exact ⟨by rw [HO.out];rfl,HB3.out⟩
end Go.Proofs.YtfmecpnokefokaaGreatDoor.Ex
