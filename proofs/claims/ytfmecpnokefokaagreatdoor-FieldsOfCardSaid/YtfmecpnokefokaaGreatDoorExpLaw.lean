/-
  The walks of layer 25's laws (expand): Light, awake. Conditions: the library's variable MaxLen holds some number.
-/
import Derived.Test.YtfmecpnokefokaaGreatDoorExp20
import Derived.Test.YtfmecpnokefokaaGreatDoorFields
import Derived.Test.YtfmecpnokefokaaGreatDoorKeyed2
set_option linter.unusedSimpArgs false
set_option linter.unusedVariables false
namespace Go.Proofs.YtfmecpnokefokaaGreatDoor.Ex
open Go.ChangeShapes Go.WideShapes Go.Deep Go.RowKit Cls Md Mc Pa Li Pat
set_option maxRecDepth 100000
def lightB (l:List Tab.Ent):Bool:=decide (l.length≤10) && l.all fun f=>decide (f.name.length≤40) && decide (f.val.length≤60)
set_option maxHeartbeats 1600000 in
theorem zp1 (l:List Tab.Ent) (v:Value) (w:World) (h:Sl w Tab.Ent.cells 2 v l):Calls Tryz.prog 11 #[v] w fun e w'=>e = .returned (.bool (lightB l))∧Below w.heap.size w w':=by
 obtain ⟨A,c,rfl,hc1,hc2,hn,hA⟩:=h;have HA:=Lib.hid hA;clear hA hn;by_cases l1:10<l.length
 ·have HE:=Lib.hid (show lightB l=false by unfold lightB;rw [decide_eq_false (by omega),Bool.false_and])
  go_enter Tryz.func11,Tryz.ntmps11;go_wp2;go_ret;exact ⟨by rw [HE.out];rfl,Below.refl _ _⟩
 have c1:=no (show ¬ (10:Int)<(l.length:Int) by omega);have HL:=Lib.hid l1;clear l1;go_enter Tryz.func11,Tryz.ntmps11;go_wp2
 go_loopw [3] (fun i w'=>∃ k:Nat,k≤l.length∧i = .int .i64 k∧Hid (∀ f∈l.take k,f.name.length≤40∧f.val.length≤60)∧w=w') (fun i _=>l.length - (intOf i).toNat)
 case atStart=>exact ⟨0,by omega,rfl,fun f hf=>by simp at hf,rfl⟩
 case round =>
  obtain ⟨k,hk,rfl,HT,rfl⟩:=hrel;by_cases hlt:k<l.length
  ·obtain ⟨b,off,rfl,hb,hc⟩:=HA.out (by omega)
   obtain ⟨x,hxm⟩:=zae hlt;have e0:w.cell? ⟨b,off+k*2,none⟩=some (.string (B x.name)):=by have:=hc k _ hxm 0 _ rfl;simpa using this
   have e1:w.cell? ⟨b,off+k*2+1,none⟩=some (.string (B x.val)):=by have:=hc k _ hxm 1 _ rfl;simpa using this
   haveI:Old w b:=⟨hb⟩
   have k0:(0:Int)≤(k:Int):=by omega
   have k1:(k:Int)<(l.length:Int):=by omega
   have HXM:=Lib.hid hxm;clear hc hxm;by_cases n1:40<x.name.length
   ·have HE:=Lib.hid (show lightB l=false by
     unfold lightB;rw [Bool.and_eq_false_iff]
     right
     rw [List.all_eq_false]
     exact ⟨x,List.mem_of_getElem? HXM.out,by simp;omega⟩)
    go_wp2;go_ret;exact ⟨by rw [HE.out];rfl,Below.refl _ _⟩
   have q1:=no (show ¬ (40:Int)<(x.name.length:Int) by omega);have HN:=Lib.hid n1;clear n1;by_cases n2:60<x.val.length
   ·have HE:=Lib.hid (show lightB l=false by
     unfold lightB;rw [Bool.and_eq_false_iff]
     right
     rw [List.all_eq_false]
     exact ⟨x,List.mem_of_getElem? HXM.out,by simp;omega⟩)
    go_wp2;go_ret;exact ⟨by rw [HE.out];rfl,Below.refl _ _⟩
   ·have q2:=no (show ¬ (60:Int)<(x.val.length:Int) by omega)
    have HN2:=Lib.hid n2;clear n2;go_wp2;go_roundw
    case rel =>
     refine ⟨k+1,by omega,by go_num,fun f hf=>?_,trivial⟩;rw [List.take_add_one,HXM.out] at hf;rcases List.mem_append.1 hf with hf|hf
     ·exact HT.out f hf
     ·obtain rfl:f=x:=by simpa using hf
      have:=HN.out;have:=HN2.out;omega
    case measure=>simp [intOf];omega
  ·have hk2:k=l.length:=by omega
   subst hk2;have d0:=no hlt;have ht:=HT.out;rw [List.take_length] at ht
   have HE:=Lib.hid (show lightB l=true by
    unfold lightB;rw [Bool.and_eq_true,decide_eq_true_eq,List.all_eq_true]
    exact ⟨by have:=HL.out;omega,fun f hf=>by simpa using ht f hf⟩)
   clear hlt ht;go_wp2;go_ret;exact ⟨by rw [HE.out];rfl,Below.refl _ _⟩
theorem light_of {l:List Tab.Ent} (h:lightB l=true):l.length≤10∧∀ x∈l,x.name.length≤40∧x.val.length≤60:=by
 unfold lightB at h;rw [Bool.and_eq_true,decide_eq_true_eq,List.all_eq_true] at h;exact ⟨h.1,fun x hx=>by simpa using h.2 x hx⟩
end Go.Proofs.YtfmecpnokefokaaGreatDoor.Ex
