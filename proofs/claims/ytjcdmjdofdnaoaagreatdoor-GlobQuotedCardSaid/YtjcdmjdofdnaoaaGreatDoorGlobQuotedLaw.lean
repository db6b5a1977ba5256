/-
  The statement Rows.GlobQuotedCardSaid (a tied card): for every input the law GlobQuoted returns true, and its arguments read as before; the listed variables of Go's library are laid as their own initialisers lay them (the walk does not read them). Conditions: none beyond the row's own.
-/
import Derived.Test.YtjcdmjdofdnaoaaGreatDoorOwn
import Derived.Test.YtjcdmjdofdnaoaaGreatDoorShaped
import Derived.Test.YtjcdmjdofdnaoaaGreatDoorGlobQuotedWalk
set_option linter.unusedSimpArgs false
set_option linter.unusedVariables false
namespace Go.Proofs.YtjcdmjdofdnaoaaGreatDoor.globQuoted
open Go.ChangeShapes Go.WideShapes Go.ChangeAt Go.RowKit
set_option maxRecDepth 100000 in
theorem lifted (os:Os) (started:os.Started) (H:Type) (enc:TypeId×Value→H) :
  ReturnsInHanded {} Tryz.checked os 3 .any (fun w args=>(Rows.globQuotedSpec.pre enc Tryz.prog Tryz.f3 Rows.globQuotedRow.domain false w args∧laidMetH Tryz.prog Rows.globQuotedRow.laid w)∧sizedMet enc Tryz.prog Tryz.f3 (OpenSpec.ofChange Rows.globQuotedSpec) false w args)
   (Rows.globQuotedSpec.post enc Tryz.prog Tryz.f3 false true false false):=by
 refine zb4 (C:=Tryz.checked) (X:=fun w _=>laidMetH Tryz.prog Rows.globQuotedRow.laid w) own started (by kernel_rfl) Tryz.func3
  (ChangeSpec.witness_shaped (enc:=enc) (C:=Tryz.checked) (os:=os) (X:=fun w _=>laidMetH Tryz.prog Rows.globQuotedRow.laid w) false (World.laidAll Tryz.prog os Rows.globQuotedRow.laid) #[.agg #[.slice none 0 0,.string ByteArray.empty,.slice none 0 0,.slice none 0 0,.slice none 0 0,.slice none 0 0,.slice none 0 0],.string ByteArray.empty] 8 (World.laidAll_os _ _ _)
   (World.shaped_of_ZipB (by kernel_rfl) (by kernel_rfl)) (by kernel_rfl) (by kernel_rfl) (by kernel_rfl)
   (by rw [MakeChecks.laidMetH_plain _ _ _ (by kernel_rfl)];exact laidMet_laidAll _ (by kernel_rfl) (by kernel_rfl))) ?_
 intro W base args ds gs before hval0 hW hsh;have hval:∀ (j:Nat) t v,Tryz.f3.params[j]?=some t→args[j]?=some v→Value.okWide Tryz.prog W .any base t v:=hval0;have hW':=hW;obtain ⟨p,q,hA0,hV,rfl,hfz,hnd⟩:=hW;have hA:DataW.TrodAll enc Tryz.prog W 0 (fun _=>true) true Tryz.f3.params.toList args.toList ds p:=hA0;rw [Tryz.params3] at hA hval;obtain ⟨v0,vs0,d0,ds0,p0,q0,hargs,rfl,rfl,h0,r0⟩:=trodAll_cons hA;obtain ⟨v1,vs1,d1,ds1,p1,q1,rfl,rfl,rfl,h1,r1⟩:=trodAll_cons r0;obtain ⟨rfl,rfl,rfl⟩:=trodAll_nil r1;obtain rfl:args = #[v0,v1]:=by cases args;simp_all
 obtain ⟨rfl,rfl⟩:=trodVars_none hV;clear hA0 hval0;refine (walk enc W base (maxL_of hsh) h0 (hval 0 _ v0 rfl rfl) h1 (hval 1 _ v1 rfl rfl)).mono fun e W' ⟨he,hb⟩=>?_;subst he;exact ⟨_,rfl,law_post (tb:=4) laidOut (by kernel_rfl) (by kernel_rfl) Tryz.underlying4 rfl rfl hW' hb⟩
theorem over:Rows.globQuotedRow.holds Tryz.pinned (OpenSpec.ofChange Rows.globQuotedSpec) :=
 OpenClaim.holds_of_wide 3 Tryz.f3 rfl rfl rfl rfl rfl rfl rfl ⟨rfl,rfl,rfl,rfl,rfl⟩ rfl rfl rfl rfl rfl (by kernel_rfl) Tryz.func3 (by kernel_rfl)
  (of_decide_eq_true (by kernel_rfl)) (by unfold Func.isWrapper;first|(rw [if_pos (by decide +kernel)];kernel_rfl)|(rw [if_neg (by decide +kernel)];exact ⟨rfl,rfl⟩))
  (fun os started H enc _=>lifted os started H enc)
theorem proved:Rows.GlobQuotedCardSaid :=
 Claim7.holds_tied_plain_at .later [] [.data, .data, .data, .data, .pinned] true (true, "4ef96e69618bcdcfd582993b006b37f13a2f12fd57f162dbc0aa36120f805877") false over (fun _ h => by cases h) (by kernel_rfl) (fun _ h => by cases h) globQuoted_row_tie rfl ⟨rfl, rfl⟩ (by kernel_rfl) rfl
  (fun f fn hf hfn=>by
   obtain rfl : f = 3 := Option.some.inj ((show Tryz.prog.funcNamed "quillwort/quillwortlaw27.GlobQuoted" = some 3 by kernel_rfl).symm.trans hf) |>.symm;obtain rfl:fn=Tryz.f3:=(Option.some.inj (Tryz.func3.symm.trans hfn)).symm
   exact ⟨by kernel_rfl,fun j t ht=>by
    rw [Tryz.params3] at ht;have hall:(Tryz.f3.params.toList.all fun u => !Tryz.prog.wantsStandIn u)=true:=by kernel_rfl
    have hm:t∈Tryz.f3.params.toList:=by rw [Tryz.params3];exact Array.mem_toList_iff.2 (Array.mem_of_getElem? ht)
    exact (show Tryz.prog.wantsStandIn t=false by simpa using List.all_eq_true.1 hall t hm)⟩)
  (by kernel_rfl)
#print axioms proved
end Go.Proofs.YtjcdmjdofdnaoaaGreatDoor.globQuoted
