/-
  The walk of the law SpecReads: it returns true, whatever its argument. Conditions: none (arguments as the row reads them).
-/
import Derived.Test.YtadaeecokkokjaaGreatRefRead
import Derived.Test.YtadaeecokkokjaaGreatTabPlain
set_option linter.unusedSimpArgs false
set_option linter.unusedVariables false
namespace Go.Proofs.YtadaeecokkokjaaGreat.specReads
open Go.ChangeShapes Go.WideShapes Go.Deep Go.ChangeAt Go.RowKit Cls Md Mc Pa Pat Quo Spc
set_option maxRecDepth 100000
set_option maxHeartbeats 4000000 in
theorem walk {H : Type} (enc : TypeId × Value → H) (w : World) (base : Nat) {v0 : Value} {d0 : DataW H} {p0 : List MemPlace}
    (h0 : DataW.Trod enc Tryz.prog w 0 (fun _ => true) true 9 v0 d0 p0) (k0 : Value.okWide Tryz.prog w .any base 9 v0) :
    Calls Tryz.prog 3 #[v0] w fun e w' => e = .returned (.bool true) ∧ Below w.heap.size w w' := by
  obtain ⟨s, rfl, hs⟩ := open_text h0 k0
  clear h0 k0
  have HAW := Lib.hid fun w => awake20_any w
  by_cases l1 : 200 < s.length
  · have n1 : (200 : Int) < (s.length : Int) := by omega
    clear l1
    go_enter Tryz.func3, Tryz.ntmps3
    go_wp2_with (go_at_call 4; refine (HAW.out _).mono ?_; rintro e w1 ⟨rfl, hb⟩; have HB1 := Lib.hid hb; clear hb)
    go_ret
    exact ⟨rfl, HB1.out⟩
  have n1 : ¬ (200 : Int) < (s.length : Int) := by omega
  have hval : ∀ t ∈ (splitL s).1, t.length ≤ 30000 := fun t ht => by have := Li.split_len s t ht; omega
  have HRD := Lib.hid fun W => read_any s W (by omega) hval
  have HRR := Lib.hid fun W => refRead_any s W (by omega) hval
  have hla : (readL s).2.1.a.length ≤ 1073741824 ∧ (readL s).2.1.w.length ≤ 1073741824 := by
    unfold readL readW
    have h0 : sp0.a.length ≤ 1073741824 ∧ sp0.w.length ≤ 1073741824 := by decide
    split
    · exact h0
    split
    · exact h0
    split
    · exact h0
    split
    · exact h0
    · have h1 := takes0 (pairsOf (splitL s).1)
      have h2 := pairsOf_len (splitL s).1
      have h3 := splitL_len s
      have h4 := takes_w (x := sp0) (S := []) (by decide) (pairsOf (splitL s).1) (fun p hp => hval _ (pairsOf_mem hp).2)
      have h5 := h1.a
      exact ⟨by show (takesL sp0 [] (pairsOf (splitL s).1)).2.1.a.length ≤ _; omega, by show (takesL sp0 [] (pairsOf (splitL s).1)).2.1.w.length ≤ _; omega⟩
  obtain ⟨q, hq⟩ : ∃ q, readL s = q := ⟨_, rfl⟩
  rw [hq] at HRD HRR hla
  obtain ⟨na, x, er⟩ := q
  dsimp only at hla
  have HLA := Lib.hid hla
  have HSB := Lib.hid (sameB_self x)
  clear hq hval hla l1
  go_enter Tryz.func3, Tryz.ntmps3
  go_wp2_with (first
    | (go_at_call 4; refine (HAW.out _).mono ?_; rintro e w1 ⟨rfl, hb⟩; have HB1 := Lib.hid hb; clear hb)
    | (go_at_call 5; refine (HRD.out _).mono ?_; rintro e w2 ⟨va, vw, rfl, ho1, ho2, hb⟩; dsimp only at ho1 ho2 ⊢; have HB2 := Lib.hid (below_then HB1.out hb); have HS1 := Lib.hid (ho1.sl numC_len rfl); have HS2 := Lib.hid (ho2.sl strC_len rfl); obtain ⟨A1, k1, rfl, -⟩ := ho1.form0; obtain ⟨A2, k2, rfl, -⟩ := ho2.form0; have HX2 := Lib.hid (BoxN.new w2 [.slice A1 x.a.length k1, .slice A2 x.w.length k2, .string (B x.g), .string (B x.x), .string (B x.p), .string (B x.s)] 26); have HBA := Lib.hid (below_alloc HB2.out (.cells #[.slice A1 x.a.length k1, .slice A2 x.w.length k2, .string (B x.g), .string (B x.x), .string (B x.p), .string (B x.s)] 26)); clear hb ho1 ho2)
    | (go_at_call 6; refine (HRR.out _).mono ?_; rintro e w3 ⟨ua, uw, rfl, ho1, ho2, hb⟩; dsimp only at ho1 ho2 ⊢; have HB3 := Lib.hid (below_then HBA.out hb); have HX3 := Lib.hid (HX2.out.below hb); obtain ⟨⟨c0, c1, c2, c3, c4, c5⟩, -⟩ := box6 HX3.out; haveI : Old w3 w2.heap.size := ⟨HX3.out.lt⟩; have HT1 := Lib.hid (ho1.sl numC_len rfl); have HT2 := Lib.hid (ho2.sl strC_len rfl); obtain ⟨A3, k3, rfl, -⟩ := ho1.form0; obtain ⟨A4, k4, rfl, -⟩ := ho2.form0; have HSM := Lib.hid fun W (hb9 : Below w3.heap.size w3 W) => same20_any (.slice A1 x.a.length k1) (.slice A2 x.w.length k2) (.slice A3 x.a.length k3) (.slice A4 x.w.length k4) x x W (((HS1.out.below (below_alloc (Below.refl _ _) _)).below hb).below hb9) (((HS2.out.below (below_alloc (Below.refl _ _) _)).below hb).below hb9) (HT1.out.below hb9) (HT2.out.below hb9) HLA.out.1 HLA.out.2; rw [HSB.out] at HSM; clear hb ho1 ho2)
    | (go_at_call 7; refine (HSM.out _ (below_alloc (Below.refl _ _) _)).mono ?_; rintro e w6 ⟨rfl, hb⟩; have HB6 := Lib.hid (below_then (below_alloc HB3.out _) hb); clear hb))
  go_ret
  exact ⟨rfl, HB6.out⟩
end Go.Proofs.YtadaeecokkokjaaGreat.specReads
