/-
  The laws of a keyed region, with the slot that is written given by its number. No program in sight.
-/
import Derived.Test.YtadaeecokkokjaaGreatKeyed
set_option linter.unusedSimpArgs false
set_option linter.unusedVariables false
namespace Go.Proofs.YtadaeecokkokjaaGreat
open Go.ChangeShapes Go.WideShapes Go.RowKit
section
variable {P : Program} {ops : Array Oper} {Q : Exit → Act → World → Prop} {md : Region.Mode} {S : World → Prop} {K : List Nat}
theorem wpAnyK_take2 {i : Nat} (d : Option Nat) {oi : Oper} {v : Value} {fuel : Nat} {listed : Array Bool} {a : Act} {w : World} (hi : ops[i]? = some oi) (hd : oi.dst = d)
    (hs : Region.noSelect ops = true) (hf : Region.free md ops listed i = true) (hr : (Region.ready md ops listed).contains i = true) (hiK : K.contains i = false)
    (hQ : ∀ c a w, Q (.panic c) (a.put oi.dst v) w → Q (.panic c) a w) (hy : YieldsIf P ops (fun _ => True) oi v a) (hS : unl K listed = true → S w)
    (h : wpAnyK P md ops Q S K fuel (listed.setIfInBounds i true) (a.put d v) w) : wpAnyK P md ops Q S K (fuel + 1) listed a w := by
  subst hd
  exact wpAnyK_take hi hs hf hr hiK hQ hy hS h
theorem wpAnyK_load2 {i : Nat} (Bs : List Nat) (d : Option Nat) {oi : Oper} {v : Value} {fuel : Nat} {listed : Array Bool} {a : Act} {w : World} (hi : ops[i]? = some oi) (hd : oi.dst = d)
    (hs : Region.noSelect ops = true) (hf : Region.free md ops listed i = true) (hr : (Region.ready md ops listed).contains i = true) (hB : (waits md ops i Bs && !Bs.contains i && K.all fun k => Bs.contains k) = true) (hu : unl Bs listed = true)
    (hQ : ∀ c a w, Q (.panic c) (a.put oi.dst v) w → Q (.panic c) a w) (hy : YieldsIf P ops S oi v a) (hS : unl K listed = true → S w)
    (h : wpAnyK P md ops Q S K fuel (listed.setIfInBounds i true) (a.put d v) w) : wpAnyK P md ops Q S K (fuel + 1) listed a w := by
  subst hd
  exact wpAnyK_load Bs hi hs hf hr hB hu hQ hy hS h
end
end Go.Proofs.YtadaeecokkokjaaGreat
