/-
  The walks of layer 19's reference: Get. Conditions: at most 2^20 entries.
-/
import Derived.Test.YtkllgikmlgponaaTab2
namespace Go.Proofs.Ytkllgikmlgponaa.Tab
open Go.ChangeShapes Go.WideShapes Go.Deep Go.RowKit
set_option maxRecDepth 100000
/-- The first entry of a name. -/
def getE (xs : List Ent) (s : List UInt8) : Option Ent := xs.find? fun e => e.name == s
def getP : Option Ent → Value
  | none => .tuple #[.string (B []), .int .i64 0]
  | some e => .tuple #[.string (B e.val), .int .i64 1]
theorem refGet_any (xs : List Ent) (v : Value) (s : List UInt8) (w : World) (hv : Sl w Ent.cells 2 v xs) (hx : xs.length ≤ 1048576) : Calls Try.prog 16 #[v, .string (B s)] w fun e w' => e = .returned (getP (getE xs s)) ∧ w = w' := by
  obtain ⟨A, c, rfl, hc1, hc2, hn, hA⟩ := hv
  have HA := Lib.hid hA
  clear hA hn
  go_enter Try.func16, Try.ntmps16
  go_wp2
  go_loopw [6] (fun i w' => ∃ k : Nat, k ≤ xs.length ∧ i = .int .i64 k ∧ w = w' ∧ Hid (getE xs s = getE (xs.drop k) s)) (fun i _ => xs.length - (intOf i).toNat)
  case atStart => exact ⟨0, by omega, rfl, rfl, rfl⟩
  case round =>
    obtain ⟨k, hk, rfl, rfl, HG⟩ := hrel
    by_cases hlt : k < xs.length
    · obtain ⟨b, off, rfl, hb, hc⟩ := HA.out (by omega)
      obtain ⟨x, hxm⟩ := get_some hlt
      have e0 := hc k _ hxm 0 _ rfl
      have e1 := hc k _ hxm 1 _ rfl
      simp only [Nat.add_zero] at e0
      haveI : Old w b := ⟨hb⟩
      have k0 : (0 : Int) ≤ (k : Int) := by omega
      have k1 : (k : Int) < (xs.length : Int) := by omega
      have hst : getE (xs.drop k) s = if (x.name == s) = true then some x else getE (xs.drop (k + 1)) s := by
        obtain ⟨_, rfl⟩ := List.getElem?_eq_some_iff.1 hxm
        rw [List.drop_eq_getElem_cons hlt]
        unfold getE
        rw [List.find?_cons]
        split <;> simp_all
      have HS := Lib.hid hst
      clear hst hc hxm
      cases hq : (x.name == s) with
      | true =>
        rw [hq, if_pos rfl] at HS
        go_wp2
        go_ret2
        refine ⟨?_, rfl⟩
        rw [HG.out, HS.out]
        rfl
      | false =>
        rw [hq, if_neg (by simp)] at HS
        go_wp2
        go_roundw
        case rel => exact ⟨k + 1, by omega, by go_num, by trivial, by show _ = _; rw [HG.out, HS.out]⟩
        case measure => simp [intOf]; omega
    · have HE := Lib.hid (show getE xs s = none by rw [HG.out, List.drop_eq_nil_of_le (by omega)]; rfl)
      have d0 := no hlt
      clear hlt
      go_wp2
      go_ret2
      refine ⟨?_, rfl⟩
      rw [HE.out]
      rfl
end Go.Proofs.Ytkllgikmlgponaa.Tab
