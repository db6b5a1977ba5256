/-
  The walks of layer 1 (edit) and of its reference, on: ref.Wrong, Join.
-/
import Derived.Test.YtkinjjgaecbogaaEdit3
namespace Go.Proofs.Ytkinjjgaecbogaa
open Go.RowKit
theorem pre_iff (d s : List UInt8) (n : Nat) (_h : n + d.length ≤ s.length) : pre d (s.drop n) = (List.drop n (List.take (n + d.length) s) == d) := by
  have e : List.drop n (List.take (n + d.length) s) = (s.drop n).take d.length := by
    rw [List.drop_take]; congr 1; omega
  rw [e]; rfl
theorem pre_no {d s : List UInt8} (h : s.length < d.length) : pre d s = false := by
  cases hp : pre d s with
  | false => rfl
  | true => have := pre_len hp; omega
theorem refWrong_any (s d i : List UInt8) (at_ : Int) (w : World) (hs : s.length ≤ 4611686018427387903) (hd : d.length ≤ 4611686018427387903) (hi : i.length ≤ 4611686018427387903) :
    Calls Try.prog 46 #[.string (B s), Edit at_ d i] w fun e w' => e = .returned (.int .i64 (wrong s at_ d i)) ∧ Below w.heap.size w w' := by
  unfold Edit
  by_cases h1 : at_ < 0
  · have hwr : wrong s at_ d i = 1 := by simp [wrong, h1]
    rw [hwr]
    clear hwr
    go_enter Try.func46, Try.ntmps46
    go_wp2
    go_quiet (fail)
    go_wp2
    go_ret
    exact ⟨rfl, by (repeat (first | exact Below.refl _ _ | assumption | with_reducible refine below_alloc ?_ _ | with_reducible refine below_grow ?_ _ | with_reducible refine below_drewN ?_ _ | with_reducible refine below_drew ?_ | with_reducible refine below_setCell ?_ (by first | (dsimp only; omega) | (simp; done) | (simp; omega)) _))⟩
  · have h1' := no h1
    by_cases h2 : (s.length : Int) < at_
    · have hwr : wrong s at_ d i = 1 := by simp [wrong, h2]
      rw [hwr]
      clear hwr
      go_enter Try.func46, Try.ntmps46
      go_wp2
      go_quiet (fail)
      go_wp2
      go_ret
      exact ⟨rfl, by (repeat (first | exact Below.refl _ _ | assumption | with_reducible refine below_alloc ?_ _ | with_reducible refine below_grow ?_ _ | with_reducible refine below_drewN ?_ _ | with_reducible refine below_drew ?_ | with_reducible refine below_setCell ?_ (by first | (dsimp only; omega) | (simp; done) | (simp; omega)) _))⟩
    · obtain ⟨n, rfl⟩ := Int.eq_ofNat_of_zero_le (by omega : 0 ≤ at_)
      have h3 : n ≤ s.length := by omega
      have h2' : decide (s.length < n) = false := no (by omega)
      have v1 : IntKind.i64.wrap ((s.length : Int) - (n : Int)) = (s.length : Int) - (n : Int) := IntWalk.i64_in _ (by omega)
      have v2 : IntKind.i64.wrap ((n : Int) + (d.length : Int)) = ((n + d.length : Nat) : Int) := by rw [IntWalk.i64_in _ (by omega)]; simp
      by_cases h4 : s.length < n + d.length
      · have hwr : wrong s n d i = 1 := by
          have := pre_no (d := d) (s := s.drop n) (by simp; omega)
          simp [wrong, this]
        have h4' : (s.length : Int) - (n : Int) < (d.length : Int) := by omega
        rw [hwr]
        clear hwr
        go_enter Try.func46, Try.ntmps46
        go_wp2
        go_quiet (fail)
        clear v1 v2
        go_wp2
        go_ret
        exact ⟨rfl, by (repeat (first | exact Below.refl _ _ | assumption | with_reducible refine below_alloc ?_ _ | with_reducible refine below_grow ?_ _ | with_reducible refine below_drewN ?_ _ | with_reducible refine below_drew ?_ | with_reducible refine below_setCell ?_ (by first | (dsimp only; omega) | (simp; done) | (simp; omega)) _))⟩
      · have h4' : decide ((s.length : Int) - (n : Int) < (d.length : Int)) = false := no (by omega)
        have h4'' : n + d.length ≤ s.length := by omega
        have h5 := pre_iff d s n h4''
        have h6 : n ≤ n + d.length := by omega
        have hc : ∀ c, pre d (s.drop n) = c → (List.drop n (List.take (n + d.length) s) == d) = c := fun c e => by rw [← h5]; exact e
        clear h5 h4
        by_cases h7 : pre d (s.drop n) = true
        · have h8 := hc _ h7
          have hwr : wrong s n d i = if (1048576 : Int) < (s.length : Int) - d.length + i.length then 2 else 0 := by
            unfold wrong
            rw [if_neg (by simp [h7]; omega)]
            by_cases h : (1048576 : Int) < (s.length : Int) - d.length + i.length
            · rw [if_pos h, if_pos (by omega)]
            · rw [if_neg h, if_neg (by omega)]
          rw [hwr]
          clear hwr hc h7
          by_cases h : (1048576 : Int) < (s.length : Int) - d.length + i.length
          · rw [if_pos h]
            go_enter Try.func46, Try.ntmps46
            go_wp2
            go_quiet (fail)
            clear v1 v2
            go_wp2
            go_ret
            exact ⟨rfl, by (repeat (first | exact Below.refl _ _ | assumption | with_reducible refine below_alloc ?_ _ | with_reducible refine below_grow ?_ _ | with_reducible refine below_drewN ?_ _ | with_reducible refine below_drew ?_ | with_reducible refine below_setCell ?_ (by first | (dsimp only; omega) | (simp; done) | (simp; omega)) _))⟩
          · rw [if_neg h]
            have h' := no h
            go_enter Try.func46, Try.ntmps46
            go_wp2
            go_quiet (fail)
            clear v1 v2
            go_wp2
            go_ret
            exact ⟨rfl, by (repeat (first | exact Below.refl _ _ | assumption | with_reducible refine below_alloc ?_ _ | with_reducible refine below_grow ?_ _ | with_reducible refine below_drewN ?_ _ | with_reducible refine below_drew ?_ | with_reducible refine below_setCell ?_ (by first | (dsimp only; omega) | (simp; done) | (simp; omega)) _))⟩
        · have h8 := hc _ (Bool.eq_false_iff.2 h7)
          have hwr : wrong s n d i = 1 := by simp [wrong, h7]
          rw [hwr]
          clear hwr hc h7
          go_enter Try.func46, Try.ntmps46
          go_wp2
          go_quiet (fail)
          clear v1 v2
          go_wp2
          go_ret
          exact ⟨rfl, by (repeat (first | exact Below.refl _ _ | assumption | with_reducible refine below_alloc ?_ _ | with_reducible refine below_grow ?_ _ | with_reducible refine below_drewN ?_ _ | with_reducible refine below_drew ?_ | with_reducible refine below_setCell ?_ (by first | (dsimp only; omega) | (simp; done) | (simp; omega)) _))⟩
theorem far_any (at_ : Int) (w : World) : Calls Try.prog 85 #[.int .i64 at_] w fun e w' => e = .returned (.bool (decide (at_ < 0 ∨ 1048576 < at_))) ∧ w = w' := by
  by_cases h1 : at_ < 0
  · go_enter Try.func85, Try.ntmps85
    go_wp2
    go_ret
    simp [h1]
  · go_enter Try.func85, Try.ntmps85
    go_wp2
    go_ret
    simp
    omega
/-- One edit for two; none: they don't touch. -/
def join (n : Nat) (d i : List UInt8) (m : Nat) (d' i' : List UInt8) : Option (Nat × List UInt8 × List UInt8) :=
  if n + i.length < m ∨ m + d'.length < n then none
  else if n ≤ m ∧ m + d'.length ≤ n + i.length then some (n, d, i.take (m - n) ++ (i' ++ i.drop (m - n + d'.length)))
  else if n ≤ m then some (n, d ++ d'.drop (n + i.length - m), i.take (m - n) ++ i')
  else if m + d'.length ≤ n + i.length then some (m, d'.take (n - m) ++ d, i' ++ i.drop (m + d'.length - n))
  else some (m, d'.take (n - m) ++ (d ++ d'.drop (n + i.length - m)), i')
def joinV : Option (Nat × List UInt8 × List UInt8) → Value
  | none => .tuple #[Edit 0 [] [], .bool false]
  | some (n, d, i) => .tuple #[Edit n d i, .bool true]
end Go.Proofs.Ytkinjjgaecbogaa
