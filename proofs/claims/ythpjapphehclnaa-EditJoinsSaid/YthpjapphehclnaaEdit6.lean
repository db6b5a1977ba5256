/-
  The walks of the laws of layer 1 (edit), and of awake.
-/
import Derived.Test.YthpjapphehclnaaEdit5
import Derived.Test.YthpjapphehclnaaLawKit
import Derived.Lib.SmallJoins
namespace Go.Proofs.Ythpjapphehclnaa
open Go.ChangeShapes Go.WideShapes Go.ChangeAt Go.RowKit
open Go.ChangeMaps (open_string shut_string)
theorem awake1 (w : World) : Calls Try.prog 10 #[.string (B [97, 98, 99]), .string (B [97, 120, 99])] w fun e w' => e = .returned (.agg #[.int .i64 1, .string (B [98]), .string (B [120])]) ∧ Below w.heap.size w w' :=
  (diff_any [97, 98, 99] [97, 120, 99] w (by simp) (by simp)).mono fun e w' h => ⟨by rw [h.1]; kernel_rfl, h.2⟩
theorem awake2 (w : World) : Calls Try.prog 14 #[.string (B [97, 98, 99]), .agg #[.int .i64 3, .string (B []), .string (B [100])]] w fun e w' => e = .returned (.bool true) ∧ Below w.heap.size w w' :=
  (goes_any [97, 98, 99] [] [100] 3 w (by simp) (by simp) (by simp)).mono fun e w' h => ⟨by rw [h.1]; kernel_rfl, h.2⟩
theorem awake_any (w : World) : Calls Try.prog 9 #[] w fun e w' => e = .returned (.bool true) ∧ Below w.heap.size w w' := by
  go_enter Try.func9, Try.ntmps9
  go_wp2_with (first | (go_at_call 10; refine (awake1 _).mono ?_; rintro e w' ⟨rfl, hb⟩; obtain ⟨g, rfl⟩ := to_grow hb; clear hb) | (go_at_call 14; refine (awake2 _).mono ?_; rintro e w' ⟨rfl, hb⟩; obtain ⟨g, rfl⟩ := to_grow hb; clear hb))
  go_ret
  exact ⟨rfl, by (repeat (first | exact Below.refl _ _ | assumption | with_reducible refine below_alloc ?_ _ | with_reducible refine below_grow ?_ _ | with_reducible refine below_drewN ?_ _ | with_reducible refine below_drew ?_ | with_reducible refine below_setCell ?_ (by first | (dsimp only; omega) | (simp; done) | (simp; omega)) _))⟩
section
variable {H : Type} {enc : TypeId × Value → H} {w : World} {base : Nat} {d : DataW H} {p : List MemPlace} {v : Value}
theorem open_text (h : DataW.Trod enc Try.prog w 0 (fun _ => true) true 9 v d p) (k : Value.okWide Try.prog w .any base 9 v) : ∃ s, v = .string (B s) ∧ s.length ≤ 9223372036854775807 := by
  obtain ⟨a, rfl, rfl, rfl, ha⟩ := open_string Try.underlying9 k h
  obtain ⟨s, rfl⟩ := B_all a
  exact ⟨s, rfl, by rw [B_size] at ha; exact ha⟩
theorem open_num (h : DataW.Trod enc Try.prog w 0 (fun _ => true) true 3 v d p) (k : Value.okWide Try.prog w .any base 3 v) : ∃ n : Int, v = .int .i64 n ∧ -9223372036854775808 ≤ n ∧ n ≤ 9223372036854775807 := by
  obtain ⟨x, rfl, rfl, rfl, wx⟩ := open_int Try.underlying3 k h
  exact ⟨x, rfl, bounds_i64 wx⟩
theorem open_yes (h : DataW.Trod enc Try.prog w 0 (fun _ => true) true 4 v d p) (k : Value.okWide Try.prog w .any base 4 v) : ∃ b : Bool, v = .bool b := by
  obtain ⟨x, rfl, rfl, rfl⟩ := open_bool Try.underlying4 k h
  exact ⟨x, rfl⟩
theorem edit_cells : Try.prog.cellsOf 24 = 3 := by kernel_rfl
theorem open_edit (h : DataW.Trod enc Try.prog w 0 (fun _ => true) true 24 v d p) (k : Value.okWide Try.prog w .any base 24 v) :
    ∃ (n : Int) (a b : List UInt8), v = Edit n a b ∧ (-9223372036854775808 ≤ n ∧ n ≤ 9223372036854775807) ∧ a.length ≤ 9223372036854775807 ∧ b.length ≤ 9223372036854775807 := by
  obtain ⟨c0, c1, c2, y0, y1, y2, m, rfl, rfl, rfl, hy0, hy1, hy2⟩ := Joins.open_agg3 Try.underlying24 (by kernel_rfl) edit_cells k h
  obtain ⟨n, e0, rfl, wn⟩ := DataW.trod_int Try.underlying3 hy0
  obtain ⟨s1, e1, rfl, w1⟩ := DataW.trod_string Try.underlying9 hy1
  obtain ⟨s2, e2, rfl, w2⟩ := DataW.trod_string Try.underlying9 hy2
  simp at e0 e1 e2
  subst e0 e1 e2
  obtain ⟨a, rfl⟩ := B_all s1
  obtain ⟨b, rfl⟩ := B_all s2
  rw [B_size] at w1 w2
  exact ⟨n, a, b, rfl, bounds_i64 wn, w1, w2⟩
end
end Go.Proofs.Ythpjapphehclnaa
