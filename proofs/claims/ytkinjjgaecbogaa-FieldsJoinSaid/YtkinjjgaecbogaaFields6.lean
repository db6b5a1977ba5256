/-
  The walks of layer 26 (fields): the maker's function separate, and the search of a byte. Conditions: at most 2^33 fields.
-/
import Derived.Test.YtkinjjgaecbogaaFields5
import Derived.Lib.Bytealg
namespace Go.Proofs.Ytkinjjgaecbogaa
open Go.ChangeShapes Go.WideShapes Go.Deep Go.RowKit
set_option maxRecDepth 100000
theorem EndPost.mark {b0 mb : Nat} {m : Mk} {w w' : World} {e : Ending} (h : EndPost b0 mb m w e w') : ∃ lv tv pv, MkAt w' b0 mb lv tv pv m ∧ KeepsM b0 w w' := h.h
theorem MkAt.set4 {w : World} {b0 mb : Nat} {lv tv pv : Value} {m : Mk} (h : MkAt w b0 mb lv tv pv m) (x : Bool) : MkAt (w.setCell ⟨mb, 4, none⟩ (.bool x)) b0 mb lv tv pv { m with mark := x } := ⟨h.c.set4 x, h.o.set h.c.ty 4 _⟩
set_option maxHeartbeats 1000000 in
theorem separate_any (w : World) (b0 mb : Nat) (lv tv pv : Value) (m : Mk) (white : Bool) (h : MkAt w b0 mb lv tv pv m) (hl : m.l.length ≤ 8589934592) :
    Calls Try.prog 71 #[.pointer (some ⟨mb, 0, none⟩), .bool white] w (EndPost b0 mb (sepM m white) w) := by
  have HE := Lib.hid (end_any w b0 mb lv tv pv m h hl)
  have hlt := h.c.lt
  haveI : Old w mb := ⟨hlt⟩
  have hc3 := h.c.c3
  have hc4 := h.c.c4
  have hf := h.c.f0
  have H := Lib.hid h
  clear h
  cases hb : m.begun with
  | true =>
    have HS := Lib.hid (show sepM m white = { endM m with mark := white } by simp [sepM, hb])
    rw [hb] at hc3
    go_enter Try.func71, Try.ntmps71
    go_wp2_with (go_at_call 72; refine HE.out.mono ?_; rintro e w1 ⟨rfl, l1, t1, p1, h1, k1⟩; have hc14 := h1.c.c4; have hf1 := h1.c.f0; have H1 := Lib.hid h1; have K1 := Lib.hid k1; clear h1 k1)
    go_end0
    refine ⟨rfl, l1, t1, p1, ?_, ?_⟩
    · rw [HS.out]; exact H1.out.set4 white
    · exact K1.out.set H1.out.c.ge H1.out.c.ty 4 _
  | false =>
    rw [hb] at hc3
    cases white with
    | true =>
      have HS := Lib.hid (show sepM m true = m by simp [sepM, hb])
      go_enter Try.func71, Try.ntmps71
      go_wp2
      go_end0
      exact ⟨rfl, lv, tv, pv, by rw [HS.out]; exact H.out, KeepsM.refl _ _⟩
    | false =>
      cases hk : m.mark with
      | true =>
        have HS := Lib.hid (show sepM m false = { m with mark := false } by simp [sepM, hb, hk])
        rw [hk] at hc4
        go_enter Try.func71, Try.ntmps71
        go_wp2
        go_end0
        refine ⟨rfl, lv, tv, pv, ?_, ?_⟩
        · rw [HS.out]; exact H.out.set4 false
        · exact (KeepsM.refl _ _).set H.out.c.ge H.out.c.ty 4 _
      | false =>
        have HS := Lib.hid (show sepM m false = endM m by simp [sepM, hb, hk])
        rw [hk] at hc4
        go_enter Try.func71, Try.ntmps71
        go_wp2_with (go_at_call 72; refine HE.out.mono ?_; rintro e w1 ⟨rfl, l1, t1, p1, h1, k1⟩; have H1 := Lib.hid h1; have K1 := Lib.hid k1; clear h1 k1)
        go_end0
        exact ⟨rfl, l1, t1, p1, by rw [HS.out]; exact H1.out, K1.out⟩
theorem sliteIndexByte_any (s : List UInt8) (c : UInt8) (w : World) : Calls Try.prog 92 #[.string (B s), .int .u8 c.toNat] w fun e w' => e = .returned (.int .i64 (Lib.indexByte s c)) ∧ w' = w := by
  go_enter Try.func92, Try.ntmps92
  go_wp2
  rw [run_callFunc_extern Try.func104 (by kernel_rfl) (by kernel_rfl) (by kernel_rfl) (e := Extern.BytealgIndexByte.indexByte) (by kernel_rfl), Lib.run_indexByteString]
  simp only [Result.andThen]
  rw [Oper.upon_value]
  go_wp2
  go_ret
  exact ⟨by simp [B], rfl⟩
theorem indexByte_any (s : List UInt8) (c : UInt8) (w : World) : Calls Try.prog 69 #[.string (B s), .int .u8 c.toNat] w fun e w' => e = .returned (.int .i64 (Lib.indexByte s c)) ∧ w' = w := by
  have HC := Lib.hid (sliteIndexByte_any s c)
  go_enter Try.func69, Try.ntmps69
  go_wp2_with (go_at_call 92; refine (HC.out _).mono ?_; rintro e w' ⟨rfl, rfl⟩)
  go_ret
  exact ⟨rfl, rfl⟩
theorem indexByte_lt (s : List UInt8) (c : UInt8) : decide (Lib.indexByte s c < 0) = !s.contains c := by
  induction s with
  | nil => rfl
  | cons x s ih =>
    have h0 := Lib.indexByte_ge s c
    unfold Lib.indexByte
    split
    · next h => simp_all
    · next h =>
      simp only [List.contains_cons]
      have hx : (c == x) = false := by
        rw [beq_eq_false_iff_ne]
        intro e
        simp_all
      rw [hx, Bool.false_or, ← ih]
      split
      · next h1 => simp only [beq_iff_eq] at h1; rw [h1]
      · next h1 =>
        have h2 : Lib.indexByte s c ≠ -1 := by simpa using h1
        rw [decide_eq_false (by omega), decide_eq_false (by omega)]
end Go.Proofs.Ytkinjjgaecbogaa
