/-
  The walks of layer 18's right and same. Conditions: paths of at most 2^30 bytes; at most 2^20 files.
-/
import Derived.Test.YtkllgikmlgponaaTreePlain3
import Derived.Test.YtkllgikmlgponaaRefTree
namespace Go.Proofs.Ytkllgikmlgponaa.Fil
open Go.ChangeShapes Go.WideShapes Go.Deep Go.RowKit Pat
set_option maxRecDepth 100000
theorem own_fl {w : World} {b0 g off n c : Nat} {xs : List Fl} (h : Own w b0 2 (.slice (some ⟨g, off, none⟩) n c) n (xs.flatMap flC)) {i : Nat} {f : Fl} (hx : xs[i]? = some f) : w.cell? ⟨g, off + i * 2, none⟩ = some (.string (B f.path)) ∧ w.cell? ⟨g, off + i * 2 + 1, none⟩ = some (.int .i64 f.kind) ∧ g < w.heap.size := by
  have hl := h.1
  rw [flC_flat] at hl
  have hi := (List.getElem?_eq_some_iff.1 hx).1
  rcases h.2 with ⟨h0, _⟩ | ⟨g', off', c', e, h1, h2, h3, h4, h5, h6⟩
  · omega
  · simp only [Value.slice.injEq, Option.some.injEq, Addr.mk.injEq] at e
    obtain ⟨⟨rfl, rfl, _⟩, _, rfl⟩ := e
    have e0 := h6 _ _ (flat_at xs flC_len i f hx 0 _ rfl)
    have e1 := h6 _ _ (flat_at xs flC_len i f hx 1 _ rfl)
    exact ⟨by simpa using e0, by rwa [← Nat.add_assoc] at e1, h2⟩
set_option maxHeartbeats 3200000 in
theorem right_any (w : World) (b0 tb : Nat) (x y : List Fl) (nb : List (List UInt8) → Nat) (mp : List (List UInt8) → Option Nat) (u : Value) (h : TreeAt w b0 tb x nb mp) (hx : x.length ≤ 1048576) (hxl : ∀ f ∈ x, f.path.length ≤ 1073741824) (hu : Sl w flC 2 u y) (hp : y.Perm x) :
    Calls Try.prog 34 #[.pointer (some ⟨tb, 0, none⟩), u] w fun e w' => e = .returned (.int .i64 0) ∧ Below w.heap.size w w' := by
  have hyl := hp.length_eq
  have HAL := Lib.hid (all_any w b0 tb x nb mp h hx hxl)
  have HKN := Lib.hid fun p W (hW : Below w.heap.size w W) => refKind_any y u p W (hu.below hW) (by omega)
  have HOK := Lib.hid h.ok
  have HPM := Lib.hid hp
  have HYL := Lib.hid hyl
  obtain ⟨A, c, rfl, hc1, hc2, hn0, hA⟩ := hu
  have hy2 : y.length ≤ 1048576 := by omega
  clear hA hn0 h hp hyl
  go_enter Try.func34, Try.ntmps34
  go_wp2_with (go_at_call 35; refine HAL.out.mono ?_; rintro e w1 ⟨v1, ls, rfl, hp1, hr1, ho1, hb1⟩; have hl1 := hp1.length_eq; rw [← HYL.out] at hl1; have HL1 := Lib.hid hl1; have HP1 := Lib.hid hp1; have HR1 := Lib.hid hr1; have HO1 := Lib.hid ho1; have HB1 := Lib.hid hb1; obtain ⟨A1, c1, rfl, -⟩ := ho1.form0; clear ho1 hb1 hp1 hr1)
  go_loopw [6] (fun i w' => ∃ (k : Nat), k ≤ y.length ∧ i = .int .i64 k ∧ Hid (Below w1.heap.size w1 w')) (fun i _ => y.length - (intOf i).toNat)
  case atStart => exact ⟨0, by omega, rfl, Below.refl _ _⟩
  case round =>
    clear hl1
    obtain ⟨k, hk, rfl, HB⟩ := hrel
    have hl1 := HL1.out
    have hbs := HB.out.size
    by_cases hlt : k < y.length
    · obtain ⟨f, hfm⟩ := get_some (xs := ls) (k := k) (by omega)
      obtain ⟨g1, off1, rfl⟩ : ∃ g1 off1, A1 = some ⟨g1, off1, none⟩ := by
        obtain ⟨g, off, c', e, -⟩ := HO1.out.form' (by omega)
        injection e with e1
        exact ⟨g, off, e1⟩
      obtain ⟨f0, f1, f2⟩ := own_fl (HO1.out.below HB.out) hfm
      have HK := Lib.hid (HKN.out f.path)
      rw [show kindL y f.path = f.kind by rw [kindL_perm HOK.out.d HPM.out]; exact kindL_mem HOK.out (HP1.out.mem_iff.1 (List.mem_of_getElem? hfm))] at HK
      have hBB := below_then HB1.out HB.out
      have HKR := Lib.hid fun (g : GrowOf wr) => HK.out (grow wr g) (below_then hBB (grow_below _ _))
      clear hBB HK
      haveI : Old wr g1 := ⟨f2⟩
      have k0 : (0 : Int) ≤ (k : Int) := by omega
      have k1 : (k : Int) < (y.length : Int) := by omega
      cases k with
      | zero =>
        clear hfm hl1
        simp only [Nat.zero_mul, Nat.add_zero] at f0 f1
        go_wp2_with fail
        (refine wp_region_grow (by kernel_rfl) (by kernel_rfl) ?_; (repeat (go_big_quiet_step ((go_at_call 41; exact grow_same (HKR.out _))))); refine wpQuiet_nil ?_; intro _ hw'; obtain ⟨gq, hw''⟩ := hw'; subst hw'')
        go_wp2_with fail
        go_roundw
        case rel => exact ⟨1, by omega, by go_num, below_grow HB.out _⟩
        case measure => simp [intOf]; omega
      | succ j =>
        obtain ⟨f', hfm'⟩ := get_some (xs := ls) (k := j) (by omega)
        obtain ⟨e0, _, _⟩ := own_fl (HO1.out.below HB.out) hfm'
        have hlt2 : Op.bytesLess f'.path f.path = true := by
          rw [less_lt, decide_eq_true_eq]
          obtain ⟨a1, a2⟩ := List.getElem?_eq_some_iff.1 hfm
          obtain ⟨b1, b2⟩ := List.getElem?_eq_some_iff.1 hfm'
          rw [← a2, ← b2]
          exact List.pairwise_iff_getElem.1 HR1.out j (j + 1) b1 a1 (by omega)
        have j0 : (0 : Int) ≤ (j : Int) := by omega
        have j1 : (j : Int) < (y.length : Int) := by omega
        have j2 := yes (show (0 : Int) < (j : Int) + 1 by omega)
        clear hfm hfm' hl1
        simp only [Int.natCast_add, Int.natCast_one] at k0 k1 ⊢
        go_wp2_with fail
        (refine wp_region_grow (by kernel_rfl) (by kernel_rfl) ?_; (repeat (go_big_quiet_step ((go_at_call 41; exact grow_same (HKR.out _))))); refine wpQuiet_nil ?_; intro _ hw'; obtain ⟨gq, hw''⟩ := hw'; subst hw'')
        go_wp2_with fail
        go_roundw
        case rel => exact ⟨j + 1 + 1, by omega, by go_num, below_grow HB.out _⟩
        case measure => simp [intOf]; omega
    · have d0 := no hlt
      clear hlt hl1
      go_wp2
      go_ret
      exact ⟨rfl, below_then HB1.out HB.out⟩
end Go.Proofs.Ytkllgikmlgponaa.Fil
