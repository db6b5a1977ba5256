/-
  The walks of layer 20, on: the law and the reference: awake, Light, May, Good. Conditions: rows and texts of at most 2^30.
-/
import Derived.Test.YtljinmfkogmmlaaGreatSpecD
/-
  The walks of layer 20's law and reference, in part: awake, Light, May. Conditions: names of at most 2^30 bytes.
-/
namespace Go.Proofs.YtljinmfkogmmlaaGreat.Spc
open Go.ChangeShapes Go.WideShapes Go.Deep Go.RowKit Mc Pa Quo Cls
set_option linter.unusedSimpArgs false
set_option linter.unusedVariables false
set_option maxRecDepth 100000
def awT : List UInt8 := [99, 111, 109, 112, 108, 101, 116, 101, 32, 45, 65, 32, 102, 105, 108, 101, 115, 32, 45, 88, 32, 39, 42, 46, 111, 39, 32, 99, 99]
theorem aw_split : splitL awT = ([[99, 111, 109, 112, 108, 101, 116, 101], [45, 65], [102, 105, 108, 101, 115], [45, 88], [42, 46, 111], [99, 99]], 0, 0) := by kernel_rfl
theorem aw_read : readL awT = ([99, 99], ⟨[1], [], [], [42, 46, 111], [], []⟩, 0) := by kernel_rfl
theorem awake20_any (w : World) : Calls Tryz.prog 7 #[] w fun e w' => e = .returned (.bool true) ∧ Below w.heap.size w w' := by
  have h := read_any awT w (by decide) (by rw [aw_split]; decide)
  rw [aw_read] at h
  have HR := Lib.hid h
  clear h
  unfold ReadP at HR
  go_enter Tryz.func7, Tryz.ntmps7
  go_wp2_with (go_at_call 8; refine HR.out.mono ?_; rintro e w2 ⟨va, vw, rfl, ha, hw, hb⟩; obtain ⟨Aa, ca, rfl, -⟩ := ha.form0; obtain ⟨Aw, cw, rfl, -⟩ := hw.form0; have HB := Lib.hid hb; clear ha hw hb)
  go_ret
  exact ⟨rfl, below_alloc HB.out _⟩
end Go.Proofs.YtljinmfkogmmlaaGreat.Spc
/-
  The walks of layer 20's law and reference, on: Light, Good. Conditions: rows and texts of at most 2^30. (Printed by gen_spcm.py.)
-/
namespace Go.Proofs.YtljinmfkogmmlaaGreat.Spc
open Go.ChangeShapes Go.WideShapes Go.Deep Go.RowKit Mc Pa Quo Cls
set_option linter.unusedSimpArgs false
set_option linter.unusedVariables false
set_option maxRecDepth 100000
/-- No text but such of at most m bytes. -/
def shortB (m : Nat) (t : List UInt8) : Bool := decide (t.length ≤ m)
/-- Are a spec's texts and rows small? -/
def lightB (x : Sp) : Bool := decide (x.a.length ≤ 20) && decide (x.w.length ≤ 20) && shortB 60 x.g && shortB 60 x.x && shortB 60 x.p && shortB 60 x.s && x.w.all (shortB 60)
theorem all_take {ts : List (List UInt8)} {k : Nat} {t : List UInt8} (q : List UInt8 → Bool) (h : ts[k]? = some t) : (ts.take (k + 1)).all q = ((ts.take k).all q && q t) := by
  rw [List.take_add_one, h, List.all_append]; simp
theorem all_no {ts : List (List UInt8)} {k : Nat} (q : List UInt8 → Bool) (h : (ts.take k).all q = false) : ts.all q = false := by
  rw [← List.take_append_drop k ts, List.all_append, h]; rfl
set_option maxHeartbeats 2000000 in
theorem light_any (va vw : Value) (x : Sp) (w : World) (ha : Sl w numC 1 va x.a) (hw : Sl w strC 1 vw x.w) (hla : x.a.length ≤ 9223372036854775807) (hlw : x.w.length ≤ 9223372036854775807) :
    Calls Tryz.prog 11 #[spV va vw x] w fun e w' => e = .returned (.bool (lightB x)) ∧ Below w.heap.size w w' := by
  have HQ := Lib.hid (show lightB x = (decide (x.a.length ≤ 20) && decide (x.w.length ≤ 20) && shortB 60 x.g && shortB 60 x.x && shortB 60 x.p && shortB 60 x.s && x.w.all (shortB 60)) from rfl)
  obtain ⟨Aa, ca, rfl, _⟩ := ha
  obtain ⟨Aw, cw, rfl, hc1, hc2, hn, hA⟩ := hw
  have HA := Lib.hid hA
  clear hA hn
  by_cases h0 : x.a.length ≤ 20
  case neg =>
    have n0 : (20 : Int) < (x.a.length : Int) := by omega
    rw [decide_eq_false h0] at HQ
    clear h0
    go_enter Tryz.func11, Tryz.ntmps11
    go_wp2
    go_ret
    exact ⟨by rw [HQ.out]; simp, by (repeat (first | exact Below.refl _ _ | assumption | with_reducible refine below_alloc ?_ _ | with_reducible refine below_grow ?_ _ | with_reducible refine below_drewN ?_ _ | with_reducible refine below_drew ?_ | with_reducible refine below_setCell ?_ (by first | (dsimp only; omega) | (simp; done) | (simp; omega)) _))⟩
  have n0 : ¬ (20 : Int) < (x.a.length : Int) := by omega
  rw [decide_eq_true h0] at HQ
  clear h0
  by_cases h1 : x.w.length ≤ 20
  case neg =>
    have n1 : (20 : Int) < (x.w.length : Int) := by omega
    rw [decide_eq_false h1] at HQ
    clear h1
    go_enter Tryz.func11, Tryz.ntmps11
    go_wp2
    go_ret
    exact ⟨by rw [HQ.out]; simp, by (repeat (first | exact Below.refl _ _ | assumption | with_reducible refine below_alloc ?_ _ | with_reducible refine below_grow ?_ _ | with_reducible refine below_drewN ?_ _ | with_reducible refine below_drew ?_ | with_reducible refine below_setCell ?_ (by first | (dsimp only; omega) | (simp; done) | (simp; omega)) _))⟩
  have n1 : ¬ (20 : Int) < (x.w.length : Int) := by omega
  rw [decide_eq_true h1] at HQ
  clear h1
  by_cases h2 : x.g.length ≤ 60
  case neg =>
    have n2 : (60 : Int) < (x.g.length : Int) := by omega
    rw [(show shortB 60 x.g = false from decide_eq_false h2)] at HQ
    clear h2
    go_enter Tryz.func11, Tryz.ntmps11
    go_wp2
    go_ret
    exact ⟨by rw [HQ.out]; simp, by (repeat (first | exact Below.refl _ _ | assumption | with_reducible refine below_alloc ?_ _ | with_reducible refine below_grow ?_ _ | with_reducible refine below_drewN ?_ _ | with_reducible refine below_drew ?_ | with_reducible refine below_setCell ?_ (by first | (dsimp only; omega) | (simp; done) | (simp; omega)) _))⟩
  have n2 : ¬ (60 : Int) < (x.g.length : Int) := by omega
  rw [(show shortB 60 x.g = true from decide_eq_true h2)] at HQ
  clear h2
  by_cases h3 : x.x.length ≤ 60
  case neg =>
    have n3 : (60 : Int) < (x.x.length : Int) := by omega
    rw [(show shortB 60 x.x = false from decide_eq_false h3)] at HQ
    clear h3
    go_enter Tryz.func11, Tryz.ntmps11
    go_wp2
    go_ret
    exact ⟨by rw [HQ.out]; simp, by (repeat (first | exact Below.refl _ _ | assumption | with_reducible refine below_alloc ?_ _ | with_reducible refine below_grow ?_ _ | with_reducible refine below_drewN ?_ _ | with_reducible refine below_drew ?_ | with_reducible refine below_setCell ?_ (by first | (dsimp only; omega) | (simp; done) | (simp; omega)) _))⟩
  have n3 : ¬ (60 : Int) < (x.x.length : Int) := by omega
  rw [(show shortB 60 x.x = true from decide_eq_true h3)] at HQ
  clear h3
  by_cases h4 : x.p.length ≤ 60
  case neg =>
    have n4 : (60 : Int) < (x.p.length : Int) := by omega
    rw [(show shortB 60 x.p = false from decide_eq_false h4)] at HQ
    clear h4
    go_enter Tryz.func11, Tryz.ntmps11
    go_wp2
    go_ret
    exact ⟨by rw [HQ.out]; simp, by (repeat (first | exact Below.refl _ _ | assumption | with_reducible refine below_alloc ?_ _ | with_reducible refine below_grow ?_ _ | with_reducible refine below_drewN ?_ _ | with_reducible refine below_drew ?_ | with_reducible refine below_setCell ?_ (by first | (dsimp only; omega) | (simp; done) | (simp; omega)) _))⟩
  have n4 : ¬ (60 : Int) < (x.p.length : Int) := by omega
  rw [(show shortB 60 x.p = true from decide_eq_true h4)] at HQ
  clear h4
  by_cases h5 : x.s.length ≤ 60
  case neg =>
    have n5 : (60 : Int) < (x.s.length : Int) := by omega
    rw [(show shortB 60 x.s = false from decide_eq_false h5)] at HQ
    clear h5
    go_enter Tryz.func11, Tryz.ntmps11
    go_wp2
    go_ret
    exact ⟨by rw [HQ.out]; simp, by (repeat (first | exact Below.refl _ _ | assumption | with_reducible refine below_alloc ?_ _ | with_reducible refine below_grow ?_ _ | with_reducible refine below_drewN ?_ _ | with_reducible refine below_drew ?_ | with_reducible refine below_setCell ?_ (by first | (dsimp only; omega) | (simp; done) | (simp; omega)) _))⟩
  have n5 : ¬ (60 : Int) < (x.s.length : Int) := by omega
  rw [(show shortB 60 x.s = true from decide_eq_true h5)] at HQ
  clear h5
  go_enter Tryz.func11, Tryz.ntmps11
  go_wp2
  have HB := Lib.hid (BoxN.new w [.slice Aa x.a.length ca, .slice Aw x.w.length cw, .string (B x.g), .string (B x.x), .string (B x.p), .string (B x.s)] 26)
  have HBE := Lib.hid (below_alloc (Below.refl w.heap.size w) (.cells #[.slice Aa x.a.length ca, .slice Aw x.w.length cw, .string (B x.g), .string (B x.x), .string (B x.p), .string (B x.s)] 26))
  generalize hW : w.alloc _ = W at *
  have HW := Lib.hid hW
  clear hW
  have c1 := HB.out.c 1 _ rfl
  go_loopw [3] (fun v3 wr => ∃ k : Nat, k ≤ x.w.length ∧ v3 = .int .i64 k ∧ Hid ((x.w.take k).all (shortB 60) = true) ∧ W = wr) (fun i _ => x.w.length - (intOf i).toNat)
  case atStart => exact ⟨0, by omega, rfl, Lib.hid rfl, rfl⟩
  case round =>
    obtain ⟨k, hk, rfl, HR, rfl⟩ := hrel
    have k0 : (0 : Int) ≤ (k : Int) := by omega
    by_cases hlt : k < x.w.length
    · have k1 : (k : Int) < (x.w.length : Int) := by omega
      obtain ⟨b, off, rfl, hb, hcl⟩ := HA.out (by omega)
      obtain ⟨t, ht⟩ : ∃ t, x.w[k]? = some t := ⟨_, List.getElem?_eq_getElem hlt⟩
      have hc : W.cell? ⟨b, off + k, none⟩ = some (.string (B t)) := by
        have := (HBE.out.cell (p := ⟨b, off + k * 1 + 0, none⟩) hb).trans (hcl k _ ht 0 _ rfl)
        simpa using this
      have HT := Lib.hid (all_take (shortB 60) ht)
      rw [HR.out, Bool.true_and] at HT
      clear hcl ht
      by_cases hs : t.length ≤ 60
      · have n9 : ¬ (60 : Int) < (t.length : Int) := by omega
        rw [show shortB 60 t = true from decide_eq_true hs] at HT
        clear hs
        go_wp2
        exact ⟨⟨k + 1, by omega, by go_num, HT, trivial⟩, by simp [intOf]; omega⟩
      · have n9 : (60 : Int) < (t.length : Int) := by omega
        rw [show shortB 60 t = false from decide_eq_false hs] at HT
        have HN := Lib.hid (all_no (shortB 60) HT.out)
        clear hs
        go_wp2
        go_ret
        exact ⟨by rw [HQ.out, HN.out]; simp, HBE.out⟩
    · have hr := HR.out
      rw [show k = x.w.length by omega, List.take_length] at hr
      have HR2 := Lib.hid hr
      have k1 : ¬ (k : Int) < (x.w.length : Int) := by omega
      clear hr
      go_wp2
      go_ret
      exact ⟨by rw [HQ.out, HR2.out]; rfl, HBE.out⟩
end Go.Proofs.YtljinmfkogmmlaaGreat.Spc
