/-
  The walks of layer 16 (pattern): Match, by the program and by the reference. Conditions: texts of at most 2^30 bytes; the library's variable MaxLen holds some number.
-/
import Derived.Test.YtnecmpgcjgkheaaGreatPat18
set_option linter.unusedSimpArgs false
set_option linter.unusedVariables false
namespace Go.Proofs.YtnecmpgcjgkheaaGreat.Pat
open Go.ChangeShapes Go.WideShapes Go.Deep Go.RowKit
set_option maxRecDepth 100000
theorem match_all (p s : List UInt8) (w : World) (hm : MaxL w) (hp : p.length ≤ 1073741824) (hs : s.length ≤ 1073741824) :
    Calls Tryz.prog 70 #[.string (B p), .string (B s)] w fun e w' => e = .returned (.bool (gm (parse p) s)) ∧ Below w.heap.size w w' := by
  have HP := Lib.hid (parse_any p w hm hp)
  have hpl := parse_len p
  have HMT := Lib.hid fun v w hv => match_any (parse p) s v w hv (by omega) hs
  clear hm
  go_enter Tryz.func70, Tryz.ntmps70
  go_wp2_with (first | (go_at_call 85; refine HP.out.mono ?_; rintro e w1 ⟨v, rfl, hv, hb⟩; have HV := Lib.hid hv; obtain ⟨g, rfl⟩ := to_grow hb; clear hv hb) | (go_at_call 84; refine (HMT.out _ _ HV.out).mono ?_; rintro e w' ⟨rfl, hb⟩; obtain ⟨g2, rfl⟩ := to_grow hb; clear hb))
  go_ret
  exact ⟨rfl, by (repeat (first | with_reducible exact Below.refl _ _ | with_reducible assumption | with_reducible refine below_alloc ?_ _ | with_reducible refine below_grow ?_ _ | with_reducible refine below_drewN ?_ _ | with_reducible refine below_drew ?_ | with_reducible refine below_setCell ?_ (by first | (dsimp only; omega) | (simp; done) | (simp; omega)) _))⟩
/-- A row of n bools. -/
structure BRow (w : World) (b n : Nat) (f : Nat → Bool) : Prop where
  lt : b < w.heap.size
  c : ∀ k, k < n → w.cell? ⟨b, k, none⟩ = some (.bool (f k))
  fr : ∀ k, w.frozen? ⟨b, k, none⟩ = false
theorem BRow.below {w W : World} {b n : Nat} {f : Nat → Bool} (h : BRow w b n f) (hb : Below w.heap.size w W) : BRow W b n f :=
  ⟨Nat.lt_of_lt_of_le h.lt hb.size, fun k hk => (hb.cell (p := ⟨b, k, none⟩) h.lt).trans (h.c k hk), fun k => (hb.frozen (p := ⟨b, k, none⟩) h.lt).trans (h.fr k)⟩
theorem BRow.keeps {F : Nat → Prop} {w W : World} {b n : Nat} {f : Nat → Bool} (h : BRow w b n f) (hk : Keeps F w W) (hF : ¬ F b) : BRow W b n f := by
  have e := hk.block b h.lt hF
  exact ⟨Nat.lt_of_lt_of_le h.lt hk.size, fun k hk => (World.cell?_of_block (w := w) e).trans (h.c k hk), fun k => (World.frozen?_of_block (w := w) e).trans (h.fr k)⟩
/-- A new row of n bools. -/
def row0 (n : Nat) : Obj := .cells (madeCells (Value.bool false).cells n) 4
theorem info_bool : (Tryz.prog.info? 4).map (fun i => (i.zero, i.size, i.bytes)) = some (some (.bool false), 1, 1) := by kernel_rfl
theorem run_row0 (n : Nat) (hn : n ≤ 1099511627776) (w : World) : (Instr.makeSlice 90 (.int .i64 ((n : Int) + 1)) (.int .i64 ((n : Int) + 1))).run Tryz.prog w = .ok (.slice (some ⟨w.heap.size, 0, none⟩) (n + 1) (n + 1)) (w.alloc (row0 (n + 1))) := by
  obtain ⟨i0, hi0, hz0, hz1, hz2⟩ := info_parts info_bool
  have := run_make (P := Tryz.prog) w 90 4 i0 (.bool false) Tryz.underlying90 hi0 hz0 .i64 .i64 ((n : Int) + 1) ((n : Int) + 1) (by omega) (by omega) (by rw [hz2]; omega) (by omega)
  rw [this, hz1, show ((n : Int) + 1).toNat = n + 1 by omega, Nat.mul_one]
  rfl
theorem BRow.new (W : World) (n : Nat) : BRow (W.alloc (row0 n)) W.heap.size n (fun _ => false) := by
  refine ⟨by simp, fun k hk => ?_, fun k => by unfold row0; simp [go_sem]⟩
  have hh := heap_alloc_new W (row0 n)
  unfold World.cell?
  simp only [hh]
  simp [row0, madeCells, hk, Value.cells, Nat.mod_one]
theorem BRow.set {w : World} {b n k : Nat} {f g : Nat → Bool} {x : Bool} (h : BRow w b n f) (hx : g k = x) (ho : ∀ j, j ≠ k → j < n → g j = f j) (hk : k < n) : BRow (w.setCell ⟨b, k, none⟩ (.bool x)) b n g := by
  refine ⟨by simpa [World.setCell] using h.lt, fun j hj => ?_, fun j => by simp only [World.frozen?_setCell]; exact h.fr j⟩
  by_cases e : j = k
  · subst e
    rw [World.cell?_setCell_same' _ _ _ (by rw [h.c _ hj]; rfl), hx]
  · rw [World.cell?_setCell_other _ _ _ _ (by first | (simp; done) | (simp; exact fun h => e h.symm)), h.c j hj, ho j e hj]
set_option maxHeartbeats 6400000 in
theorem match_ref (l : List At) (s : List UInt8) (v : Value) (w : World) (hv : Sl w atC 6 v l) (hl : l.length ≤ 1073741824) (hs : s.length ≤ 1073741824) :
    Calls Tryz.prog 36 #[v, .string (B s)] w fun e w' => e = .returned (.bool (gm l s)) ∧ Below w.heap.size w w' := by
  obtain ⟨A, c, rfl, hc1, hc2, hn, hA⟩ := hv
  have HA := Lib.hid hA
  clear hA hn
  have hmk := run_row0 s.length (by omega)
  have hr0 : ∀ w : World, (w.alloc (row0 (s.length + 1))).cell? ⟨w.heap.size, 0, none⟩ = some (.bool false) := fun w => (BRow.new w (s.length + 1)).c 0 (by omega)
  have hrf : ∀ (w : World), (w.alloc (row0 (s.length + 1))).frozen? ⟨w.heap.size, 0, none⟩ = false := fun w => (BRow.new w (s.length + 1)).fr 0
  go_enter Tryz.func36, Tryz.ntmps36
  go_wp2
  have HX0 : Hid (BRow ((w.alloc (row0 (s.length + 1))).setCell ⟨w.heap.size, 0, none⟩ (.bool true)) w.heap.size (s.length + 1) (fun k => gm (l.take 0) (s.take k))) :=
    (BRow.new w (s.length + 1)).set (by simp [gm_nil]) (fun j hj hjn => by rw [List.take_zero, gm_nil]; cases j with | zero => exact absurd rfl hj | succ j => cases s with | nil => simp at hjn | cons c s => rfl) (by omega)
  go_loopw [5, 6] (fun s5 i w' => ∃ (xb k : Nat), s5 = .slice (some ⟨xb, 0, none⟩) (s.length + 1) (s.length + 1) ∧ i = .int .i64 k ∧ k ≤ l.length ∧ w.heap.size ≤ xb ∧ Hid (BRow w' xb (s.length + 1) (fun j => gm (l.take k) (s.take j))) ∧ Below w.heap.size w w') (fun _ i _ => l.length - (intOf i).toNat)
  case atStart => exact ⟨w.heap.size, 0, rfl, rfl, by omega, by omega, HX0.out, by (repeat (first | with_reducible exact Below.refl _ _ | with_reducible assumption | with_reducible refine below_alloc ?_ _ | with_reducible refine below_grow ?_ _ | with_reducible refine below_drewN ?_ _ | with_reducible refine below_drew ?_ | with_reducible refine below_setCell ?_ (by first | (dsimp only; omega) | (simp; done) | (simp; omega)) _))⟩
  case round =>
    clear HX0 hr0 hrf
    obtain ⟨xb, i, rfl, rfl, hi, hxb, HX, hb⟩ := hrel
    by_cases hil : i < l.length
    rotate_left
    · have hi2 : i = l.length := by omega
      have hx := HX.out
      rw [hi2, List.take_length] at hx
      have hc := hx.c s.length (by omega)
      rw [List.take_length] at hc
      haveI : Old wr xb := ⟨hx.lt⟩
      have d0 := no hil
      clear hi2 hx hil
      go_wp2
      go_ret
      exact ⟨rfl, hb⟩
    obtain ⟨g, off, rfl, hg, hcell⟩ := HA.out (by omega)
    have e0 := fun W (hW : Below w.heap.size w W) j u hu => (hW.cell (p := ⟨g, off + i * 6 + j, none⟩) hg).trans (hcell i _ (List.getElem?_eq_getElem hil) j u hu)
    have HE := Lib.hid e0
    have HTK := Lib.hid (show l.take (i + 1) = l.take i ++ [l[i]] by rw [List.take_succ_eq_append_getElem hil])
    have i0 : (0 : Int) ≤ (i : Int) := by omega
    have i1 : (i : Int) < (l.length : Int) := by omega
    have hk3 := kind3 l[i]
    have HT := Lib.hid fun b w => takes_ref l[i] b w
    unfold atV at HT
    clear e0 hcell
    generalize l[i] = a at *
    go_wp2
    have hbs := hb.size
    have HY0 := Lib.hid (BRow.new wr (s.length + 1))
    have HX1 := Lib.hid (HX.out.below (below_alloc (Below.refl _ _) (row0 (s.length + 1))))
    have hb1 := below_alloc hb (row0 (s.length + 1))
    have HXY : Hid (xb ≠ wr.heap.size) := by have := HX.out.lt; show _ ≠ _; omega
    have hyb : w.heap.size ≤ wr.heap.size := hbs
    generalize wr.alloc (row0 (s.length + 1)) = wq at *
    generalize wr.heap.size = yb at *
    obtain ⟨wo, rfl⟩ : ∃ wo : World, wo = wr := ⟨_, rfl⟩
    go_loopw [8] (fun j w' => ∃ k : Nat, j = .int .i64 k ∧ k ≤ s.length + 1 ∧ Hid (BRow w' xb (s.length + 1) (fun j => gm (l.take i) (s.take j))) ∧ Hid (BRow w' yb (s.length + 1) (fun j => decide (j < k) && gm (l.take (i + 1)) (s.take j))) ∧ Below w.heap.size w w') (fun j _ => s.length + 1 - (intOf j).toNat)
    case atStart => exact ⟨0, rfl, by omega, HX1.out, by show BRow _ _ _ _; simpa using HY0.out, hb1⟩
    case round =>
      clear HX1 HY0 hb1
      obtain ⟨k, rfl, hk, HXK, HYK, hbk⟩ := hrel
      by_cases hkl : k ≤ s.length
      rotate_left
      · have hk2 : k = s.length + 1 := by omega
        have HY2 : Hid (BRow wr yb (s.length + 1) (fun j => gm (l.take (i + 1)) (s.take j))) := by
          have h := HYK.out
          exact ⟨h.lt, fun j hj => by have := h.c j hj; rwa [decide_eq_true (show j < k by omega), Bool.true_and] at this, h.fr⟩
        have d0 := no hkl
        clear hk2 hkl
        go_wp2
        go_roundw
        case rel => exact ⟨yb, i + 1, rfl, by go_num, by omega, by omega, HY2.out, hbk⟩
        case measure => simp [intOf]; omega
      have f := HE.out wr hbk
      have f0 := f 0 _ rfl
      have f1 := f 1 _ rfl
      have f2 := f 2 _ rfl
      have f3 := f 3 _ rfl
      have f4 := f 4 _ rfl
      have f5 := f 5 _ rfl
      simp only [Nat.add_zero] at f0
      have cx := HXK.out.c k (by omega)
      have cyf := HYK.out.fr
      have cyk := HYK.out.c k (by omega)
      rw [decide_eq_false (Nat.lt_irrefl k), Bool.false_and] at cyk
      haveI : Old wr xb := ⟨HXK.out.lt⟩
      haveI : Old wr yb := ⟨HYK.out.lt⟩
      haveI : Old wr g := ⟨Nat.lt_of_lt_of_le hg hbk.size⟩
      have k0 : (0 : Int) ≤ (k : Int) := by omega
      have k1 : (k : Int) < (s.length : Int) + 1 := by omega
      have kl : (k : Int) ≤ (s.length : Int) := by omega
      have HK1 : Hid (∀ x : Bool, x = gm (l.take (i + 1)) (s.take k) → BRow (wr.setCell ⟨yb, k, none⟩ (.bool x)) yb (s.length + 1) (fun j => decide (j < k + 1) && gm (l.take (i + 1)) (s.take j))) := fun x hx =>
        HYK.out.set (by rw [hx, decide_eq_true (Nat.lt_succ_self k), Bool.true_and]) (fun j hj _ => by
          by_cases h1 : j < k
          · rw [decide_eq_true h1, decide_eq_true (show j < k + 1 by omega)]
          · rw [decide_eq_false h1, decide_eq_false (show ¬ j < k + 1 by omega)]) (by omega)
      clear f
      cases hmany : a.isMany with
      | true =>
        rw [hmany] at hk3
        obtain rfl : a = .many := by cases a <;> simp [At.isMany] at hmany; rfl
        clear hmany
        cases k with
        | zero =>
          have HG := Lib.hid (gm_snoc_many0 (l.take i) s)
          cases hX : gm (l.take i) (s.take 0)
          all_goals
            rw [hX] at cx HG
            clear hX
            go_wp2
            go_roundw
            case rel => exact ⟨0 + 1, by go_num, by omega, HXK.out.keeps (Keeps.setCell (F := fun k => k = yb) wr (a := ⟨yb, 0, none⟩) rfl _) HXY.out, HK1.out _ (by rw [HTK.out, HG.out]), below_setCell hbk hyb _⟩
            case measure => simp [intOf]
        | succ m =>
          have HG := Lib.hid (gm_snoc_many (l.take i) s m)
          have cym := HYK.out.c m (by omega)
          rw [decide_eq_true (show m < m + 1 by omega), Bool.true_and] at cym
          rw [← HTK.out] at HG
          have m0 : (0 : Int) ≤ (m : Int) := by omega
          have m1 : (m : Int) < (s.length : Int) + 1 := by omega
          cases hX : gm (l.take i) (s.take (m + 1))
          all_goals
            cases hY : gm (l.take (i + 1)) (s.take m)
            all_goals
              rw [hX] at cx HG
              rw [hY] at cym HG
              clear hX hY
              go_wp2
              go_roundw
              case rel => exact ⟨m + 1 + 1, by go_num, by omega, HXK.out.keeps (Keeps.setCell (F := fun k => k = yb) wr (a := ⟨yb, m + 1, none⟩) rfl _) HXY.out, HK1.out _ (by rw [HG.out]; rfl), below_setCell hbk hyb _⟩
              case measure => simp [intOf]; omega
      | false =>
        rw [hmany] at hk3
        cases k with
        | zero =>
          have HG := Lib.hid (gm_snoc0 (l.take i) s hmany)
          rw [← HTK.out] at HG
          have HZ : Hid (BRow wr yb (s.length + 1) (fun j => decide (j < 0 + 1) && gm (l.take (i + 1)) (s.take j))) := by
            have h := HYK.out
            refine ⟨h.lt, fun j hj => ?_, h.fr⟩
            by_cases h1 : j < 0 + 1
            · obtain rfl : j = 0 := by omega
              rw [HG.out]; simpa using cyk
            · have := h.c j hj
              rw [decide_eq_false (show ¬ j < 0 by omega)] at this
              rw [decide_eq_false h1]; exact this
          clear hmany
          go_wp2
          go_roundw
          case rel => exact ⟨0 + 1, by go_num, by omega, HXK.out, HZ.out, hbk⟩
          case measure => simp [intOf]
        | succ m =>
          have hms : m < s.length := by omega
          have HG := Lib.hid (gm_snoc (l.take i) s m hms hmany)
          rw [← HTK.out] at HG
          have cxm := HXK.out.c m (by omega)
          have m0 : (0 : Int) ≤ (m : Int) := by omega
          have m1 : (m : Int) < (s.length : Int) + 1 := by omega
          have m2 : (m : Int) < (s.length : Int) := by omega
          have m3 : IntKind.i64.wrap ((m : Int) + 1 - 1) = (m : Int) := by rw [IntWalk.i64_in _ (by omega)]; omega
          have m4 : (m : Int) + 1 - 1 = (m : Int) := by omega
          have HTB := Lib.hid (HT.out s[m])
          clear hmany
          cases hX : gm (l.take i) (s.take m) with
          | true =>
            cases hT : takes a s[m] with
            | true =>
              rw [hX] at cxm HG
              rw [hT] at HTB HG
              clear hX hT
              go_wp2
              (refine wp_region_grow_tail 19 (by kernel_rfl) (by kernel_rfl) ?_; simp only [List.take_succ_cons, List.take_zero, List.drop_succ_cons, List.drop_zero]; (repeat (go_big_quiet_step ((go_at_call 50; exact grow_of (HTB.out _))))); refine wpQuiet_nil ?_; intro _ hw'; obtain ⟨gq, hw''⟩ := hw'; subst hw'')
              go_wp2
              have HXG := Lib.hid ((HXK.out.keeps (Keeps.setCell (F := fun k => k = yb) wr (a := ⟨yb, m + 1, none⟩) rfl (.bool true)) HXY.out).below (grow_below _ (growSet gq ⟨yb, m + 1, none⟩ (.bool true))))
              have HK2 := Lib.hid ((HK1.out true (by rw [HG.out]; rfl)).below (grow_below _ (growSet gq ⟨yb, m + 1, none⟩ (.bool true))))
              have hbg := below_then (below_setCell hbk hyb (a := ⟨yb, m + 1, none⟩) (.bool true)) (grow_below _ (growSet gq ⟨yb, m + 1, none⟩ (.bool true)))
              go_roundw
              case rel => exact ⟨m + 1 + 1, by go_num, by omega, HXG.out, HK2.out, hbg⟩
              case measure => simp [intOf]; omega
            | false =>
              rw [hX] at cxm HG
              rw [hT] at HTB HG
              clear hX hT
              go_wp2
              (refine wp_region_grow_tail 19 (by kernel_rfl) (by kernel_rfl) ?_; simp only [List.take_succ_cons, List.take_zero, List.drop_succ_cons, List.drop_zero]; (repeat (go_big_quiet_step ((go_at_call 50; exact grow_of (HTB.out _))))); refine wpQuiet_nil ?_; intro _ hw'; obtain ⟨gq, hw''⟩ := hw'; subst hw'')
              go_wp2
              have HXG := Lib.hid ((HXK.out.keeps (Keeps.setCell (F := fun k => k = yb) wr (a := ⟨yb, m + 1, none⟩) rfl (.bool false)) HXY.out).below (grow_below _ (growSet gq ⟨yb, m + 1, none⟩ (.bool false))))
              have HK2 := Lib.hid ((HK1.out false (by rw [HG.out]; rfl)).below (grow_below _ (growSet gq ⟨yb, m + 1, none⟩ (.bool false))))
              have hbg := below_then (below_setCell hbk hyb (a := ⟨yb, m + 1, none⟩) (.bool false)) (grow_below _ (growSet gq ⟨yb, m + 1, none⟩ (.bool false)))
              go_roundw
              case rel => exact ⟨m + 1 + 1, by go_num, by omega, HXG.out, HK2.out, hbg⟩
              case measure => simp [intOf]; omega
          | false =>
            rw [hX] at cxm HG
            clear hX
            go_wp2
            (refine wp_region_grow_tail 19 (by kernel_rfl) (by kernel_rfl) ?_; simp only [List.take_succ_cons, List.take_zero, List.drop_succ_cons, List.drop_zero]; (repeat (go_big_quiet_step (fail))); refine wpQuiet_nil ?_; intro _ hw'; obtain ⟨gq, hw''⟩ := hw'; subst hw'')
            go_wp2
            have HXG := Lib.hid ((HXK.out.keeps (Keeps.setCell (F := fun k => k = yb) wr (a := ⟨yb, m + 1, none⟩) rfl (.bool false)) HXY.out).below (grow_below _ (growSet gq ⟨yb, m + 1, none⟩ (.bool false))))
            have HK2 := Lib.hid ((HK1.out false (by rw [HG.out]; rfl)).below (grow_below _ (growSet gq ⟨yb, m + 1, none⟩ (.bool false))))
            have hbg := below_then (below_setCell hbk hyb (a := ⟨yb, m + 1, none⟩) (.bool false)) (grow_below _ (growSet gq ⟨yb, m + 1, none⟩ (.bool false)))
            go_roundw
            case rel => exact ⟨m + 1 + 1, by go_num, by omega, HXG.out, HK2.out, hbg⟩
            case measure => simp [intOf]; omega
end Go.Proofs.YtnecmpgcjgkheaaGreat.Pat
