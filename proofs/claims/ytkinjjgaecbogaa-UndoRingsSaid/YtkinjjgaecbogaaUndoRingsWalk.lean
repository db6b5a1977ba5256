/-
  The walk of the law UndoRings: it returns true, whatever its arguments. Conditions: none (arguments as the row reads them). Printed by gen_rings.py.
-/
import Derived.Test.YtkinjjgaecbogaaRing7
namespace Go.Proofs.Ytkinjjgaecbogaa.undoRings
open Go.ChangeShapes Go.WideShapes Go.Deep Go.ChangeAt Go.RowKit
set_option maxRecDepth 100000
set_option maxHeartbeats 32000000 in
theorem walk {H : Type} (enc : TypeId × Value → H) (w : World) (base : Nat) {v0 : Value} {d0 : DataW H} {p0 : List MemPlace}
    (h0 : DataW.Trod enc Try.prog w 0 (fun _ => true) true 103 v0 d0 p0) (k0 : Value.okWide Try.prog w .any base 103 v0) :
    Calls Try.prog 15 #[v0] w fun e w' => e = .returned (.bool true) ∧ Below w.heap.size w w' := by
  obtain ⟨l, hv, hok, hl⟩ := open_sl Kls.cells Kls.Ok Try.underlying103 kls_cells (by omega) kls_dec h0 k0
  clear h0 k0
  obtain ⟨i0, hi0, hz00, hz01, hz02⟩ := info_parts info_str
  obtain ⟨A, c, rfl, hc1, hc2, hn, hA⟩ := hv
  have HA := Lib.hid hA
  have HOK := Lib.hid hok
  clear hA hn hok
  by_cases hl6 : 60 < l.length
  · go_enter Try.func15, Try.ntmps15
    go_wp2_with (first | (go_at_call 49; refine (awake02_any _).mono ?_; rintro e w' ⟨rfl, hb⟩; obtain ⟨g, rfl⟩ := to_grow hb; clear hb))
    go_ret
    exact ⟨rfl, by (repeat (first | exact Below.refl _ _ | assumption | with_reducible refine below_alloc ?_ _ | with_reducible refine below_grow ?_ _ | with_reducible refine below_drewN ?_ _ | with_reducible refine below_drew ?_ | with_reducible refine below_setCell ?_ (by first | (dsimp only; omega) | (simp; done) | (simp; omega)) _))⟩
  have hl60 : l.length ≤ 60 := by omega
  have hd := no (show ¬ (60 : Int) < (l.length : Int) by omega)
  clear hl6
  go_enter Try.func15, Try.ntmps15
  go_wp2_with (first | (go_at_call 49; refine (awake02_any _).mono ?_; rintro e w' ⟨rfl, hb⟩; obtain ⟨g, rfl⟩ := to_grow hb; clear hb))
  clear hd
  have HI0 : Hid (RingI w ((grow w g).alloc (.cells #[.slice none 0 0] 106)) (grow w g).heap.size (.slice none 0 0) (.slice none 0 0) [] 0) :=
    ⟨⟨g.2.size, by simp, by go_simp, by simp [go_sem], Own.nil _ _ _, by simp [Value.ownBlock]⟩, Sl.nil _ _ _, fun j e => (by cases e), by simp, by simp, below_alloc (grow_below w g) _⟩
  generalize hrb : (grow w g).heap.size = rb at *
  generalize (grow w g).alloc (.cells #[.slice none 0 0] 106) = W0 at *
  go_loopw [4, 5] (fun x1 i wr => ∃ (k : Nat) (lv : Value) (ts : List (List UInt8)) (xv : Value), k ≤ l.length ∧ xv = x1 ∧ i = .int .i64 k ∧ Hid (RingI w wr rb lv xv ts k)) (fun _ i _ => l.length - (intOf i).toNat)
  case atStart => exact ⟨0, _, [], _, by omega, rfl, rfl, HI0.out⟩
  case round =>
    clear HI0
    obtain ⟨k, lv, ts, xv, hk, rfl, rfl, HI⟩ := hrel
    by_cases hlt : k < l.length
    rotate_left
    · have HB := HI.out.bl
      go_wp2
      go_ret
      exact ⟨rfl, HB⟩
    obtain ⟨b, off, rfl, hb, hc⟩ := HA.out (by omega)
    have e0 := fun j u hu => (HI.out.bl.cell (p := ⟨b, off + k * 3 + j, none⟩) hb).trans (hc k _ (List.getElem?_eq_getElem hlt) j u hu)
    have f0 := e0 0 _ rfl
    have f1 := e0 1 _ rfl
    have f2 := e0 2 _ rfl
    simp only [Nat.add_zero] at f0
    have HC : Hid (∀ W, Below w.heap.size w W → W.cell? ⟨b, off + k * 3, none⟩ = some (.int .i64 l[k].kind) ∧ W.cell? ⟨b, off + k * 3 + 1, none⟩ = some (.int .i64 l[k].more) ∧ W.cell? ⟨b, off + k * 3 + 2, none⟩ = some (.string (B l[k].s))) := fun W hW =>
      ⟨by have := (hW.cell (p := ⟨b, off + k * 3 + 0, none⟩) hb).trans (hc k _ (List.getElem?_eq_getElem hlt) 0 _ rfl); simpa using this, (hW.cell (p := ⟨b, _, none⟩) hb).trans (hc k _ (List.getElem?_eq_getElem hlt) 1 _ rfl), (hW.cell (p := ⟨b, _, none⟩) hb).trans (hc k _ (List.getElem?_eq_getElem hlt) 2 _ rfl)⟩
    have hko := HOK.out l[k] (List.getElem_mem hlt)
    clear e0 hc
    have hwz := HI.out.bl.size
    haveI : Old wr b := ⟨Nat.lt_of_lt_of_le hb hwz⟩
    have hi0' : (0 : Int) ≤ (k : Int) := by omega
    have hi1' : (k : Int) < (l.length : Int) := by omega
    generalize l[k] = a at *
    obtain ⟨kind, more, s⟩ := a
    simp only [Kls.Ok] at hko f0 f1 f2 HC
    by_cases hs1 : 100 < s.length
    · have HB := HI.out.bl
      go_wp2
      go_ret
      exact ⟨rfl, HB⟩
    have hs2 : s.length ≤ 100 := by omega
    have hs3 := no (show ¬ (100 : Int) < (s.length : Int) by omega)
    clear hs1
    have hkind : kind = 0 ∨ kind = 1 ∨ kind = 2 ∨ (kind ≠ 0 ∧ kind ≠ 1 ∧ kind ≠ 2) := by omega
    cases hrev : ts.reverse with
    | nil =>
      obtain rfl : ts = [] := by simpa using hrev
      have hx := HI.out.x
      rw [List.reverse_nil] at hx
      obtain ⟨Ax, cx, rfl⟩ := sl_none hx
      clear hx hrev
      rcases hkind with rfl | rfl | rfl | ⟨hk0, hk1, hk2⟩
      · by_cases hs0 : s = []
        · as_aux_lemma =>
            subst hs0
            go_wp2_with (first
              | (go_at_call 61; refine (kill_nil _ _ _ _ ([]) more HI.out.r).mono ?_; rintro e w1 ⟨rfl, lv1, hr1, hk1, hat1⟩; have HF := Lib.hid (HI.out.same hr1 hk1 hat1); clear hr1 hk1 hat1)
              | (go_at_call 63; refine (top_none _ _ _ _ HF.out.r).mono ?_; rintro e w5 ⟨rfl, hb5⟩; have HF := Lib.hid (HF.out.below hb5); clear hb5)
              | (go_at_call 64; refine (texts_any _ _ _ _ ([]) HF.out.r (by have := HF.out.len; omega)).mono ?_; rintro e w6 ⟨v6, rfl, hs6, hb6⟩; have HF := Lib.hid (HF.out.below hb6); have hs6 : Sl w6 strC 1 v6 [] := hs6; obtain ⟨A6, c6, rfl⟩ := sl_none hs6; clear hs6 hb6))
            go_loopw [12] (fun i w' => ∃ j : Nat, j ≤ 0 ∧ i = .int .i64 j ∧ Drew w6 w') (fun i _ => 0 - (intOf i).toNat)
            case atStart => exact ⟨0, by omega, rfl, .refl _⟩
            case round =>
              obtain ⟨j, hj, rfl, nd, rfl⟩ := hrel
              go_wp2
              go_roundw
              case rel => exact ⟨k + 1, lv1, [], .slice Ax 0 cx, by omega, rfl, by go_num, HF.out.below (below_drewN (Below.refl _ _) nd)⟩
              case measure => simp [intOf]; omega
        · as_aux_lemma =>
            have hse : (s == []) = false := by simpa using hs0
            have hse2 : s.isEmpty = false := by simpa using hs0
            have HS0 := Lib.hid hs0
            clear hs0
            go_wp2_with (first
              | (go_at_call 61; refine (kill_add _ _ _ _ [] s more HI.out.r HS0.out (.inl rfl) (by simp)).mono ?_; rintro e w1 ⟨rfl, lv1, hr1, hk1, hat1⟩; replace hr1 : RAt w1 w.heap.size rb lv1 [s] := hr1; have HX1 := Lib.hid (HI.out.xKept hk1 (fun j hf => hf.imp id (·.1))); have HBL := Lib.hid (HI.out.blK hk1 (fun j hf => hf)); have HR1 := Lib.hid hr1; obtain ⟨f10, f11, f12⟩ := HC.out _ HBL.out; haveI : Old w1 b := ⟨Nat.lt_of_lt_of_le hb HBL.out.size⟩; clear hr1 hk1 hat1)
              | ((at_builtin; refine wpList_append_src _ rfl (.tmp 82) (.tmp 83) _ rfl w1.heap.size 9 i0 _ 1 16 Try.underlying22 hi0 hz00 hz01 hz02 rfl (by decide) _ 1 [.string (B (s))] rfl (own_one w1 w1.heap.size _ _ (Nat.le_refl _)) _ 0 (([] : List (List UInt8)).flatMap strC) rfl (by first | (rw [strC_flat, Nat.mul_one]; done) | (rw [strC_flat, Nat.mul_one]; rfl) | (simp; done)) ((HX1.out.below (below_alloc (Below.refl _ _) _)).src strC_len) strC_one (by unfold maxLen; omega) (by omega) (by first | (simp; done) | omega | (simp; omega)) ?_; intro v2 w2 hown2 hg2 hat2 hty2; have HTY2 := Lib.hid hty2; clear hty2); obtain ⟨g1, o1, c1, rfl, q1, q2, hsl, hxo, hbl⟩ := fresh_x (r := []) (m := 0) _ hown2 rfl hg2 hat2; have HF := Lib.hid (ringI_fresh (k := k) (ts' := [s]) HR1.out HBL.out hbl (by first | exact hsl | (rw [rev_cons]; exact hsl)) hxo (by first | (simp; done) | (simp; omega)) (fun y hy => by simp at hy; subst hy; omega)); clear hown2 hg2 hat2 hsl hxo hbl)
              | (go_at_call 63; refine (top_some _ _ _ _ ([]) (s) HF.out.r (by simp)).mono ?_; rintro e w5 ⟨rfl, hb5⟩; have HF := Lib.hid (HF.out.below hb5); clear hb5)
              | (go_at_call 64; refine (texts_any _ _ _ _ ([s]) HF.out.r (by have := HF.out.len; omega)).mono ?_; rintro e w6 ⟨v6, rfl, hs6, hb6⟩; have HF := Lib.hid (HF.out.below hb6); rw [show ([s] : List (List UInt8)).reverse = [s] from rfl] at hs6; obtain ⟨g6, o6, c6, rfl, q61, q62, q63, q64⟩ := sl_parts (N := 0) hs6 (by simp); have HS6 := Lib.hid q64; have hx6 := HF.out.x; rw [show ([s] : List (List UInt8)).reverse = [s] from rfl] at hx6; obtain ⟨gy, oy, cy, ey, q71, q72, q73, q74⟩ := sl_parts (N := 0) hx6 (by simp); injection ey with ey1 _ ey3; injection ey1 with ey1; cases ey1; subst ey3; have HY6 := Lib.hid q74; have y0 := q74 0 _ rfl; simp only [Nat.add_zero] at y0; clear hs6 hb6 hx6 q64 q74))
            go_loopw [12] (fun i w' => ∃ j : Nat, j ≤ 1 ∧ i = .int .i64 j ∧ Drew w6 w') (fun i _ => 1 - (intOf i).toNat)
            case atStart => exact ⟨0, by omega, rfl, .refl _⟩
            case round =>
              obtain ⟨j, hj, rfl, nd, rfl⟩ := hrel
              by_cases hlj : j < 1
              · obtain ⟨yy, hyy⟩ := get_some (show j < ([s]).length by simp; omega)
                have z0 := HS6.out j yy hyy
                have z1 := HY6.out j yy hyy
                have hj0 : (0 : Int) ≤ (j : Int) := by omega
                have hj1 : (j : Int) < (((1 : Nat) : Int) : Int) := by omega
                clear hyy
                go_wp2
                go_quiet (fail)
                go_wp2
                go_roundw
                case rel => exact ⟨j + 1, by omega, by go_num, nd + nq, rfl⟩
                case measure => simp [intOf]; omega
              · go_wp2
                go_roundw
                case rel => exact ⟨k + 1, lv1, [s], .slice (some ⟨g1, o1, none⟩) 1 c1, by omega, rfl, by go_num, HF.out.below (below_drewN (Below.refl _ _) nd)⟩
                case measure => simp [intOf]; omega
      · by_cases hs0 : s = []
        · as_aux_lemma =>
            subst hs0
            go_wp2_with (first
              | (go_at_call 61; refine (kill_nil _ _ _ _ ([]) more HI.out.r).mono ?_; rintro e w1 ⟨rfl, lv1, hr1, hk1, hat1⟩; have HF := Lib.hid (HI.out.same hr1 hk1 hat1); clear hr1 hk1 hat1)
              | (go_at_call 63; refine (top_none _ _ _ _ HF.out.r).mono ?_; rintro e w5 ⟨rfl, hb5⟩; have HF := Lib.hid (HF.out.below hb5); clear hb5)
              | (go_at_call 64; refine (texts_any _ _ _ _ ([]) HF.out.r (by have := HF.out.len; omega)).mono ?_; rintro e w6 ⟨v6, rfl, hs6, hb6⟩; have HF := Lib.hid (HF.out.below hb6); have hs6 : Sl w6 strC 1 v6 [] := hs6; obtain ⟨A6, c6, rfl⟩ := sl_none hs6; clear hs6 hb6))
            go_loopw [12] (fun i w' => ∃ j : Nat, j ≤ 0 ∧ i = .int .i64 j ∧ Drew w6 w') (fun i _ => 0 - (intOf i).toNat)
            case atStart => exact ⟨0, by omega, rfl, .refl _⟩
            case round =>
              obtain ⟨j, hj, rfl, nd, rfl⟩ := hrel
              go_wp2
              go_roundw
              case rel => exact ⟨k + 1, lv1, [], .slice Ax 0 cx, by omega, rfl, by go_num, HF.out.below (below_drewN (Below.refl _ _) nd)⟩
              case measure => simp [intOf]; omega
        · as_aux_lemma =>
            have hse : (s == []) = false := by simpa using hs0
            have hse2 : s.isEmpty = false := by simpa using hs0
            have HS0 := Lib.hid hs0
            clear hs0
            go_wp2_with (first
              | (go_at_call 61; refine (kill_add _ _ _ _ [] s more HI.out.r HS0.out (.inl rfl) (by simp)).mono ?_; rintro e w1 ⟨rfl, lv1, hr1, hk1, hat1⟩; replace hr1 : RAt w1 w.heap.size rb lv1 [s] := hr1; have HX1 := Lib.hid (HI.out.xKept hk1 (fun j hf => hf.imp id (·.1))); have HBL := Lib.hid (HI.out.blK hk1 (fun j hf => hf)); have HR1 := Lib.hid hr1; obtain ⟨f10, f11, f12⟩ := HC.out _ HBL.out; haveI : Old w1 b := ⟨Nat.lt_of_lt_of_le hb HBL.out.size⟩; clear hr1 hk1 hat1)
              | ((at_builtin; refine wpList_append_src _ rfl (.tmp 82) (.tmp 83) _ rfl w1.heap.size 9 i0 _ 1 16 Try.underlying22 hi0 hz00 hz01 hz02 rfl (by decide) _ 1 [.string (B (s))] rfl (own_one w1 w1.heap.size _ _ (Nat.le_refl _)) _ 0 (([] : List (List UInt8)).flatMap strC) rfl (by first | (rw [strC_flat, Nat.mul_one]; done) | (rw [strC_flat, Nat.mul_one]; rfl) | (simp; done)) ((HX1.out.below (below_alloc (Below.refl _ _) _)).src strC_len) strC_one (by unfold maxLen; omega) (by omega) (by first | (simp; done) | omega | (simp; omega)) ?_; intro v2 w2 hown2 hg2 hat2 hty2; have HTY2 := Lib.hid hty2; clear hty2); obtain ⟨g1, o1, c1, rfl, q1, q2, hsl, hxo, hbl⟩ := fresh_x (r := []) (m := 0) _ hown2 rfl hg2 hat2; have HF := Lib.hid (ringI_fresh (k := k) (ts' := [s]) HR1.out HBL.out hbl (by first | exact hsl | (rw [rev_cons]; exact hsl)) hxo (by first | (simp; done) | (simp; omega)) (fun y hy => by simp at hy; subst hy; omega)); clear hown2 hg2 hat2 hsl hxo hbl)
              | (go_at_call 63; refine (top_some _ _ _ _ ([]) (s) HF.out.r (by simp)).mono ?_; rintro e w5 ⟨rfl, hb5⟩; have HF := Lib.hid (HF.out.below hb5); clear hb5)
              | (go_at_call 64; refine (texts_any _ _ _ _ ([s]) HF.out.r (by have := HF.out.len; omega)).mono ?_; rintro e w6 ⟨v6, rfl, hs6, hb6⟩; have HF := Lib.hid (HF.out.below hb6); rw [show ([s] : List (List UInt8)).reverse = [s] from rfl] at hs6; obtain ⟨g6, o6, c6, rfl, q61, q62, q63, q64⟩ := sl_parts (N := 0) hs6 (by simp); have HS6 := Lib.hid q64; have hx6 := HF.out.x; rw [show ([s] : List (List UInt8)).reverse = [s] from rfl] at hx6; obtain ⟨gy, oy, cy, ey, q71, q72, q73, q74⟩ := sl_parts (N := 0) hx6 (by simp); injection ey with ey1 _ ey3; injection ey1 with ey1; cases ey1; subst ey3; have HY6 := Lib.hid q74; have y0 := q74 0 _ rfl; simp only [Nat.add_zero] at y0; clear hs6 hb6 hx6 q64 q74))
            go_loopw [12] (fun i w' => ∃ j : Nat, j ≤ 1 ∧ i = .int .i64 j ∧ Drew w6 w') (fun i _ => 1 - (intOf i).toNat)
            case atStart => exact ⟨0, by omega, rfl, .refl _⟩
            case round =>
              obtain ⟨j, hj, rfl, nd, rfl⟩ := hrel
              by_cases hlj : j < 1
              · obtain ⟨yy, hyy⟩ := get_some (show j < ([s]).length by simp; omega)
                have z0 := HS6.out j yy hyy
                have z1 := HY6.out j yy hyy
                have hj0 : (0 : Int) ≤ (j : Int) := by omega
                have hj1 : (j : Int) < (((1 : Nat) : Int) : Int) := by omega
                clear hyy
                go_wp2
                go_quiet (fail)
                go_wp2
                go_roundw
                case rel => exact ⟨j + 1, by omega, by go_num, nd + nq, rfl⟩
                case measure => simp [intOf]; omega
              · go_wp2
                go_roundw
                case rel => exact ⟨k + 1, lv1, [s], .slice (some ⟨g1, o1, none⟩) 1 c1, by omega, rfl, by go_num, HF.out.below (below_drewN (Below.refl _ _) nd)⟩
                case measure => simp [intOf]; omega
      · as_aux_lemma =>
          skip
          go_wp2_with (first
            | (go_at_call 62; refine (turn_none _ _ _ _ HI.out.r).mono ?_; rintro e w1 ⟨rfl, hb1⟩; have HF := Lib.hid (HI.out.below hb1).next; clear hb1)
            | (go_at_call 63; refine (top_none _ _ _ _ HF.out.r).mono ?_; rintro e w5 ⟨rfl, hb5⟩; have HF := Lib.hid (HF.out.below hb5); clear hb5)
            | (go_at_call 64; refine (texts_any _ _ _ _ ([]) HF.out.r (by have := HF.out.len; omega)).mono ?_; rintro e w6 ⟨v6, rfl, hs6, hb6⟩; have HF := Lib.hid (HF.out.below hb6); have hs6 : Sl w6 strC 1 v6 [] := hs6; obtain ⟨A6, c6, rfl⟩ := sl_none hs6; clear hs6 hb6))
          go_loopw [12] (fun i w' => ∃ j : Nat, j ≤ 0 ∧ i = .int .i64 j ∧ Drew w6 w') (fun i _ => 0 - (intOf i).toNat)
          case atStart => exact ⟨0, by omega, rfl, .refl _⟩
          case round =>
            obtain ⟨j, hj, rfl, nd, rfl⟩ := hrel
            go_wp2
            go_roundw
            case rel => exact ⟨k + 1, lv, [], .slice Ax 0 cx, by omega, rfl, by go_num, HF.out.below (below_drewN (Below.refl _ _) nd)⟩
            case measure => simp [intOf]; omega
      · as_aux_lemma =>
          have hq0 : (kind == 0) = false := by simpa using hk0
          have hq1 : (kind == 1) = false := by simpa using hk1
          have hq2 : (kind == 2) = false := by simpa using hk2
          clear hk0 hk1 hk2
          have HF := Lib.hid HI.out.next
          go_wp2_with (first
            | (go_at_call 63; refine (top_none _ _ _ _ HF.out.r).mono ?_; rintro e w5 ⟨rfl, hb5⟩; have HF := Lib.hid (HF.out.below hb5); clear hb5)
            | (go_at_call 64; refine (texts_any _ _ _ _ ([]) HF.out.r (by have := HF.out.len; omega)).mono ?_; rintro e w6 ⟨v6, rfl, hs6, hb6⟩; have HF := Lib.hid (HF.out.below hb6); have hs6 : Sl w6 strC 1 v6 [] := hs6; obtain ⟨A6, c6, rfl⟩ := sl_none hs6; clear hs6 hb6))
          go_loopw [12] (fun i w' => ∃ j : Nat, j ≤ 0 ∧ i = .int .i64 j ∧ Drew w6 w') (fun i _ => 0 - (intOf i).toNat)
          case atStart => exact ⟨0, by omega, rfl, .refl _⟩
          case round =>
            obtain ⟨j, hj, rfl, nd, rfl⟩ := hrel
            go_wp2
            go_roundw
            case rel => exact ⟨k + 1, lv, [], .slice Ax 0 cx, by omega, rfl, by go_num, HF.out.below (below_drewN (Below.refl _ _) nd)⟩
            case measure => simp [intOf]; omega
    | cons t r =>
      obtain rfl : ts = r.reverse ++ [t] := by rw [← List.reverse_reverse ts, hrev]; simp
      have hx := HI.out.x
      rw [rev_cons] at hx
      obtain ⟨gx, ox, cx, rfl, x61, x62, x63, x64⟩ := sl_parts (N := r.length) hx (by simp)
      have x0 := x64 0 _ rfl
      simp only [Nat.add_zero] at x0
      haveI : Old wr gx := ⟨x61⟩
      have hlr : r.length ≤ 19 := by have := HI.out.len; simp at this; omega
      have htl : t.length ≤ 100 * k := HI.out.tl t (by simp)
      have htl2 : t.length ≤ 6000 := by omega
      have HTL : Hid (∀ y ∈ r, y.length ≤ 100 * k) := fun y hy => HI.out.tl y (by simp [hy])
      clear hx hrev x64
      rcases hkind with rfl | rfl | rfl | ⟨hk0, hk1, hk2⟩
      · by_cases hs0 : s = []
        · as_aux_lemma =>
            subst hs0
            go_wp2_with (first
              | (go_at_call 61; refine (kill_nil _ _ _ _ (r.reverse ++ [t]) more HI.out.r).mono ?_; rintro e w1 ⟨rfl, lv1, hr1, hk1, hat1⟩; have HF := Lib.hid (HI.out.same hr1 hk1 hat1); clear hr1 hk1 hat1)
              | (go_at_call 63; refine (top_some _ _ _ _ (r.reverse) (t) HF.out.r (by simp; omega)).mono ?_; rintro e w5 ⟨rfl, hb5⟩; have HF := Lib.hid (HF.out.below hb5); clear hb5)
              | (go_at_call 64; refine (texts_any _ _ _ _ (r.reverse ++ [t]) HF.out.r (by have := HF.out.len; omega)).mono ?_; rintro e w6 ⟨v6, rfl, hs6, hb6⟩; have HF := Lib.hid (HF.out.below hb6); rw [rev_cons] at hs6; obtain ⟨g6, o6, c6, rfl, q61, q62, q63, q64⟩ := sl_parts (N := r.length) hs6 (by simp); have HS6 := Lib.hid q64; have hx6 := HF.out.x; rw [rev_cons] at hx6; obtain ⟨gy, oy, cy, ey, q71, q72, q73, q74⟩ := sl_parts (N := r.length) hx6 (by simp); injection ey with ey1 _ ey3; injection ey1 with ey1; cases ey1; subst ey3; have HY6 := Lib.hid q74; have y0 := q74 0 _ rfl; simp only [Nat.add_zero] at y0; clear hs6 hb6 hx6 q64 q74))
            go_loopw [12] (fun i w' => ∃ j : Nat, j ≤ r.length + 1 ∧ i = .int .i64 j ∧ Drew w6 w') (fun i _ => r.length + 1 - (intOf i).toNat)
            case atStart => exact ⟨0, by omega, rfl, .refl _⟩
            case round =>
              obtain ⟨j, hj, rfl, nd, rfl⟩ := hrel
              by_cases hlj : j < r.length + 1
              · obtain ⟨yy, hyy⟩ := get_some (show j < (t :: r).length by simp; omega)
                have z0 := HS6.out j yy hyy
                have z1 := HY6.out j yy hyy
                have hj0 : (0 : Int) ≤ (j : Int) := by omega
                have hj1 : (j : Int) < (((r.length + 1 : Nat) : Int) : Int) := by omega
                clear hyy
                go_wp2
                go_quiet (fail)
                go_wp2
                go_roundw
                case rel => exact ⟨j + 1, by omega, by go_num, nd + nq, rfl⟩
                case measure => simp [intOf]; omega
              · go_wp2
                go_roundw
                case rel => exact ⟨k + 1, lv1, r.reverse ++ [t], .slice (some ⟨gx, ox, none⟩) (r.length + 1) cx, by omega, rfl, by go_num, HF.out.below (below_drewN (Below.refl _ _) nd)⟩
                case measure => simp [intOf]; omega
        · have hse : (s == []) = false := by simpa using hs0
          have hse2 : s.isEmpty = false := by simpa using hs0
          have HS0 := Lib.hid hs0
          clear hs0
          rcases Int.lt_trichotomy more 0 with hm | hm | hm
          · as_aux_lemma =>
              have hmn : (more == 0) = false := by rw [beq_eq_false_iff_ne]; omega
              have hmp := no (show ¬ (0 : Int) < more by omega)
              go_wp2_with (first
                | (go_at_call 61; refine (kill_minus _ _ _ _ r.reverse t s more HI.out.r HS0.out hm (by simp; omega) (by omega) (by omega)).mono ?_; rintro e w1 ⟨rfl, lv1, hr1, hk1, hat1⟩; have HX1 := Lib.hid (HI.out.xKept hk1 (fun j hf => hf.imp id (·.1))); have HBL := Lib.hid (HI.out.blK hk1 (fun j hf => hf)); have HR1 := Lib.hid hr1; obtain ⟨f10, f11, f12⟩ := HC.out _ HBL.out; haveI : Old w1 b := ⟨Nat.lt_of_lt_of_le hb HBL.out.size⟩; have hx1 := HX1.out; rw [rev_cons] at hx1; obtain ⟨gz, oz, cz, ez, z1, z2, z3, z4⟩ := sl_parts (N := r.length) hx1 (by simp); injection ez with ez1 _ ez3; injection ez1 with ez1; cases ez1; subst ez3; have x01 := z4 0 _ rfl; simp only [Nat.add_zero] at x01; haveI : Old w1 gx := ⟨z1⟩; have HX2 := Lib.hid hx1; clear z4 hx1; clear hr1 hk1 hat1)
                | ((at_builtin; refine wpList_append_src _ rfl (.tmp 82) (.tmp 83) _ rfl w1.heap.size 9 i0 _ 1 16 Try.underlying22 hi0 hz00 hz01 hz02 rfl (by decide) _ 1 [.string (B (s ++ t))] rfl (own_one w1 w1.heap.size _ _ (Nat.le_refl _)) _ r.length (r.flatMap strC) rfl (by first | (rw [strC_flat, Nat.mul_one]; done) | (rw [strC_flat, Nat.mul_one]; rfl) | (simp; done)) (((sl_tl HX2.out).below (below_alloc (Below.refl _ _) _)).src strC_len) strC_one (by unfold maxLen; omega) (by omega) (by first | (simp; done) | omega | (simp; omega)) ?_; intro v2 w2 hown2 hg2 hat2 hty2; have HTY2 := Lib.hid hty2; clear hty2); obtain ⟨g1, o1, c1, rfl, q1, q2, hsl, hxo, hbl⟩ := fresh_x (r := r) (m := r.length) _ hown2 rfl hg2 hat2; have HF := Lib.hid (ringI_fresh (k := k) (ts' := r.reverse ++ [s ++ t]) HR1.out HBL.out hbl (by first | exact hsl | (rw [rev_cons]; exact hsl)) hxo (by first | (simp; done) | (simp; omega)) (tl_one HTL.out (by simp; omega))); clear hown2 hg2 hat2 hsl hxo hbl)
                | (go_at_call 63; refine (top_some _ _ _ _ (r.reverse) (s ++ t) HF.out.r (by simp; omega)).mono ?_; rintro e w5 ⟨rfl, hb5⟩; have HF := Lib.hid (HF.out.below hb5); clear hb5)
                | (go_at_call 64; refine (texts_any _ _ _ _ (r.reverse ++ [s ++ t]) HF.out.r (by have := HF.out.len; omega)).mono ?_; rintro e w6 ⟨v6, rfl, hs6, hb6⟩; have HF := Lib.hid (HF.out.below hb6); rw [rev_cons] at hs6; obtain ⟨g6, o6, c6, rfl, q61, q62, q63, q64⟩ := sl_parts (N := r.length) hs6 (by simp); have HS6 := Lib.hid q64; have hx6 := HF.out.x; rw [rev_cons] at hx6; obtain ⟨gy, oy, cy, ey, q71, q72, q73, q74⟩ := sl_parts (N := r.length) hx6 (by simp); injection ey with ey1 _ ey3; injection ey1 with ey1; cases ey1; subst ey3; have HY6 := Lib.hid q74; have y0 := q74 0 _ rfl; simp only [Nat.add_zero] at y0; clear hs6 hb6 hx6 q64 q74))
              all_goals
                go_loopw [12] (fun i w' => ∃ j : Nat, j ≤ r.length + 1 ∧ i = .int .i64 j ∧ Drew w6 w') (fun i _ => r.length + 1 - (intOf i).toNat)
                case atStart => exact ⟨0, by omega, rfl, .refl _⟩
                case round =>
                  obtain ⟨j, hj, rfl, nd, rfl⟩ := hrel
                  by_cases hlj : j < r.length + 1
                  · obtain ⟨yy, hyy⟩ := get_some (show j < ((s ++ t) :: r).length by simp; omega)
                    have z0 := HS6.out j yy hyy
                    have z1 := HY6.out j yy hyy
                    have hj0 : (0 : Int) ≤ (j : Int) := by omega
                    have hj1 : (j : Int) < (((r.length + 1 : Nat) : Int) : Int) := by omega
                    clear hyy
                    go_wp2
                    go_quiet (fail)
                    go_wp2
                    go_roundw
                    case rel => exact ⟨j + 1, by omega, by go_num, nd + nq, rfl⟩
                    case measure => simp [intOf]; omega
                  · go_wp2
                    go_roundw
                    case rel => exact ⟨k + 1, lv1, r.reverse ++ [s ++ t], .slice (some ⟨g1, o1, none⟩) (r.length + 1) c1, by omega, rfl, by go_num, HF.out.below (below_drewN (Below.refl _ _) nd)⟩
                    case measure => simp [intOf]; omega
          · as_aux_lemma =>
              subst hm
              have hz0 : True := trivial
              by_cases hr19 : r.length = 19
              · have hcut : (20 : Int) < (r.length : Int) + 1 + 1 := by omega
                have HCAP := Lib.hid (cap_full s t r)
                have HR2 := Lib.hid (show ((t :: r).take 19).length = 19 by rw [List.length_take]; simp; omega)
                have HTL2 : Hid (∀ y ∈ (t :: r).take 19, y.length ≤ 100 * k) := fun y hy => tl_cons htl HTL.out y (List.mem_of_mem_take hy)
                have HTK : Hid ((s :: t :: r).take 20 = s :: (t :: r).take 19) := rfl
                have HR19 := Lib.hid hr19
                clear hr19
                generalize hg19 : (t :: r).take 19 = r2 at *
                clear hg19
                go_wp2_with (first
                  | (go_at_call 61; refine (kill_add _ _ _ _ (r.reverse ++ [t]) s 0 HI.out.r HS0.out (.inr rfl) HI.out.len).mono ?_; rintro e w1 ⟨rfl, lv1, hr1, hk1, hat1⟩; rw [HCAP.out] at hr1; have HX1 := Lib.hid (HI.out.xKept hk1 (fun j hf => hf.imp id (·.1))); have HBL := Lib.hid (HI.out.blK hk1 (fun j hf => hf)); have HR1 := Lib.hid hr1; obtain ⟨f10, f11, f12⟩ := HC.out _ HBL.out; haveI : Old w1 b := ⟨Nat.lt_of_lt_of_le hb HBL.out.size⟩; have hx1 := HX1.out; rw [rev_cons] at hx1; obtain ⟨gz, oz, cz, ez, z1, z2, z3, z4⟩ := sl_parts (N := r.length) hx1 (by simp); injection ez with ez1 _ ez3; injection ez1 with ez1; cases ez1; subst ez3; have x01 := z4 0 _ rfl; simp only [Nat.add_zero] at x01; haveI : Old w1 gx := ⟨z1⟩; have HX2 := Lib.hid hx1; clear z4 hx1; clear hr1 hk1 hat1)
                  | ((at_builtin; refine wpList_append_src _ rfl (.tmp 82) (.tmp 83) _ rfl w1.heap.size 9 i0 _ 1 16 Try.underlying22 hi0 hz00 hz01 hz02 rfl (by decide) _ 1 [.string (B (s))] rfl (own_one w1 w1.heap.size _ _ (Nat.le_refl _)) _ (r.length + 1) ((t :: r).flatMap strC) rfl (by first | (rw [strC_flat, Nat.mul_one]; done) | (rw [strC_flat, Nat.mul_one]; rfl) | (simp; done)) ((HX2.out.below (below_alloc (Below.refl _ _) _)).src strC_len) strC_one (by unfold maxLen; omega) (by omega) (by first | (simp; done) | omega | (simp; omega)) ?_; intro v2 w2 hown2 hg2 hat2 hty2; have HTY2 := Lib.hid hty2; clear hty2); obtain ⟨g1, o1, c1, rfl, q1, q2, hsl, hxo, hbl⟩ := fresh_x (r := t :: r) (m := r.length + 1) _ hown2 rfl hg2 hat2; have hsl2 := sl_take hsl 20 (by have := HR19.out; omega) (by simp) (by omega); rw [HTK.out] at hsl2; have HF := Lib.hid (ringI_fresh (k := k) (x' := .slice (some ⟨g1, o1, none⟩) 20 c1) HR1.out HBL.out hbl (by rw [rev_cons]; exact hsl2) (fun j e => hxo j e) (by rw [List.length_append, List.length_reverse, HR2.out]; exact Nat.le_refl 20) (tl_one HTL2.out (by omega))); clear hown2 hg2 hat2 hsl hsl2 hxo hbl)
                  | (go_at_call 63; refine (top_some _ _ _ _ r2.reverse s HF.out.r (by rw [List.length_reverse, HR2.out]; omega)).mono ?_; rintro e w5 ⟨rfl, hb5⟩; have HF := Lib.hid (HF.out.below hb5); clear hb5)
                  | (go_at_call 64; refine (texts_any _ _ _ _ (r2.reverse ++ [s]) HF.out.r (by have := HF.out.len; omega)).mono ?_; rintro e w6 ⟨v6, rfl, hs6, hb6⟩; have HF := Lib.hid (HF.out.below hb6); rw [rev_cons] at hs6; obtain ⟨g6, o6, c6, rfl, q61, q62, q63, q64⟩ := sl_parts (N := 19) hs6 (by simp [HR2.out]); have HS6 := Lib.hid q64; have hx6 := HF.out.x; rw [rev_cons] at hx6; obtain ⟨gy, oy, cy, ey, q71, q72, q73, q74⟩ := sl_parts (N := 19) hx6 (by simp [HR2.out]); injection ey with ey1 _ ey3; injection ey1 with ey1; cases ey1; subst ey3; have HY6 := Lib.hid q74; have y0 := q74 0 _ rfl; simp only [Nat.add_zero] at y0; clear hs6 hb6 hx6 q64 q74))
                all_goals
                  go_loopw [12] (fun i w' => ∃ j : Nat, j ≤ 20 ∧ i = .int .i64 j ∧ Drew w6 w') (fun i _ => 20 - (intOf i).toNat)
                  case atStart => exact ⟨0, by omega, rfl, .refl _⟩
                  case round =>
                    obtain ⟨j, hj, rfl, nd, rfl⟩ := hrel
                    by_cases hlj : j < 20
                    · obtain ⟨yy, hyy⟩ := get_some (show j < (s :: r2).length by simp [HR2.out]; omega)
                      have z0 := HS6.out j yy hyy
                      have z1 := HY6.out j yy hyy
                      have hj0 : (0 : Int) ≤ (j : Int) := by omega
                      have hj1 : (j : Int) < (((20 : Nat) : Int) : Int) := by omega
                      clear hyy
                      go_wp2
                      go_quiet (fail)
                      go_wp2
                      go_roundw
                      case rel => exact ⟨j + 1, by omega, by go_num, nd + nq, rfl⟩
                      case measure => simp [intOf]; omega
                    · go_wp2
                      go_roundw
                      case rel => exact ⟨k + 1, lv1, r2.reverse ++ [s], .slice (some ⟨g1, o1, none⟩) 20 c1, by omega, rfl, by go_num, HF.out.below (below_drewN (Below.refl _ _) nd)⟩
                      case measure => simp [intOf]; omega
              · have hcut := no (show ¬ (20 : Int) < (r.length : Int) + 1 + 1 by omega)
                have HCAP := Lib.hid (cap_few s t r (by omega))
                go_wp2_with (first
                  | (go_at_call 61; refine (kill_add _ _ _ _ (r.reverse ++ [t]) s 0 HI.out.r HS0.out (.inr rfl) HI.out.len).mono ?_; rintro e w1 ⟨rfl, lv1, hr1, hk1, hat1⟩; rw [HCAP.out] at hr1; have HX1 := Lib.hid (HI.out.xKept hk1 (fun j hf => hf.imp id (·.1))); have HBL := Lib.hid (HI.out.blK hk1 (fun j hf => hf)); have HR1 := Lib.hid hr1; obtain ⟨f10, f11, f12⟩ := HC.out _ HBL.out; haveI : Old w1 b := ⟨Nat.lt_of_lt_of_le hb HBL.out.size⟩; have hx1 := HX1.out; rw [rev_cons] at hx1; obtain ⟨gz, oz, cz, ez, z1, z2, z3, z4⟩ := sl_parts (N := r.length) hx1 (by simp); injection ez with ez1 _ ez3; injection ez1 with ez1; cases ez1; subst ez3; have x01 := z4 0 _ rfl; simp only [Nat.add_zero] at x01; haveI : Old w1 gx := ⟨z1⟩; have HX2 := Lib.hid hx1; clear z4 hx1; clear hr1 hk1 hat1)
                  | ((at_builtin; refine wpList_append_src _ rfl (.tmp 82) (.tmp 83) _ rfl w1.heap.size 9 i0 _ 1 16 Try.underlying22 hi0 hz00 hz01 hz02 rfl (by decide) _ 1 [.string (B (s))] rfl (own_one w1 w1.heap.size _ _ (Nat.le_refl _)) _ (r.length + 1) ((t :: r).flatMap strC) rfl (by first | (rw [strC_flat, Nat.mul_one]; done) | (rw [strC_flat, Nat.mul_one]; rfl) | (simp; done)) ((HX2.out.below (below_alloc (Below.refl _ _) _)).src strC_len) strC_one (by unfold maxLen; omega) (by omega) (by first | (simp; done) | omega | (simp; omega)) ?_; intro v2 w2 hown2 hg2 hat2 hty2; have HTY2 := Lib.hid hty2; clear hty2); obtain ⟨g1, o1, c1, rfl, q1, q2, hsl, hxo, hbl⟩ := fresh_x (r := t :: r) (m := r.length + 1) _ hown2 rfl hg2 hat2; have HF := Lib.hid (ringI_fresh (k := k) (ts' := (t :: r).reverse ++ [s]) HR1.out HBL.out hbl (by rw [rev_cons]; exact hsl) hxo (by simp; omega) (tl_one (tl_cons htl HTL.out) (by omega))); clear hown2 hg2 hat2 hsl hxo hbl)
                  | (go_at_call 63; refine (top_some _ _ _ _ ((t :: r).reverse) (s) HF.out.r (by simp; omega)).mono ?_; rintro e w5 ⟨rfl, hb5⟩; have HF := Lib.hid (HF.out.below hb5); clear hb5)
                  | (go_at_call 64; refine (texts_any _ _ _ _ ((t :: r).reverse ++ [s]) HF.out.r (by have := HF.out.len; omega)).mono ?_; rintro e w6 ⟨v6, rfl, hs6, hb6⟩; have HF := Lib.hid (HF.out.below hb6); rw [rev_cons] at hs6; obtain ⟨g6, o6, c6, rfl, q61, q62, q63, q64⟩ := sl_parts (N := r.length + 1) hs6 (by simp); have HS6 := Lib.hid q64; have hx6 := HF.out.x; rw [rev_cons] at hx6; obtain ⟨gy, oy, cy, ey, q71, q72, q73, q74⟩ := sl_parts (N := r.length + 1) hx6 (by simp); injection ey with ey1 _ ey3; injection ey1 with ey1; cases ey1; subst ey3; have HY6 := Lib.hid q74; have y0 := q74 0 _ rfl; simp only [Nat.add_zero] at y0; clear hs6 hb6 hx6 q64 q74))
                all_goals
                  go_loopw [12] (fun i w' => ∃ j : Nat, j ≤ r.length + 1 + 1 ∧ i = .int .i64 j ∧ Drew w6 w') (fun i _ => r.length + 1 + 1 - (intOf i).toNat)
                  case atStart => exact ⟨0, by omega, rfl, .refl _⟩
                  case round =>
                    obtain ⟨j, hj, rfl, nd, rfl⟩ := hrel
                    by_cases hlj : j < r.length + 1 + 1
                    · obtain ⟨yy, hyy⟩ := get_some (show j < (s :: t :: r).length by simp; omega)
                      have z0 := HS6.out j yy hyy
                      have z1 := HY6.out j yy hyy
                      have hj0 : (0 : Int) ≤ (j : Int) := by omega
                      have hj1 : (j : Int) < (((r.length + 1 + 1 : Nat) : Int) : Int) := by omega
                      clear hyy
                      go_wp2
                      go_quiet (fail)
                      go_wp2
                      go_roundw
                      case rel => exact ⟨j + 1, by omega, by go_num, nd + nq, rfl⟩
                      case measure => simp [intOf]; omega
                    · go_wp2
                      go_roundw
                      case rel => exact ⟨k + 1, lv1, (t :: r).reverse ++ [s], .slice (some ⟨g1, o1, none⟩) (r.length + 1 + 1) c1, by omega, rfl, by go_num, HF.out.below (below_drewN (Below.refl _ _) nd)⟩
                      case measure => simp [intOf]; omega
          · as_aux_lemma =>
              have hmn : (more == 0) = false := by rw [beq_eq_false_iff_ne]; omega
              go_wp2_with (first
                | (go_at_call 61; refine (kill_plus _ _ _ _ r.reverse t s more HI.out.r HS0.out hm (by simp; omega) (by omega) (by omega)).mono ?_; rintro e w1 ⟨rfl, lv1, hr1, hk1, hat1⟩; have HX1 := Lib.hid (HI.out.xKept hk1 (fun j hf => hf.imp id (·.1))); have HBL := Lib.hid (HI.out.blK hk1 (fun j hf => hf)); have HR1 := Lib.hid hr1; obtain ⟨f10, f11, f12⟩ := HC.out _ HBL.out; haveI : Old w1 b := ⟨Nat.lt_of_lt_of_le hb HBL.out.size⟩; have hx1 := HX1.out; rw [rev_cons] at hx1; obtain ⟨gz, oz, cz, ez, z1, z2, z3, z4⟩ := sl_parts (N := r.length) hx1 (by simp); injection ez with ez1 _ ez3; injection ez1 with ez1; cases ez1; subst ez3; have x01 := z4 0 _ rfl; simp only [Nat.add_zero] at x01; haveI : Old w1 gx := ⟨z1⟩; have HX2 := Lib.hid hx1; clear z4 hx1; clear hr1 hk1 hat1)
                | ((at_builtin; refine wpList_append_src _ rfl (.tmp 82) (.tmp 83) _ rfl w1.heap.size 9 i0 _ 1 16 Try.underlying22 hi0 hz00 hz01 hz02 rfl (by decide) _ 1 [.string (B (t ++ s))] rfl (own_one w1 w1.heap.size _ _ (Nat.le_refl _)) _ r.length (r.flatMap strC) rfl (by first | (rw [strC_flat, Nat.mul_one]; done) | (rw [strC_flat, Nat.mul_one]; rfl) | (simp; done)) (((sl_tl HX2.out).below (below_alloc (Below.refl _ _) _)).src strC_len) strC_one (by unfold maxLen; omega) (by omega) (by first | (simp; done) | omega | (simp; omega)) ?_; intro v2 w2 hown2 hg2 hat2 hty2; have HTY2 := Lib.hid hty2; clear hty2); obtain ⟨g1, o1, c1, rfl, q1, q2, hsl, hxo, hbl⟩ := fresh_x (r := r) (m := r.length) _ hown2 rfl hg2 hat2; have HF := Lib.hid (ringI_fresh (k := k) (ts' := r.reverse ++ [t ++ s]) HR1.out HBL.out hbl (by first | exact hsl | (rw [rev_cons]; exact hsl)) hxo (by first | (simp; done) | (simp; omega)) (tl_one HTL.out (by simp; omega))); clear hown2 hg2 hat2 hsl hxo hbl)
                | (go_at_call 63; refine (top_some _ _ _ _ (r.reverse) (t ++ s) HF.out.r (by simp; omega)).mono ?_; rintro e w5 ⟨rfl, hb5⟩; have HF := Lib.hid (HF.out.below hb5); clear hb5)
                | (go_at_call 64; refine (texts_any _ _ _ _ (r.reverse ++ [t ++ s]) HF.out.r (by have := HF.out.len; omega)).mono ?_; rintro e w6 ⟨v6, rfl, hs6, hb6⟩; have HF := Lib.hid (HF.out.below hb6); rw [rev_cons] at hs6; obtain ⟨g6, o6, c6, rfl, q61, q62, q63, q64⟩ := sl_parts (N := r.length) hs6 (by simp); have HS6 := Lib.hid q64; have hx6 := HF.out.x; rw [rev_cons] at hx6; obtain ⟨gy, oy, cy, ey, q71, q72, q73, q74⟩ := sl_parts (N := r.length) hx6 (by simp); injection ey with ey1 _ ey3; injection ey1 with ey1; cases ey1; subst ey3; have HY6 := Lib.hid q74; have y0 := q74 0 _ rfl; simp only [Nat.add_zero] at y0; clear hs6 hb6 hx6 q64 q74))
              all_goals
                go_loopw [12] (fun i w' => ∃ j : Nat, j ≤ r.length + 1 ∧ i = .int .i64 j ∧ Drew w6 w') (fun i _ => r.length + 1 - (intOf i).toNat)
                case atStart => exact ⟨0, by omega, rfl, .refl _⟩
                case round =>
                  obtain ⟨j, hj, rfl, nd, rfl⟩ := hrel
                  by_cases hlj : j < r.length + 1
                  · obtain ⟨yy, hyy⟩ := get_some (show j < ((t ++ s) :: r).length by simp; omega)
                    have z0 := HS6.out j yy hyy
                    have z1 := HY6.out j yy hyy
                    have hj0 : (0 : Int) ≤ (j : Int) := by omega
                    have hj1 : (j : Int) < (((r.length + 1 : Nat) : Int) : Int) := by omega
                    clear hyy
                    go_wp2
                    go_quiet (fail)
                    go_wp2
                    go_roundw
                    case rel => exact ⟨j + 1, by omega, by go_num, nd + nq, rfl⟩
                    case measure => simp [intOf]; omega
                  · go_wp2
                    go_roundw
                    case rel => exact ⟨k + 1, lv1, r.reverse ++ [t ++ s], .slice (some ⟨g1, o1, none⟩) (r.length + 1) c1, by omega, rfl, by go_num, HF.out.below (below_drewN (Below.refl _ _) nd)⟩
                    case measure => simp [intOf]; omega
      · by_cases hs0 : s = []
        · as_aux_lemma =>
            subst hs0
            go_wp2_with (first
              | (go_at_call 61; refine (kill_nil _ _ _ _ (r.reverse ++ [t]) more HI.out.r).mono ?_; rintro e w1 ⟨rfl, lv1, hr1, hk1, hat1⟩; have HF := Lib.hid (HI.out.same hr1 hk1 hat1); clear hr1 hk1 hat1)
              | (go_at_call 63; refine (top_some _ _ _ _ (r.reverse) (t) HF.out.r (by simp; omega)).mono ?_; rintro e w5 ⟨rfl, hb5⟩; have HF := Lib.hid (HF.out.below hb5); clear hb5)
              | (go_at_call 64; refine (texts_any _ _ _ _ (r.reverse ++ [t]) HF.out.r (by have := HF.out.len; omega)).mono ?_; rintro e w6 ⟨v6, rfl, hs6, hb6⟩; have HF := Lib.hid (HF.out.below hb6); rw [rev_cons] at hs6; obtain ⟨g6, o6, c6, rfl, q61, q62, q63, q64⟩ := sl_parts (N := r.length) hs6 (by simp); have HS6 := Lib.hid q64; have hx6 := HF.out.x; rw [rev_cons] at hx6; obtain ⟨gy, oy, cy, ey, q71, q72, q73, q74⟩ := sl_parts (N := r.length) hx6 (by simp); injection ey with ey1 _ ey3; injection ey1 with ey1; cases ey1; subst ey3; have HY6 := Lib.hid q74; have y0 := q74 0 _ rfl; simp only [Nat.add_zero] at y0; clear hs6 hb6 hx6 q64 q74))
            go_loopw [12] (fun i w' => ∃ j : Nat, j ≤ r.length + 1 ∧ i = .int .i64 j ∧ Drew w6 w') (fun i _ => r.length + 1 - (intOf i).toNat)
            case atStart => exact ⟨0, by omega, rfl, .refl _⟩
            case round =>
              obtain ⟨j, hj, rfl, nd, rfl⟩ := hrel
              by_cases hlj : j < r.length + 1
              · obtain ⟨yy, hyy⟩ := get_some (show j < (t :: r).length by simp; omega)
                have z0 := HS6.out j yy hyy
                have z1 := HY6.out j yy hyy
                have hj0 : (0 : Int) ≤ (j : Int) := by omega
                have hj1 : (j : Int) < (((r.length + 1 : Nat) : Int) : Int) := by omega
                clear hyy
                go_wp2
                go_quiet (fail)
                go_wp2
                go_roundw
                case rel => exact ⟨j + 1, by omega, by go_num, nd + nq, rfl⟩
                case measure => simp [intOf]; omega
              · go_wp2
                go_roundw
                case rel => exact ⟨k + 1, lv1, r.reverse ++ [t], .slice (some ⟨gx, ox, none⟩) (r.length + 1) cx, by omega, rfl, by go_num, HF.out.below (below_drewN (Below.refl _ _) nd)⟩
                case measure => simp [intOf]; omega
        · have hse : (s == []) = false := by simpa using hs0
          have hse2 : s.isEmpty = false := by simpa using hs0
          have HS0 := Lib.hid hs0
          clear hs0
          rcases Int.lt_trichotomy more 0 with hm | hm | hm
          · as_aux_lemma =>
              have hmn : (more == 0) = false := by rw [beq_eq_false_iff_ne]; omega
              have hmp := no (show ¬ (0 : Int) < more by omega)
              go_wp2_with (first
                | (go_at_call 61; refine (kill_minus _ _ _ _ r.reverse t s more HI.out.r HS0.out hm (by simp; omega) (by omega) (by omega)).mono ?_; rintro e w1 ⟨rfl, lv1, hr1, hk1, hat1⟩; have HX1 := Lib.hid (HI.out.xKept hk1 (fun j hf => hf.imp id (·.1))); have HBL := Lib.hid (HI.out.blK hk1 (fun j hf => hf)); have HR1 := Lib.hid hr1; obtain ⟨f10, f11, f12⟩ := HC.out _ HBL.out; haveI : Old w1 b := ⟨Nat.lt_of_lt_of_le hb HBL.out.size⟩; have hx1 := HX1.out; rw [rev_cons] at hx1; obtain ⟨gz, oz, cz, ez, z1, z2, z3, z4⟩ := sl_parts (N := r.length) hx1 (by simp); injection ez with ez1 _ ez3; injection ez1 with ez1; cases ez1; subst ez3; have x01 := z4 0 _ rfl; simp only [Nat.add_zero] at x01; haveI : Old w1 gx := ⟨z1⟩; have HX2 := Lib.hid hx1; clear z4 hx1; clear hr1 hk1 hat1)
                | ((at_builtin; refine wpList_append_src _ rfl (.tmp 82) (.tmp 83) _ rfl w1.heap.size 9 i0 _ 1 16 Try.underlying22 hi0 hz00 hz01 hz02 rfl (by decide) _ 1 [.string (B (s ++ t))] rfl (own_one w1 w1.heap.size _ _ (Nat.le_refl _)) _ r.length (r.flatMap strC) rfl (by first | (rw [strC_flat, Nat.mul_one]; done) | (rw [strC_flat, Nat.mul_one]; rfl) | (simp; done)) (((sl_tl HX2.out).below (below_alloc (Below.refl _ _) _)).src strC_len) strC_one (by unfold maxLen; omega) (by omega) (by first | (simp; done) | omega | (simp; omega)) ?_; intro v2 w2 hown2 hg2 hat2 hty2; have HTY2 := Lib.hid hty2; clear hty2); obtain ⟨g1, o1, c1, rfl, q1, q2, hsl, hxo, hbl⟩ := fresh_x (r := r) (m := r.length) _ hown2 rfl hg2 hat2; have HF := Lib.hid (ringI_fresh (k := k) (ts' := r.reverse ++ [s ++ t]) HR1.out HBL.out hbl (by first | exact hsl | (rw [rev_cons]; exact hsl)) hxo (by first | (simp; done) | (simp; omega)) (tl_one HTL.out (by simp; omega))); clear hown2 hg2 hat2 hsl hxo hbl)
                | (go_at_call 63; refine (top_some _ _ _ _ (r.reverse) (s ++ t) HF.out.r (by simp; omega)).mono ?_; rintro e w5 ⟨rfl, hb5⟩; have HF := Lib.hid (HF.out.below hb5); clear hb5)
                | (go_at_call 64; refine (texts_any _ _ _ _ (r.reverse ++ [s ++ t]) HF.out.r (by have := HF.out.len; omega)).mono ?_; rintro e w6 ⟨v6, rfl, hs6, hb6⟩; have HF := Lib.hid (HF.out.below hb6); rw [rev_cons] at hs6; obtain ⟨g6, o6, c6, rfl, q61, q62, q63, q64⟩ := sl_parts (N := r.length) hs6 (by simp); have HS6 := Lib.hid q64; have hx6 := HF.out.x; rw [rev_cons] at hx6; obtain ⟨gy, oy, cy, ey, q71, q72, q73, q74⟩ := sl_parts (N := r.length) hx6 (by simp); injection ey with ey1 _ ey3; injection ey1 with ey1; cases ey1; subst ey3; have HY6 := Lib.hid q74; have y0 := q74 0 _ rfl; simp only [Nat.add_zero] at y0; clear hs6 hb6 hx6 q64 q74))
              all_goals
                go_loopw [12] (fun i w' => ∃ j : Nat, j ≤ r.length + 1 ∧ i = .int .i64 j ∧ Drew w6 w') (fun i _ => r.length + 1 - (intOf i).toNat)
                case atStart => exact ⟨0, by omega, rfl, .refl _⟩
                case round =>
                  obtain ⟨j, hj, rfl, nd, rfl⟩ := hrel
                  by_cases hlj : j < r.length + 1
                  · obtain ⟨yy, hyy⟩ := get_some (show j < ((s ++ t) :: r).length by simp; omega)
                    have z0 := HS6.out j yy hyy
                    have z1 := HY6.out j yy hyy
                    have hj0 : (0 : Int) ≤ (j : Int) := by omega
                    have hj1 : (j : Int) < (((r.length + 1 : Nat) : Int) : Int) := by omega
                    clear hyy
                    go_wp2
                    go_quiet (fail)
                    go_wp2
                    go_roundw
                    case rel => exact ⟨j + 1, by omega, by go_num, nd + nq, rfl⟩
                    case measure => simp [intOf]; omega
                  · go_wp2
                    go_roundw
                    case rel => exact ⟨k + 1, lv1, r.reverse ++ [s ++ t], .slice (some ⟨g1, o1, none⟩) (r.length + 1) c1, by omega, rfl, by go_num, HF.out.below (below_drewN (Below.refl _ _) nd)⟩
                    case measure => simp [intOf]; omega
          · as_aux_lemma =>
              subst hm
              have hz0 : True := trivial
              by_cases hr19 : r.length = 19
              · have hcut : (20 : Int) < (r.length : Int) + 1 + 1 := by omega
                have HCAP := Lib.hid (cap_full s t r)
                have HR2 := Lib.hid (show ((t :: r).take 19).length = 19 by rw [List.length_take]; simp; omega)
                have HTL2 : Hid (∀ y ∈ (t :: r).take 19, y.length ≤ 100 * k) := fun y hy => tl_cons htl HTL.out y (List.mem_of_mem_take hy)
                have HTK : Hid ((s :: t :: r).take 20 = s :: (t :: r).take 19) := rfl
                have HR19 := Lib.hid hr19
                clear hr19
                generalize hg19 : (t :: r).take 19 = r2 at *
                clear hg19
                go_wp2_with (first
                  | (go_at_call 61; refine (kill_add _ _ _ _ (r.reverse ++ [t]) s 0 HI.out.r HS0.out (.inr rfl) HI.out.len).mono ?_; rintro e w1 ⟨rfl, lv1, hr1, hk1, hat1⟩; rw [HCAP.out] at hr1; have HX1 := Lib.hid (HI.out.xKept hk1 (fun j hf => hf.imp id (·.1))); have HBL := Lib.hid (HI.out.blK hk1 (fun j hf => hf)); have HR1 := Lib.hid hr1; obtain ⟨f10, f11, f12⟩ := HC.out _ HBL.out; haveI : Old w1 b := ⟨Nat.lt_of_lt_of_le hb HBL.out.size⟩; have hx1 := HX1.out; rw [rev_cons] at hx1; obtain ⟨gz, oz, cz, ez, z1, z2, z3, z4⟩ := sl_parts (N := r.length) hx1 (by simp); injection ez with ez1 _ ez3; injection ez1 with ez1; cases ez1; subst ez3; have x01 := z4 0 _ rfl; simp only [Nat.add_zero] at x01; haveI : Old w1 gx := ⟨z1⟩; have HX2 := Lib.hid hx1; clear z4 hx1; clear hr1 hk1 hat1)
                  | ((at_builtin; refine wpList_append_src _ rfl (.tmp 82) (.tmp 83) _ rfl w1.heap.size 9 i0 _ 1 16 Try.underlying22 hi0 hz00 hz01 hz02 rfl (by decide) _ 1 [.string (B (s))] rfl (own_one w1 w1.heap.size _ _ (Nat.le_refl _)) _ (r.length + 1) ((t :: r).flatMap strC) rfl (by first | (rw [strC_flat, Nat.mul_one]; done) | (rw [strC_flat, Nat.mul_one]; rfl) | (simp; done)) ((HX2.out.below (below_alloc (Below.refl _ _) _)).src strC_len) strC_one (by unfold maxLen; omega) (by omega) (by first | (simp; done) | omega | (simp; omega)) ?_; intro v2 w2 hown2 hg2 hat2 hty2; have HTY2 := Lib.hid hty2; clear hty2); obtain ⟨g1, o1, c1, rfl, q1, q2, hsl, hxo, hbl⟩ := fresh_x (r := t :: r) (m := r.length + 1) _ hown2 rfl hg2 hat2; have hsl2 := sl_take hsl 20 (by have := HR19.out; omega) (by simp) (by omega); rw [HTK.out] at hsl2; have HF := Lib.hid (ringI_fresh (k := k) (x' := .slice (some ⟨g1, o1, none⟩) 20 c1) HR1.out HBL.out hbl (by rw [rev_cons]; exact hsl2) (fun j e => hxo j e) (by rw [List.length_append, List.length_reverse, HR2.out]; exact Nat.le_refl 20) (tl_one HTL2.out (by omega))); clear hown2 hg2 hat2 hsl hsl2 hxo hbl)
                  | (go_at_call 63; refine (top_some _ _ _ _ r2.reverse s HF.out.r (by rw [List.length_reverse, HR2.out]; omega)).mono ?_; rintro e w5 ⟨rfl, hb5⟩; have HF := Lib.hid (HF.out.below hb5); clear hb5)
                  | (go_at_call 64; refine (texts_any _ _ _ _ (r2.reverse ++ [s]) HF.out.r (by have := HF.out.len; omega)).mono ?_; rintro e w6 ⟨v6, rfl, hs6, hb6⟩; have HF := Lib.hid (HF.out.below hb6); rw [rev_cons] at hs6; obtain ⟨g6, o6, c6, rfl, q61, q62, q63, q64⟩ := sl_parts (N := 19) hs6 (by simp [HR2.out]); have HS6 := Lib.hid q64; have hx6 := HF.out.x; rw [rev_cons] at hx6; obtain ⟨gy, oy, cy, ey, q71, q72, q73, q74⟩ := sl_parts (N := 19) hx6 (by simp [HR2.out]); injection ey with ey1 _ ey3; injection ey1 with ey1; cases ey1; subst ey3; have HY6 := Lib.hid q74; have y0 := q74 0 _ rfl; simp only [Nat.add_zero] at y0; clear hs6 hb6 hx6 q64 q74))
                all_goals
                  go_loopw [12] (fun i w' => ∃ j : Nat, j ≤ 20 ∧ i = .int .i64 j ∧ Drew w6 w') (fun i _ => 20 - (intOf i).toNat)
                  case atStart => exact ⟨0, by omega, rfl, .refl _⟩
                  case round =>
                    obtain ⟨j, hj, rfl, nd, rfl⟩ := hrel
                    by_cases hlj : j < 20
                    · obtain ⟨yy, hyy⟩ := get_some (show j < (s :: r2).length by simp [HR2.out]; omega)
                      have z0 := HS6.out j yy hyy
                      have z1 := HY6.out j yy hyy
                      have hj0 : (0 : Int) ≤ (j : Int) := by omega
                      have hj1 : (j : Int) < (((20 : Nat) : Int) : Int) := by omega
                      clear hyy
                      go_wp2
                      go_quiet (fail)
                      go_wp2
                      go_roundw
                      case rel => exact ⟨j + 1, by omega, by go_num, nd + nq, rfl⟩
                      case measure => simp [intOf]; omega
                    · go_wp2
                      go_roundw
                      case rel => exact ⟨k + 1, lv1, r2.reverse ++ [s], .slice (some ⟨g1, o1, none⟩) 20 c1, by omega, rfl, by go_num, HF.out.below (below_drewN (Below.refl _ _) nd)⟩
                      case measure => simp [intOf]; omega
              · have hcut := no (show ¬ (20 : Int) < (r.length : Int) + 1 + 1 by omega)
                have HCAP := Lib.hid (cap_few s t r (by omega))
                go_wp2_with (first
                  | (go_at_call 61; refine (kill_add _ _ _ _ (r.reverse ++ [t]) s 0 HI.out.r HS0.out (.inr rfl) HI.out.len).mono ?_; rintro e w1 ⟨rfl, lv1, hr1, hk1, hat1⟩; rw [HCAP.out] at hr1; have HX1 := Lib.hid (HI.out.xKept hk1 (fun j hf => hf.imp id (·.1))); have HBL := Lib.hid (HI.out.blK hk1 (fun j hf => hf)); have HR1 := Lib.hid hr1; obtain ⟨f10, f11, f12⟩ := HC.out _ HBL.out; haveI : Old w1 b := ⟨Nat.lt_of_lt_of_le hb HBL.out.size⟩; have hx1 := HX1.out; rw [rev_cons] at hx1; obtain ⟨gz, oz, cz, ez, z1, z2, z3, z4⟩ := sl_parts (N := r.length) hx1 (by simp); injection ez with ez1 _ ez3; injection ez1 with ez1; cases ez1; subst ez3; have x01 := z4 0 _ rfl; simp only [Nat.add_zero] at x01; haveI : Old w1 gx := ⟨z1⟩; have HX2 := Lib.hid hx1; clear z4 hx1; clear hr1 hk1 hat1)
                  | ((at_builtin; refine wpList_append_src _ rfl (.tmp 82) (.tmp 83) _ rfl w1.heap.size 9 i0 _ 1 16 Try.underlying22 hi0 hz00 hz01 hz02 rfl (by decide) _ 1 [.string (B (s))] rfl (own_one w1 w1.heap.size _ _ (Nat.le_refl _)) _ (r.length + 1) ((t :: r).flatMap strC) rfl (by first | (rw [strC_flat, Nat.mul_one]; done) | (rw [strC_flat, Nat.mul_one]; rfl) | (simp; done)) ((HX2.out.below (below_alloc (Below.refl _ _) _)).src strC_len) strC_one (by unfold maxLen; omega) (by omega) (by first | (simp; done) | omega | (simp; omega)) ?_; intro v2 w2 hown2 hg2 hat2 hty2; have HTY2 := Lib.hid hty2; clear hty2); obtain ⟨g1, o1, c1, rfl, q1, q2, hsl, hxo, hbl⟩ := fresh_x (r := t :: r) (m := r.length + 1) _ hown2 rfl hg2 hat2; have HF := Lib.hid (ringI_fresh (k := k) (ts' := (t :: r).reverse ++ [s]) HR1.out HBL.out hbl (by rw [rev_cons]; exact hsl) hxo (by simp; omega) (tl_one (tl_cons htl HTL.out) (by omega))); clear hown2 hg2 hat2 hsl hxo hbl)
                  | (go_at_call 63; refine (top_some _ _ _ _ ((t :: r).reverse) (s) HF.out.r (by simp; omega)).mono ?_; rintro e w5 ⟨rfl, hb5⟩; have HF := Lib.hid (HF.out.below hb5); clear hb5)
                  | (go_at_call 64; refine (texts_any _ _ _ _ ((t :: r).reverse ++ [s]) HF.out.r (by have := HF.out.len; omega)).mono ?_; rintro e w6 ⟨v6, rfl, hs6, hb6⟩; have HF := Lib.hid (HF.out.below hb6); rw [rev_cons] at hs6; obtain ⟨g6, o6, c6, rfl, q61, q62, q63, q64⟩ := sl_parts (N := r.length + 1) hs6 (by simp); have HS6 := Lib.hid q64; have hx6 := HF.out.x; rw [rev_cons] at hx6; obtain ⟨gy, oy, cy, ey, q71, q72, q73, q74⟩ := sl_parts (N := r.length + 1) hx6 (by simp); injection ey with ey1 _ ey3; injection ey1 with ey1; cases ey1; subst ey3; have HY6 := Lib.hid q74; have y0 := q74 0 _ rfl; simp only [Nat.add_zero] at y0; clear hs6 hb6 hx6 q64 q74))
                all_goals
                  go_loopw [12] (fun i w' => ∃ j : Nat, j ≤ r.length + 1 + 1 ∧ i = .int .i64 j ∧ Drew w6 w') (fun i _ => r.length + 1 + 1 - (intOf i).toNat)
                  case atStart => exact ⟨0, by omega, rfl, .refl _⟩
                  case round =>
                    obtain ⟨j, hj, rfl, nd, rfl⟩ := hrel
                    by_cases hlj : j < r.length + 1 + 1
                    · obtain ⟨yy, hyy⟩ := get_some (show j < (s :: t :: r).length by simp; omega)
                      have z0 := HS6.out j yy hyy
                      have z1 := HY6.out j yy hyy
                      have hj0 : (0 : Int) ≤ (j : Int) := by omega
                      have hj1 : (j : Int) < (((r.length + 1 + 1 : Nat) : Int) : Int) := by omega
                      clear hyy
                      go_wp2
                      go_quiet (fail)
                      go_wp2
                      go_roundw
                      case rel => exact ⟨j + 1, by omega, by go_num, nd + nq, rfl⟩
                      case measure => simp [intOf]; omega
                    · go_wp2
                      go_roundw
                      case rel => exact ⟨k + 1, lv1, (t :: r).reverse ++ [s], .slice (some ⟨g1, o1, none⟩) (r.length + 1 + 1) c1, by omega, rfl, by go_num, HF.out.below (below_drewN (Below.refl _ _) nd)⟩
                      case measure => simp [intOf]; omega
          · as_aux_lemma =>
              have hmn : (more == 0) = false := by rw [beq_eq_false_iff_ne]; omega
              go_wp2_with (first
                | (go_at_call 61; refine (kill_plus _ _ _ _ r.reverse t s more HI.out.r HS0.out hm (by simp; omega) (by omega) (by omega)).mono ?_; rintro e w1 ⟨rfl, lv1, hr1, hk1, hat1⟩; have HX1 := Lib.hid (HI.out.xKept hk1 (fun j hf => hf.imp id (·.1))); have HBL := Lib.hid (HI.out.blK hk1 (fun j hf => hf)); have HR1 := Lib.hid hr1; obtain ⟨f10, f11, f12⟩ := HC.out _ HBL.out; haveI : Old w1 b := ⟨Nat.lt_of_lt_of_le hb HBL.out.size⟩; have hx1 := HX1.out; rw [rev_cons] at hx1; obtain ⟨gz, oz, cz, ez, z1, z2, z3, z4⟩ := sl_parts (N := r.length) hx1 (by simp); injection ez with ez1 _ ez3; injection ez1 with ez1; cases ez1; subst ez3; have x01 := z4 0 _ rfl; simp only [Nat.add_zero] at x01; haveI : Old w1 gx := ⟨z1⟩; have HX2 := Lib.hid hx1; clear z4 hx1; clear hr1 hk1 hat1)
                | ((at_builtin; refine wpList_append_src _ rfl (.tmp 82) (.tmp 83) _ rfl w1.heap.size 9 i0 _ 1 16 Try.underlying22 hi0 hz00 hz01 hz02 rfl (by decide) _ 1 [.string (B (t ++ s))] rfl (own_one w1 w1.heap.size _ _ (Nat.le_refl _)) _ r.length (r.flatMap strC) rfl (by first | (rw [strC_flat, Nat.mul_one]; done) | (rw [strC_flat, Nat.mul_one]; rfl) | (simp; done)) (((sl_tl HX2.out).below (below_alloc (Below.refl _ _) _)).src strC_len) strC_one (by unfold maxLen; omega) (by omega) (by first | (simp; done) | omega | (simp; omega)) ?_; intro v2 w2 hown2 hg2 hat2 hty2; have HTY2 := Lib.hid hty2; clear hty2); obtain ⟨g1, o1, c1, rfl, q1, q2, hsl, hxo, hbl⟩ := fresh_x (r := r) (m := r.length) _ hown2 rfl hg2 hat2; have HF := Lib.hid (ringI_fresh (k := k) (ts' := r.reverse ++ [t ++ s]) HR1.out HBL.out hbl (by first | exact hsl | (rw [rev_cons]; exact hsl)) hxo (by first | (simp; done) | (simp; omega)) (tl_one HTL.out (by simp; omega))); clear hown2 hg2 hat2 hsl hxo hbl)
                | (go_at_call 63; refine (top_some _ _ _ _ (r.reverse) (t ++ s) HF.out.r (by simp; omega)).mono ?_; rintro e w5 ⟨rfl, hb5⟩; have HF := Lib.hid (HF.out.below hb5); clear hb5)
                | (go_at_call 64; refine (texts_any _ _ _ _ (r.reverse ++ [t ++ s]) HF.out.r (by have := HF.out.len; omega)).mono ?_; rintro e w6 ⟨v6, rfl, hs6, hb6⟩; have HF := Lib.hid (HF.out.below hb6); rw [rev_cons] at hs6; obtain ⟨g6, o6, c6, rfl, q61, q62, q63, q64⟩ := sl_parts (N := r.length) hs6 (by simp); have HS6 := Lib.hid q64; have hx6 := HF.out.x; rw [rev_cons] at hx6; obtain ⟨gy, oy, cy, ey, q71, q72, q73, q74⟩ := sl_parts (N := r.length) hx6 (by simp); injection ey with ey1 _ ey3; injection ey1 with ey1; cases ey1; subst ey3; have HY6 := Lib.hid q74; have y0 := q74 0 _ rfl; simp only [Nat.add_zero] at y0; clear hs6 hb6 hx6 q64 q74))
              all_goals
                go_loopw [12] (fun i w' => ∃ j : Nat, j ≤ r.length + 1 ∧ i = .int .i64 j ∧ Drew w6 w') (fun i _ => r.length + 1 - (intOf i).toNat)
                case atStart => exact ⟨0, by omega, rfl, .refl _⟩
                case round =>
                  obtain ⟨j, hj, rfl, nd, rfl⟩ := hrel
                  by_cases hlj : j < r.length + 1
                  · obtain ⟨yy, hyy⟩ := get_some (show j < ((t ++ s) :: r).length by simp; omega)
                    have z0 := HS6.out j yy hyy
                    have z1 := HY6.out j yy hyy
                    have hj0 : (0 : Int) ≤ (j : Int) := by omega
                    have hj1 : (j : Int) < (((r.length + 1 : Nat) : Int) : Int) := by omega
                    clear hyy
                    go_wp2
                    go_quiet (fail)
                    go_wp2
                    go_roundw
                    case rel => exact ⟨j + 1, by omega, by go_num, nd + nq, rfl⟩
                    case measure => simp [intOf]; omega
                  · go_wp2
                    go_roundw
                    case rel => exact ⟨k + 1, lv1, r.reverse ++ [t ++ s], .slice (some ⟨g1, o1, none⟩) (r.length + 1) c1, by omega, rfl, by go_num, HF.out.below (below_drewN (Below.refl _ _) nd)⟩
                    case measure => simp [intOf]; omega
      · as_aux_lemma =>
          have hturn29 : True := trivial
          obtain ⟨t2, r2, h2, hr2⟩ := turn_ex t r
          have H2 := Lib.hid h2
          have H2R := Lib.hid (turn_rows h2)
          have hlr2 : r2.length ≤ 19 := by omega
          clear h2 hr2
          go_wp2_with (first
            | (go_at_call 62; refine (turn_some _ _ _ _ r.reverse r2.reverse t t2 HI.out.r (by simp; omega) H2R.out).mono ?_; rintro e w1 ⟨rfl, lv1, hr1, hk1, hat1⟩; rw [H2R.out] at hr1; have hx1 := HI.out.xKept hk1 (fun j hf => .inl hf); rw [rev_cons] at hx1; have HX1 := Lib.hid hx1; have HBL := Lib.hid (HI.out.blK hk1 (fun j hf => .inl hf)); have HR1 := Lib.hid hr1; have hgx1 : gx < w1.heap.size := Nat.lt_of_lt_of_le x61 hk1.size; obtain ⟨f10, f11, f12⟩ := HC.out _ HBL.out; haveI : Old w1 b := ⟨Nat.lt_of_lt_of_le hb HBL.out.size⟩; clear hr1 hk1 hat1 hx1))
          refine wp_region_keyed (fun W => W.cell? ⟨gx, ox, none⟩ = some (.string (B t))) [] (by kernel_rfl) ?_
          have hsl1 : (1 : Int) ≤ (r.length : Int) + 1 := by omega
          have HX := Lib.hid (R29.mk (HX1.out.below (below_drew (Below.refl _ _))) (below_drew (Below.refl _ _)) hgx1)
          generalize w1.drew = Wc at *
          refine wpAnyK_take (i := 1) (v := ?v1_1) rfl (by kernel_rfl) (by kernel_rfl) (by kernel_rfl) (by kernel_rfl) (fun _ _ _ h => h) (Or.inl ⟨by rfl, ?y1_1⟩) (fun _ => HX.out.head) ?r1_1
          case y1_1 =>
            intro w hSw
            go_simp
            try with_reducible rfl
          try simp only [Act.put, List.setIfInBounds_toArray, List.set_cons_zero, List.set_cons_succ]
          refine wpAnyK_take (i := 2) (v := ?v2_2) rfl (by kernel_rfl) (by kernel_rfl) (by kernel_rfl) (by kernel_rfl) (fun _ _ _ h => h) (Or.inl ⟨by rfl, ?y2_2⟩) (fun _ => HX.out.head) ?r2_2
          case y2_2 =>
            intro w hSw
            go_simp
            try with_reducible rfl
          try simp only [Act.put, List.setIfInBounds_toArray, List.set_cons_zero, List.set_cons_succ]
          refine wpAnyK_take (i := 4) (v := ?v4_3) rfl (by kernel_rfl) (by kernel_rfl) (by kernel_rfl) (by kernel_rfl) (fun _ _ _ h => h) (Or.inl ⟨by rfl, ?y4_3⟩) (fun _ => HX.out.head) ?r4_3
          case y4_3 =>
            intro w hSw
            go_simp
            try with_reducible rfl
          try simp only [Act.put, List.setIfInBounds_toArray, List.set_cons_zero, List.set_cons_succ]
          refine wpAnyK_take (i := 5) (v := ?v5_4) rfl (by kernel_rfl) (by kernel_rfl) (by kernel_rfl) (by kernel_rfl) (fun _ _ _ h => h) (Or.inl ⟨by rfl, ?y5_4⟩) (fun _ => HX.out.head) ?r5_4
          case y5_4 =>
            intro w hSw
            go_simp
            try with_reducible rfl
          try simp only [Act.put, List.setIfInBounds_toArray, List.set_cons_zero, List.set_cons_succ]
          refine wpAnyK_load (i := 6) [7, 8, 9] (v := ?v6_5) rfl (by kernel_rfl) (by kernel_rfl) (by kernel_rfl) (by kernel_rfl) (by kernel_rfl) (fun _ _ _ h => h) (Or.inl ⟨by rfl, ?y6_5⟩) (fun _ => HX.out.head) ?r6_5
          case y6_5 =>
            intro w hSw
            (try dsimp only at hSw)
            go_split_ands
            go_simp
            try with_reducible rfl
          try simp only [Act.put, List.setIfInBounds_toArray, List.set_cons_zero, List.set_cons_succ]
          refine wpAnyK_ready (rs := [0, 7]) (by kernel_rfl) (by simp) ?_
          refine AllReadyK.cons (i := 0) rfl (fun K hK => ?_) ?_
          · go_simp
            have HX := Lib.hid (HX.out.alloc (.cells #[] 9))
            have HO : Hid (Own (Wc.alloc (.cells #[] 9)) w1.heap.size 1 (.slice (some ⟨Wc.heap.size, 0, none⟩) 0 0) 0 []) := Own.none_ _ _ _ _ _ (by simp)
            try have hne : g7 ≠ Wc.heap.size := by have := H7.out.lt; omega
            try have H7 := Lib.hid (H7.out.alloc (.cells #[] 9))
            generalize Wc.heap.size = g0 at *
            generalize Wc.alloc (.cells #[] 9) = Wc at *
            refine hK.out _ _ (fun _ => HX.out.head) ?_
            clear hK K
            try simp only [Act.put, List.setIfInBounds_toArray, List.set_cons_zero, List.set_cons_succ]
            refine wpAnyK_ready (rs := [3, 7]) (by kernel_rfl) (by simp) ?_
            refine AllReadyK.cons (i := 3) rfl (fun K hK => ?_) ?_
            · have hbz := HX.out.b.size
              (refine step_append_src _ rfl (.tmp 100) (.tmp 102) _ rfl w1.heap.size 9 i0 _ 1 16 Try.underlying22 hi0 hz00 hz01 hz02 rfl (by decide) _ 0 [] rfl HO.out _ r.length (r.flatMap strC) rfl (by rw [strC_flat, Nat.mul_one]) HX.out.tail strC_one (by unfold maxLen; omega) (by omega) (by first | (simp; done) | omega | (simp; omega)) ?_; intro v3 w3 hown3 hg3 hat3 hty3; have HTY3 := Lib.hid hty3; clear hty3)
              have HX := Lib.hid (HX.out.app hg3)
              try have H7 := Lib.hid (H7.out.keeps hg3 (fun hf => hne (Option.some.inj hf.1).symm))
              have HO := Lib.hid hown3
              clear hown3 hg3 hat3 hbz
              obtain ⟨Wc, rfl⟩ : ∃ W, W = w3 := ⟨_, rfl⟩
              refine hK.out _ _ (fun _ => HX.out.head) ?_
              clear hK K
              try simp only [Act.put, List.setIfInBounds_toArray, List.set_cons_zero, List.set_cons_succ]
              refine wpAnyK_ready (rs := [7]) (by kernel_rfl) (by simp) ?_
              refine AllReadyK.cons (i := 7) rfl (fun K hK => ?_) ?_
              · go_simp
                have HX := Lib.hid (HX.out.alloc (.cells #[.string (B t)] 9))
                have H7 := Lib.hid (At1.new Wc t 9)
                try have hne : Wc.heap.size ≠ g0 := by have := HO.out.lt g0 rfl; omega
                try have HO := Lib.hid (HO.out.below (below_alloc (Below.refl _ _) (.cells #[.string (B t)] 9)))
                generalize Wc.heap.size = g7 at *
                generalize Wc.alloc (.cells #[.string (B t)] 9) = Wc at *
                refine hK.out _ _ (fun _ => HX.out.head) ?_
                clear hK K
                try simp only [Act.put, List.setIfInBounds_toArray, List.set_cons_zero, List.set_cons_succ]
                refine wpAnyK_ready (rs := [8]) (by kernel_rfl) (by simp) ?_
                refine AllReadyK.cons (i := 8) rfl (fun K hK => ?_) ?_
                · have hbz := HX.out.b.size
                  (refine step_append_src _ rfl (.tmp 103) (.tmp 107) _ rfl w1.heap.size 9 i0 _ 1 16 Try.underlying22 hi0 hz00 hz01 hz02 rfl (by decide) _ (0 + r.length) ([] ++ r.flatMap strC) rfl HO.out _ 1 [.string (B t)] rfl rfl H7.out.src (by simp [Value.oneCell']) (by unfold maxLen; omega) (by omega) (by first | (simp; done) | omega | (simp; omega)) ?_; intro v8 w8 hown8 hg8 hat8 hty8; have HTY8 := Lib.hid hty8; clear hty8)
                  have HX8 := Lib.hid (HX.out.app hg8)
                  obtain ⟨g8, o8, c8, rfl, q1, q2, hsl, hxo, hbl⟩ := HX.out.done H2.out hown8 hg8
                  obtain ⟨z80, z81⟩ := sl_head hsl
                  haveI : Old w8 g8 := ⟨z80⟩
                  have HF := Lib.hid (ringI_fresh (k := k) (ts' := r2.reverse ++ [t2]) HR1.out HBL.out hbl (by rw [rev_cons]; exact hsl) hxo (by simp; omega) (tl_turn H2.out (by omega) (fun y hy => by have := HTL.out y hy; omega)))
                  clear hown8 hg8 hat8 hsl hxo hbl HX hbz
                  have HX := HX8
                  refine hK.out _ _ (fun _ => HX.out.head) ?_
                  clear hK K
                  try simp only [Act.put, List.setIfInBounds_toArray, List.set_cons_zero, List.set_cons_succ]
                  refine wpAnyK_take (i := 9) (v := ?v9_6) rfl (by kernel_rfl) (by kernel_rfl) (by kernel_rfl) (by kernel_rfl) (fun _ _ _ h => h) (Or.inl ⟨by rfl, ?y9_6⟩) (fun _ => HX.out.head) ?r9_6
                  case y9_6 =>
                    intro w hSw
                    go_simp
                    try with_reducible rfl
                  try simp only [Act.put, List.setIfInBounds_toArray, List.set_cons_zero, List.set_cons_succ]
                  refine wpAnyK_done (by kernel_rfl) ?_ _
                  go_wp2_with (first
                    | (go_at_call 63; refine (top_some _ _ _ _ (r2.reverse) (t2) HF.out.r (by simp; omega)).mono ?_; rintro e w5 ⟨rfl, hb5⟩; have HF := Lib.hid (HF.out.below hb5); clear hb5)
                    | (go_at_call 64; refine (texts_any _ _ _ _ (r2.reverse ++ [t2]) HF.out.r (by have := HF.out.len; omega)).mono ?_; rintro e w6 ⟨v6, rfl, hs6, hb6⟩; have HF := Lib.hid (HF.out.below hb6); rw [rev_cons] at hs6; obtain ⟨g6, o6, c6, rfl, q61, q62, q63, q64⟩ := sl_parts (N := r2.length) hs6 (by simp); have HS6 := Lib.hid q64; have hx6 := HF.out.x; rw [rev_cons] at hx6; obtain ⟨gy, oy, cy, ey, q71, q72, q73, q74⟩ := sl_parts (N := r2.length) hx6 (by simp); injection ey with ey1 _ ey3; injection ey1 with ey1; cases ey1; subst ey3; have HY6 := Lib.hid q74; have y0 := q74 0 _ rfl; simp only [Nat.add_zero] at y0; clear hs6 hb6 hx6 q64 q74))
                  all_goals
                    go_loopw [12] (fun i w' => ∃ j : Nat, j ≤ r2.length + 1 ∧ i = .int .i64 j ∧ Drew w6 w') (fun i _ => r2.length + 1 - (intOf i).toNat)
                    case atStart => exact ⟨0, by omega, rfl, .refl _⟩
                    case round =>
                      obtain ⟨j, hj, rfl, nd, rfl⟩ := hrel
                      by_cases hlj : j < r2.length + 1
                      · obtain ⟨yy, hyy⟩ := get_some (show j < (t2 :: r2).length by simp; omega)
                        have z0 := HS6.out j yy hyy
                        have z1 := HY6.out j yy hyy
                        have hj0 : (0 : Int) ≤ (j : Int) := by omega
                        have hj1 : (j : Int) < (((r2.length + 1 : Nat) : Int) : Int) := by omega
                        clear hyy
                        go_wp2
                        go_quiet (fail)
                        go_wp2
                        go_roundw
                        case rel => exact ⟨j + 1, by omega, by go_num, nd + nq, rfl⟩
                        case measure => simp [intOf]; omega
                      · go_wp2
                        go_roundw
                        case rel => exact ⟨k + 1, lv1, r2.reverse ++ [t2], .slice (some ⟨g8, o8, none⟩) (r2.length + 1) c8, by omega, rfl, by go_num, HF.out.below (below_drewN (Below.refl _ _) nd)⟩
                        case measure => simp [intOf]; omega
                exact AllReadyK.nil
              exact AllReadyK.nil
            refine AllReadyK.cons (i := 7) rfl (fun K hK => ?_) ?_
            · go_simp
              have HX := Lib.hid (HX.out.alloc (.cells #[.string (B t)] 9))
              have H7 := Lib.hid (At1.new Wc t 9)
              try have hne : Wc.heap.size ≠ g0 := by have := HO.out.lt g0 rfl; omega
              try have HO := Lib.hid (HO.out.below (below_alloc (Below.refl _ _) (.cells #[.string (B t)] 9)))
              generalize Wc.heap.size = g7 at *
              generalize Wc.alloc (.cells #[.string (B t)] 9) = Wc at *
              refine hK.out _ _ (fun _ => HX.out.head) ?_
              clear hK K
              try simp only [Act.put, List.setIfInBounds_toArray, List.set_cons_zero, List.set_cons_succ]
              refine wpAnyK_ready (rs := [3]) (by kernel_rfl) (by simp) ?_
              refine AllReadyK.cons (i := 3) rfl (fun K hK => ?_) ?_
              · have hbz := HX.out.b.size
                (refine step_append_src _ rfl (.tmp 100) (.tmp 102) _ rfl w1.heap.size 9 i0 _ 1 16 Try.underlying22 hi0 hz00 hz01 hz02 rfl (by decide) _ 0 [] rfl HO.out _ r.length (r.flatMap strC) rfl (by rw [strC_flat, Nat.mul_one]) HX.out.tail strC_one (by unfold maxLen; omega) (by omega) (by first | (simp; done) | omega | (simp; omega)) ?_; intro v3 w3 hown3 hg3 hat3 hty3; have HTY3 := Lib.hid hty3; clear hty3)
                have HX := Lib.hid (HX.out.app hg3)
                try have H7 := Lib.hid (H7.out.keeps hg3 (fun hf => hne (Option.some.inj hf.1).symm))
                have HO := Lib.hid hown3
                clear hown3 hg3 hat3 hbz
                obtain ⟨Wc, rfl⟩ : ∃ W, W = w3 := ⟨_, rfl⟩
                refine hK.out _ _ (fun _ => HX.out.head) ?_
                clear hK K
                try simp only [Act.put, List.setIfInBounds_toArray, List.set_cons_zero, List.set_cons_succ]
                refine wpAnyK_ready (rs := [8]) (by kernel_rfl) (by simp) ?_
                refine AllReadyK.cons (i := 8) rfl (fun K hK => ?_) ?_
                · have hbz := HX.out.b.size
                  (refine step_append_src _ rfl (.tmp 103) (.tmp 107) _ rfl w1.heap.size 9 i0 _ 1 16 Try.underlying22 hi0 hz00 hz01 hz02 rfl (by decide) _ (0 + r.length) ([] ++ r.flatMap strC) rfl HO.out _ 1 [.string (B t)] rfl rfl H7.out.src (by simp [Value.oneCell']) (by unfold maxLen; omega) (by omega) (by first | (simp; done) | omega | (simp; omega)) ?_; intro v8 w8 hown8 hg8 hat8 hty8; have HTY8 := Lib.hid hty8; clear hty8)
                  have HX8 := Lib.hid (HX.out.app hg8)
                  obtain ⟨g8, o8, c8, rfl, q1, q2, hsl, hxo, hbl⟩ := HX.out.done H2.out hown8 hg8
                  obtain ⟨z80, z81⟩ := sl_head hsl
                  haveI : Old w8 g8 := ⟨z80⟩
                  have HF := Lib.hid (ringI_fresh (k := k) (ts' := r2.reverse ++ [t2]) HR1.out HBL.out hbl (by rw [rev_cons]; exact hsl) hxo (by simp; omega) (tl_turn H2.out (by omega) (fun y hy => by have := HTL.out y hy; omega)))
                  clear hown8 hg8 hat8 hsl hxo hbl HX hbz
                  have HX := HX8
                  refine hK.out _ _ (fun _ => HX.out.head) ?_
                  clear hK K
                  try simp only [Act.put, List.setIfInBounds_toArray, List.set_cons_zero, List.set_cons_succ]
                  refine wpAnyK_take (i := 9) (v := ?v9_7) rfl (by kernel_rfl) (by kernel_rfl) (by kernel_rfl) (by kernel_rfl) (fun _ _ _ h => h) (Or.inl ⟨by rfl, ?y9_7⟩) (fun _ => HX.out.head) ?r9_7
                  case y9_7 =>
                    intro w hSw
                    go_simp
                    try with_reducible rfl
                  try simp only [Act.put, List.setIfInBounds_toArray, List.set_cons_zero, List.set_cons_succ]
                  refine wpAnyK_done (by kernel_rfl) ?_ _
                  go_wp2_with (first
                    | (go_at_call 63; refine (top_some _ _ _ _ (r2.reverse) (t2) HF.out.r (by simp; omega)).mono ?_; rintro e w5 ⟨rfl, hb5⟩; have HF := Lib.hid (HF.out.below hb5); clear hb5)
                    | (go_at_call 64; refine (texts_any _ _ _ _ (r2.reverse ++ [t2]) HF.out.r (by have := HF.out.len; omega)).mono ?_; rintro e w6 ⟨v6, rfl, hs6, hb6⟩; have HF := Lib.hid (HF.out.below hb6); rw [rev_cons] at hs6; obtain ⟨g6, o6, c6, rfl, q61, q62, q63, q64⟩ := sl_parts (N := r2.length) hs6 (by simp); have HS6 := Lib.hid q64; have hx6 := HF.out.x; rw [rev_cons] at hx6; obtain ⟨gy, oy, cy, ey, q71, q72, q73, q74⟩ := sl_parts (N := r2.length) hx6 (by simp); injection ey with ey1 _ ey3; injection ey1 with ey1; cases ey1; subst ey3; have HY6 := Lib.hid q74; have y0 := q74 0 _ rfl; simp only [Nat.add_zero] at y0; clear hs6 hb6 hx6 q64 q74))
                  all_goals
                    go_loopw [12] (fun i w' => ∃ j : Nat, j ≤ r2.length + 1 ∧ i = .int .i64 j ∧ Drew w6 w') (fun i _ => r2.length + 1 - (intOf i).toNat)
                    case atStart => exact ⟨0, by omega, rfl, .refl _⟩
                    case round =>
                      obtain ⟨j, hj, rfl, nd, rfl⟩ := hrel
                      by_cases hlj : j < r2.length + 1
                      · obtain ⟨yy, hyy⟩ := get_some (show j < (t2 :: r2).length by simp; omega)
                        have z0 := HS6.out j yy hyy
                        have z1 := HY6.out j yy hyy
                        have hj0 : (0 : Int) ≤ (j : Int) := by omega
                        have hj1 : (j : Int) < (((r2.length + 1 : Nat) : Int) : Int) := by omega
                        clear hyy
                        go_wp2
                        go_quiet (fail)
                        go_wp2
                        go_roundw
                        case rel => exact ⟨j + 1, by omega, by go_num, nd + nq, rfl⟩
                        case measure => simp [intOf]; omega
                      · go_wp2
                        go_roundw
                        case rel => exact ⟨k + 1, lv1, r2.reverse ++ [t2], .slice (some ⟨g8, o8, none⟩) (r2.length + 1) c8, by omega, rfl, by go_num, HF.out.below (below_drewN (Below.refl _ _) nd)⟩
                        case measure => simp [intOf]; omega
                exact AllReadyK.nil
              exact AllReadyK.nil
            exact AllReadyK.nil
          refine AllReadyK.cons (i := 7) rfl (fun K hK => ?_) ?_
          · go_simp
            have HX := Lib.hid (HX.out.alloc (.cells #[.string (B t)] 9))
            have H7 := Lib.hid (At1.new Wc t 9)
            try have hne : Wc.heap.size ≠ g0 := by have := HO.out.lt g0 rfl; omega
            try have HO := Lib.hid (HO.out.below (below_alloc (Below.refl _ _) (.cells #[.string (B t)] 9)))
            generalize Wc.heap.size = g7 at *
            generalize Wc.alloc (.cells #[.string (B t)] 9) = Wc at *
            refine hK.out _ _ (fun _ => HX.out.head) ?_
            clear hK K
            try simp only [Act.put, List.setIfInBounds_toArray, List.set_cons_zero, List.set_cons_succ]
            refine wpAnyK_ready (rs := [0]) (by kernel_rfl) (by simp) ?_
            refine AllReadyK.cons (i := 0) rfl (fun K hK => ?_) ?_
            · go_simp
              have HX := Lib.hid (HX.out.alloc (.cells #[] 9))
              have HO : Hid (Own (Wc.alloc (.cells #[] 9)) w1.heap.size 1 (.slice (some ⟨Wc.heap.size, 0, none⟩) 0 0) 0 []) := Own.none_ _ _ _ _ _ (by simp)
              try have hne : g7 ≠ Wc.heap.size := by have := H7.out.lt; omega
              try have H7 := Lib.hid (H7.out.alloc (.cells #[] 9))
              generalize Wc.heap.size = g0 at *
              generalize Wc.alloc (.cells #[] 9) = Wc at *
              refine hK.out _ _ (fun _ => HX.out.head) ?_
              clear hK K
              try simp only [Act.put, List.setIfInBounds_toArray, List.set_cons_zero, List.set_cons_succ]
              refine wpAnyK_ready (rs := [3]) (by kernel_rfl) (by simp) ?_
              refine AllReadyK.cons (i := 3) rfl (fun K hK => ?_) ?_
              · have hbz := HX.out.b.size
                (refine step_append_src _ rfl (.tmp 100) (.tmp 102) _ rfl w1.heap.size 9 i0 _ 1 16 Try.underlying22 hi0 hz00 hz01 hz02 rfl (by decide) _ 0 [] rfl HO.out _ r.length (r.flatMap strC) rfl (by rw [strC_flat, Nat.mul_one]) HX.out.tail strC_one (by unfold maxLen; omega) (by omega) (by first | (simp; done) | omega | (simp; omega)) ?_; intro v3 w3 hown3 hg3 hat3 hty3; have HTY3 := Lib.hid hty3; clear hty3)
                have HX := Lib.hid (HX.out.app hg3)
                try have H7 := Lib.hid (H7.out.keeps hg3 (fun hf => hne (Option.some.inj hf.1).symm))
                have HO := Lib.hid hown3
                clear hown3 hg3 hat3 hbz
                obtain ⟨Wc, rfl⟩ : ∃ W, W = w3 := ⟨_, rfl⟩
                refine hK.out _ _ (fun _ => HX.out.head) ?_
                clear hK K
                try simp only [Act.put, List.setIfInBounds_toArray, List.set_cons_zero, List.set_cons_succ]
                refine wpAnyK_ready (rs := [8]) (by kernel_rfl) (by simp) ?_
                refine AllReadyK.cons (i := 8) rfl (fun K hK => ?_) ?_
                · have hbz := HX.out.b.size
                  (refine step_append_src _ rfl (.tmp 103) (.tmp 107) _ rfl w1.heap.size 9 i0 _ 1 16 Try.underlying22 hi0 hz00 hz01 hz02 rfl (by decide) _ (0 + r.length) ([] ++ r.flatMap strC) rfl HO.out _ 1 [.string (B t)] rfl rfl H7.out.src (by simp [Value.oneCell']) (by unfold maxLen; omega) (by omega) (by first | (simp; done) | omega | (simp; omega)) ?_; intro v8 w8 hown8 hg8 hat8 hty8; have HTY8 := Lib.hid hty8; clear hty8)
                  have HX8 := Lib.hid (HX.out.app hg8)
                  obtain ⟨g8, o8, c8, rfl, q1, q2, hsl, hxo, hbl⟩ := HX.out.done H2.out hown8 hg8
                  obtain ⟨z80, z81⟩ := sl_head hsl
                  haveI : Old w8 g8 := ⟨z80⟩
                  have HF := Lib.hid (ringI_fresh (k := k) (ts' := r2.reverse ++ [t2]) HR1.out HBL.out hbl (by rw [rev_cons]; exact hsl) hxo (by simp; omega) (tl_turn H2.out (by omega) (fun y hy => by have := HTL.out y hy; omega)))
                  clear hown8 hg8 hat8 hsl hxo hbl HX hbz
                  have HX := HX8
                  refine hK.out _ _ (fun _ => HX.out.head) ?_
                  clear hK K
                  try simp only [Act.put, List.setIfInBounds_toArray, List.set_cons_zero, List.set_cons_succ]
                  refine wpAnyK_take (i := 9) (v := ?v9_8) rfl (by kernel_rfl) (by kernel_rfl) (by kernel_rfl) (by kernel_rfl) (fun _ _ _ h => h) (Or.inl ⟨by rfl, ?y9_8⟩) (fun _ => HX.out.head) ?r9_8
                  case y9_8 =>
                    intro w hSw
                    go_simp
                    try with_reducible rfl
                  try simp only [Act.put, List.setIfInBounds_toArray, List.set_cons_zero, List.set_cons_succ]
                  refine wpAnyK_done (by kernel_rfl) ?_ _
                  go_wp2_with (first
                    | (go_at_call 63; refine (top_some _ _ _ _ (r2.reverse) (t2) HF.out.r (by simp; omega)).mono ?_; rintro e w5 ⟨rfl, hb5⟩; have HF := Lib.hid (HF.out.below hb5); clear hb5)
                    | (go_at_call 64; refine (texts_any _ _ _ _ (r2.reverse ++ [t2]) HF.out.r (by have := HF.out.len; omega)).mono ?_; rintro e w6 ⟨v6, rfl, hs6, hb6⟩; have HF := Lib.hid (HF.out.below hb6); rw [rev_cons] at hs6; obtain ⟨g6, o6, c6, rfl, q61, q62, q63, q64⟩ := sl_parts (N := r2.length) hs6 (by simp); have HS6 := Lib.hid q64; have hx6 := HF.out.x; rw [rev_cons] at hx6; obtain ⟨gy, oy, cy, ey, q71, q72, q73, q74⟩ := sl_parts (N := r2.length) hx6 (by simp); injection ey with ey1 _ ey3; injection ey1 with ey1; cases ey1; subst ey3; have HY6 := Lib.hid q74; have y0 := q74 0 _ rfl; simp only [Nat.add_zero] at y0; clear hs6 hb6 hx6 q64 q74))
                  all_goals
                    go_loopw [12] (fun i w' => ∃ j : Nat, j ≤ r2.length + 1 ∧ i = .int .i64 j ∧ Drew w6 w') (fun i _ => r2.length + 1 - (intOf i).toNat)
                    case atStart => exact ⟨0, by omega, rfl, .refl _⟩
                    case round =>
                      obtain ⟨j, hj, rfl, nd, rfl⟩ := hrel
                      by_cases hlj : j < r2.length + 1
                      · obtain ⟨yy, hyy⟩ := get_some (show j < (t2 :: r2).length by simp; omega)
                        have z0 := HS6.out j yy hyy
                        have z1 := HY6.out j yy hyy
                        have hj0 : (0 : Int) ≤ (j : Int) := by omega
                        have hj1 : (j : Int) < (((r2.length + 1 : Nat) : Int) : Int) := by omega
                        clear hyy
                        go_wp2
                        go_quiet (fail)
                        go_wp2
                        go_roundw
                        case rel => exact ⟨j + 1, by omega, by go_num, nd + nq, rfl⟩
                        case measure => simp [intOf]; omega
                      · go_wp2
                        go_roundw
                        case rel => exact ⟨k + 1, lv1, r2.reverse ++ [t2], .slice (some ⟨g8, o8, none⟩) (r2.length + 1) c8, by omega, rfl, by go_num, HF.out.below (below_drewN (Below.refl _ _) nd)⟩
                        case measure => simp [intOf]; omega
                exact AllReadyK.nil
              exact AllReadyK.nil
            exact AllReadyK.nil
          exact AllReadyK.nil
      · as_aux_lemma =>
          have hq0 : (kind == 0) = false := by simpa using hk0
          have hq1 : (kind == 1) = false := by simpa using hk1
          have hq2 : (kind == 2) = false := by simpa using hk2
          clear hk0 hk1 hk2
          have HF := Lib.hid HI.out.next
          go_wp2_with (first
            | (go_at_call 63; refine (top_some _ _ _ _ (r.reverse) (t) HF.out.r (by simp; omega)).mono ?_; rintro e w5 ⟨rfl, hb5⟩; have HF := Lib.hid (HF.out.below hb5); clear hb5)
            | (go_at_call 64; refine (texts_any _ _ _ _ (r.reverse ++ [t]) HF.out.r (by have := HF.out.len; omega)).mono ?_; rintro e w6 ⟨v6, rfl, hs6, hb6⟩; have HF := Lib.hid (HF.out.below hb6); rw [rev_cons] at hs6; obtain ⟨g6, o6, c6, rfl, q61, q62, q63, q64⟩ := sl_parts (N := r.length) hs6 (by simp); have HS6 := Lib.hid q64; have hx6 := HF.out.x; rw [rev_cons] at hx6; obtain ⟨gy, oy, cy, ey, q71, q72, q73, q74⟩ := sl_parts (N := r.length) hx6 (by simp); injection ey with ey1 _ ey3; injection ey1 with ey1; cases ey1; subst ey3; have HY6 := Lib.hid q74; have y0 := q74 0 _ rfl; simp only [Nat.add_zero] at y0; clear hs6 hb6 hx6 q64 q74))
          go_loopw [12] (fun i w' => ∃ j : Nat, j ≤ r.length + 1 ∧ i = .int .i64 j ∧ Drew w6 w') (fun i _ => r.length + 1 - (intOf i).toNat)
          case atStart => exact ⟨0, by omega, rfl, .refl _⟩
          case round =>
            obtain ⟨j, hj, rfl, nd, rfl⟩ := hrel
            by_cases hlj : j < r.length + 1
            · obtain ⟨yy, hyy⟩ := get_some (show j < (t :: r).length by simp; omega)
              have z0 := HS6.out j yy hyy
              have z1 := HY6.out j yy hyy
              have hj0 : (0 : Int) ≤ (j : Int) := by omega
              have hj1 : (j : Int) < (((r.length + 1 : Nat) : Int) : Int) := by omega
              clear hyy
              go_wp2
              go_quiet (fail)
              go_wp2
              go_roundw
              case rel => exact ⟨j + 1, by omega, by go_num, nd + nq, rfl⟩
              case measure => simp [intOf]; omega
            · go_wp2
              go_roundw
              case rel => exact ⟨k + 1, lv, r.reverse ++ [t], .slice (some ⟨gx, ox, none⟩) (r.length + 1) cx, by omega, rfl, by go_num, HF.out.below (below_drewN (Below.refl _ _) nd)⟩
              case measure => simp [intOf]; omega
end Go.Proofs.Ytkinjjgaecbogaa.undoRings
