/-
  The walks of layer 19 (tables), on: the iterator over the entries from a name on; All. Conditions: at most 2^20 entries.
-/
import Derived.Test.YtkllgikmlgponaaTab14
import Derived.Test.YtkllgikmlgponaaBox
import Derived.Test.YtkllgikmlgponaaTailIn
namespace Go.Proofs.Ytkllgikmlgponaa.Tab
open Go.ChangeShapes Go.WideShapes Go.Deep Go.RowKit Go.Shelf
attribute [local go_sem] Oper.semAt_some
set_option maxRecDepth 100000
def encE (x : Ent) : Array Value := #[.agg #[.string (B x.name), .string (B x.val)]]
@[go_sem] theorem encE_eq (x : Ent) : encE x = #[.agg #[.string (B x.name), .string (B x.val)]] := rfl
set_option maxHeartbeats 2000000 in
theorem from1 (n : Nat) (hn : 1 ≤ n) (l b0 b1 b2 tb : Nat) (lv : Value) (kind : Int) (xs : List Ent) (s : List UInt8) (hx : xs.length ≤ 1048576) (J Jx : List Ent → World → Prop)
    (hY : ∀ pre x W, J pre W → pre.length < (xs.drop (place xs s)).length → YieldAt Fence.wide (n - 1) Try.prog l (encE x) W fun e W' =>
      (e = .returned (.bool true) ∧ J (pre ++ [x]) W' ∧ KeepG (fun k => k = b1 ∨ k = b2 ∨ k = tb ∨ lv.ownBlock = some k) W W') ∨ (e = .returned (.bool false) ∧ Jx (pre ++ [x]) W'))
    (hJb : ∀ pre W W', Below W.heap.size W W' → J pre W → J pre W')
    (W : World) (h1 : W.cell? ⟨b1, 0, none⟩ = some (.pointer (some ⟨tb, 0, none⟩))) (h2 : W.cell? ⟨b2, 0, none⟩ = some (.string (B s))) (hh : TabAt W b0 tb lv kind xs) (h0 : J [] W) :
    CallsIn Fence.wide n Try.prog 67 #[.func (.yield l) #[] #[], .pointer (some ⟨b1, 0, none⟩), .pointer (some ⟨b2, 0, none⟩)] W fun e W' => (∃ v, e = .returned v) ∧
      ((∃ ys, ys = xs.drop (place xs s) ∧ J ys W') ∨ (∃ pre, pre <+: xs.drop (place xs s) ∧ Jx pre W')) := by
  have HY := Lib.hid hY
  have HJB := Lib.hid hJb
  have H0 := Lib.hid h0
  have HH := Lib.hid hh
  have HF := Lib.hid (find_any W b0 tb lv kind xs s hh hx)
  have hpl := place_le xs s
  have hlt := hh.lt
  obtain ⟨A, c, rfl, -⟩ := hh.own.form0
  have hcap := own_cap hh.own _ _ _ rfl
  have hb1 : b1 < W.heap.size := World.block_lt_of_cell? W _ h1
  have hb2 : b2 < W.heap.size := World.block_lt_of_cell? W _ h2
  clear hY hJb h0 hh
  generalize there xs s = q at *
  generalize place xs s = p at *
  haveI : Old W b1 := ⟨hb1⟩
  haveI : Old W b2 := ⟨hb2⟩
  have hp0 : (0 : Int) ≤ (p : Int) := by omega
  have hp1 : (p : Int) ≤ (xs.length : Int) := by omega
  refine callsIn_of_wp Try.func67 rfl trivial ?_ rfl
  simp only [Try.ntmps67, List.size_toArray, List.length_cons, List.length_nil, Nat.reduceAdd, Nat.reduceSub, Array.replicate_succ, Array.replicate_zero, List.push_toArray, List.append_toArray, List.nil_append, List.cons_append]
  gi_wp2
  refine (callsIn_wide.2 HF.out).mono ?_
  rintro e w1 ⟨rfl, hb⟩
  have H1 := Lib.hid (HH.out.below hb)
  have e1 := H1.out.c1
  have k1 := (hb.cell (p := ⟨b1, 0, none⟩) hb1).trans h1
  have HJ1 := Lib.hid (HJB.out _ _ _ hb H0.out)
  have HK1 := Lib.hid (KeepG.of_below (G := fun k => k = b1 ∨ k = b2 ∨ k = tb ∨ (Value.slice A xs.length c).ownBlock = some k) hb (fun k hk => by
    rcases hk with rfl | rfl | rfl | e
    · exact hb1
    · exact hb2
    · exact hlt
    · exact HH.out.own.lt k e))
  clear HF H0 hb
  by_cases hcp : c = p
  · have hn0 : xs.length - p = 0 := by omega
    have hdr : xs.drop p = [] := List.drop_eq_nil_of_le (by omega)
    have HE := Lib.hid hdr
    clear hdr
    gi_wp2
    gi_loopw [21] (fun i wr => i = .int .i64 0 ∧ w1 = wr) (fun i _ => 0)
    case atStart => exact ⟨rfl, rfl⟩
    case round =>
      obtain ⟨rfl, rfl⟩ := hrel
      gi_wp2
      go_end0
      exact ⟨⟨_, rfl⟩, .inl ⟨_, HE.out.symm, HJ1.out⟩⟩
  obtain ⟨g, off, rfl⟩ : ∃ g off, A = some ⟨g, off, none⟩ := by
    rcases HH.out.own.2 with ⟨h0, e | ⟨g', off', e, _⟩⟩ | ⟨g', off', c', e, _⟩
    · injection e with _ _ e3; omega
    · injection e with _ _ e3; omega
    · injection e with e1; exact ⟨_, _, e1⟩
  gi_wp2
  gi_loopw [21] (fun i wr => ∃ (k : Nat) (pre : List Ent), k ≤ xs.length - p ∧ i = .int .i64 k ∧ Hid (xs.drop p = pre ++ xs.drop (p + k)) ∧ Hid (J pre wr) ∧ Hid (KeepG (fun k => k = b1 ∨ k = b2 ∨ k = tb ∨ (Value.slice (some ⟨g, off, none⟩) xs.length c).ownBlock = some k) W wr)) (fun i _ => (xs.length - p) - (intOf i).toNat)
  case atStart => exact ⟨0, [], by omega, rfl, rfl, HJ1.out, HK1.out⟩
  case round =>
    clear HJ1 HK1 H1 e1 k1
    obtain ⟨k, pre, hk, rfl, HP, HJ, HK⟩ := hrel
    by_cases hkl : k < xs.length - p
    · obtain ⟨x, hxk⟩ := get_some (show p + k < xs.length by omega)
      obtain ⟨z0, z1, hx2⟩ := own_ent HH.out.own hxk
      have z0 := (HK.out.cell (o := off + (p + k) * 2) (.inr (.inr (.inr rfl)))).trans z0
      have z1 := (HK.out.cell (o := off + (p + k) * 2 + 1) (.inr (.inr (.inr rfl)))).trans z1
      rw [show off + (p + k) * 2 = off + p * 2 + k * 2 by omega] at z0 z1
      haveI : Old wr g := ⟨World.block_lt_of_cell? _ _ z0⟩
      have k0 : (0 : Int) ≤ (k : Int) := by omega
      have k1 : (k : Int) < ((xs.length - p : Nat) : Int) := by omega
      have hp2 : xs.drop p = (pre ++ [x]) ++ xs.drop (p + (k + 1)) := by
        obtain ⟨h9, rfl⟩ := List.getElem?_eq_some_iff.1 hxk
        rw [HP.out, List.drop_eq_getElem_cons h9]
        simp [Nat.add_assoc]
      have hlen : pre.length < (xs.drop p).length := by rw [hp2]; simp
      have HP2 := Lib.hid hp2
      have HJ2 := Lib.hid (HJB.out _ _ _ (below_alloc (Below.refl _ wr) (.cells #[.string (B x.name), .string (B x.val)] 25)) HJ.out)
      obtain ⟨fn, tmps, assign, body, hy, hR⟩ := HY.out _ x _ HJ2.out hlen
      have HEN : Hid (encE x = #[.agg #[.string (B x.name), .string (B x.val)]]) := rfl
      rw [HEN.out] at hy
      have HBK := Lib.hid (fun j (hj : j = b1 ∨ j = b2 ∨ j = tb ∨ (Value.slice (some ⟨g, off, none⟩) xs.length c).ownBlock = some j) => (show j < wr.heap.size by
        have hs := HK.out j hj
        have hjW : j < W.heap.size := by
          rcases hj with rfl | rfl | rfl | e
          · exact hb1
          · exact hb2
          · exact hlt
          · exact HH.out.own.lt j e
        rcases Nat.lt_or_ge j wr.heap.size with h | h
        · exact h
        · rw [Array.getElem?_eq_none h, Array.getElem?_eq_getElem hjW] at hs; cases hs))
      clear hlen hp2 hxk
      gi_wp2
      refine hR.mono ?_
      rintro e W3 (⟨rfl, hJ3, hk3⟩ | ⟨rfl, hJx3⟩)
      · have HJ3 := Lib.hid hJ3
        have HK3 := Lib.hid (fun j hj => ((hk3 j hj).trans (heap_alloc_lt _ _ _ (HBK.out j hj))).trans (HK.out j hj))
        clear hk3 hJ3
        gi_wp2
        go_roundw
        case rel => exact ⟨k + 1, _, by omega, by go_num, HP2.out, HJ3.out, HK3.out⟩
        case measure => simp [intOf]; omega
      · have HJ3 := Lib.hid hJx3
        clear hJx3
        gi_wp2
        refine bodyPost_ret (results_none rfl _ _ _) rfl ?_
        exact ⟨⟨_, rfl⟩, .inr ⟨_, ⟨_, HP2.out.symm⟩, HJ3.out⟩⟩
    · have h3 := HP.out
      rw [show xs.drop (p + k) = [] from List.drop_eq_nil_of_le (by omega), List.append_nil] at h3
      have H3 := Lib.hid h3
      clear h3
      have d0 := no hkl
      clear hkl
      gi_wp2
      go_end0
      exact ⟨⟨_, rfl⟩, .inl ⟨_, H3.out.symm, HJ.out⟩⟩
theorem from_any (w : World) (tb : Nat) (s : List UInt8) : Calls Try.prog 46 #[.pointer (some ⟨tb, 0, none⟩), .string (B s)] w fun e w' => e = .returned (.func (.func 67) #[] #[.pointer (some ⟨w.heap.size, 0, none⟩), .pointer (some ⟨w.heap.size + 1, 0, none⟩)]) ∧
    w' = (w.alloc (.cells #[.pointer (some ⟨tb, 0, none⟩)] 26)).alloc (.cells #[.string (B s)] 9) := by
  go_enter Try.func46, Try.ntmps46
  go_wp2
  go_ret
  exact ⟨rfl, rfl⟩
theorem from_gives (w : World) (b0 tb : Nat) (lv : Value) (kind : Int) (xs : List Ent) (s : List UInt8) (hx : xs.length ≤ 1048576) (hh : TabAt w b0 tb lv kind xs) :
    Gives Try.prog 67 #[.pointer (some ⟨w.heap.size, 0, none⟩), .pointer (some ⟨w.heap.size + 1, 0, none⟩)] encE (fun k => k = w.heap.size ∨ k = w.heap.size + 1 ∨ k = tb ∨ lv.ownBlock = some k) (xs.drop (place xs s))
      ((w.alloc (.cells #[.pointer (some ⟨tb, 0, none⟩)] 26)).alloc (.cells #[.string (B s)] 9)) := by
  intro n hn l J Jx W hW hJ _ hY h0
  refine from1 n hn l b0 _ _ tb lv kind xs s hx J Jx hY (fun s A A' hb h => hJ s A A' none h (grownBy_below hb none) (fun r e => by cases e)) W ?_ ?_ ((hh.below (below_alloc (below_alloc (Below.refl _ _) _) _)).below hW) h0
  · rw [hW.cell (by simp <;> omega)]; simp [go_sem]
  · rw [hW.cell (by simp <;> omega)]; simp [go_sem]
theorem ent_one {xs : List Ent} : ∀ u ∈ xs.flatMap Ent.cells, u.oneCell' = true := by
  intro v hv
  obtain ⟨x, _, hxv⟩ := List.mem_flatMap.1 hv
  simp [Ent.cells] at hxv
  rcases hxv with rfl | rfl <;> rfl
def CollE (w : World) (pre : List Ent) (W : World) : Prop := ∃ v, BoxOwn W w.heap.size w.heap.size 2 v pre.length (pre.flatMap Ent.cells) ∧ (pre.length = 0 → v = .slice none 0 0) ∧ Below w.heap.size w W
set_option maxHeartbeats 1600000 in
theorem appendSeq_e (gf : Nat) (lb : Array Value) (G : Nat → Prop) (xs : List Ent) (w : World) (hg : Gives Try.prog gf lb encE G xs w) (eg : ∀ args w, (callFunc gf args).run Try.prog w = .ok (.enter gf args) w)
    (hG : ∀ k, G k → k < w.heap.size) (hl : xs.length ≤ 1073741824) :
    Calls Try.prog 69 #[.slice none 0 0, .func (.func gf) #[] lb] w (RowP xs w) := by
  obtain ⟨i0, hi0, hz00, hz01, hz02⟩ := info_parts info_ent
  have HG := Lib.hid hG
  have HGV := Lib.hid hg
  clear hG hg
  refine (callsIn_wide (n := 9)).1 ?_; refine callsIn_of_wp_marks Try.func69 rfl trivial ?_ rfl; simp only [Try.ntmps69, List.size_toArray, List.length_cons, List.length_nil, Nat.reduceAdd, Nat.reduceSub, Array.replicate_succ, Array.replicate_zero, List.push_toArray, List.append_toArray, List.nil_append, List.cons_append]
  gi_wp2
  refine wpIn_iter (n := 9) (by omega) (gf := gf) (lb := lb) rfl eg (HGV.out.below (below_alloc (Below.refl _ _) _)) (fun k hk => by have := HG.out k hk; simp; omega) (fun _ => rfl) (CollE w) (fun _ _ _ => False)
    (fun s W W' hL ⟨v, h1, h2, h3⟩ => ⟨v, h1.lull hL, h2, hL.below h3 (by simp) (Nat.le_refl _)⟩) (fun _ _ _ _ _ h => h)
    ⟨.slice none 0 0, ⟨by simp, by go_simp, by simp [go_sem], Own.nil _ _ _, by simp [Value.ownBlock]⟩, fun _ => rfl, below_alloc (Below.refl _ _) _⟩
    (fun x a' W' => ∃ ub, a' = { tmps := #[.slice none 0 0, .func (.func gf) #[] lb, .pointer (some ⟨w.heap.size, 0, none⟩), undef, .slice none 0 0, .pointer (some ⟨ub, 0, none⟩), .func (.func gf) #[] lb, .agg #[.string (B x.name), .string (B x.val)], undef, undef, undef, undef, undef], defers := [] } ∧ BoxN W' ub (Ent.cells x))
    (fun x a' W W' hL ⟨ub, e, h⟩ => ⟨ub, e, h.block (hL.block (h.c 0 _ rfl)) hL.size⟩) ?assign ?body ?done ?stop
  case assign =>
    intro l pre x W K hi hs hK
    have hK := hK { tmps := #[.slice none 0 0, .func (.func gf) #[] lb, .pointer (some ⟨w.heap.size, 0, none⟩), undef, .slice none 0 0, .pointer (some ⟨W.heap.size, 0, none⟩), .func (.func gf) #[] lb, .agg #[.string (B x.name), .string (B x.val)], undef, undef, undef, undef, undef], defers := [] } _
      (KeepsFrom.allocN _ W (.cells (Ent.cells x).toArray 25)) (fun k hk => heap_alloc_lt _ _ _ (by have := HG.out k hk; simp at hs; omega))
      (by obtain ⟨v, h1, h2, h3⟩ := hi; exact ⟨v, h1.below (below_alloc (Below.refl _ _) _), h2, below_alloc h3 _⟩) ⟨_, rfl, BoxN.new W _ _⟩
    unfold encE Ent.cells at *
    have HK := Lib.hid hK
    clear hK
    gi_wp2
    exact HK.out
  case body =>
    rintro l pre x a' W hs ⟨v, h1, h2, h3⟩ ⟨ub, rfl, hB⟩ hlt
    have hs' : w.heap.size + 1 ≤ W.heap.size := by simpa using hs
    have hc := h1.c
    have hf := h1.f
    have b0' := hB.c 0 _ rfl
    have b1' := hB.c 1 _ rfl
    have H1 := Lib.hid h1
    have H2 := Lib.hid h2
    have H3 := Lib.hid h3
    clear h1 h2 h3 hB
    gi_wp2_with ((gi_at_builtin; refine wpListIn_append_src rfl (.tmp 8) (.tmp 10) _ rfl w.heap.size 25 i0 _ 2 32 Try.underlying22 hi0 hz00 hz01 hz02 rfl (by decide) _ pre.length (pre.flatMap Ent.cells) rfl (H1.out.own.below (by (repeat (first | exact Below.refl _ _ | assumption | with_reducible refine below_alloc ?_ _ | with_reducible refine below_grow ?_ _ | with_reducible refine below_drewN ?_ _ | with_reducible refine below_drew ?_ | with_reducible refine below_setCell ?_ (by first | (dsimp only; omega) | (simp; done) | (simp; omega)) _)))) _ 1 (Ent.cells x) rfl rfl (Src.one _ _ _ _) (by simp [Ent.cells, Value.oneCell']) (by unfold maxLen; omega) (by omega) (by first | (simp; done) | omega | (simp; omega)) ?_; intro v1 w1 hown1 hg1 hat1 hty1; have HTY1 := Lib.hid hty1; clear hty1); obtain ⟨g1, o1, c1, rfl, q1, q2, q3, q4⟩ := hown1.form; obtain ⟨r1, r2, r3, r4, r5, r6⟩ := H1.out.round (A := w.heap.size + 1) (G := G) (by omega) H2.out H3.out (Nat.le_refl _) (Nat.le_refl _) (by omega) HG.out hown1 hg1 hat1; have R := Lib.hid (And.intro r1 (And.intro r2 (And.intro r3 r4))); clear hown1 hg1 hat1 r1 r2 r3 r4)
    refine ⟨by rw [World.size_alloc]; exact R.out.1, R.out.2.1, _, by simpa using R.out.2.2.1, fun h => by simp at h, R.out.2.2.2⟩
  case done =>
    rintro D W hD ⟨v, h1, h2, h3⟩ hK
    have hD' : w.heap.size + 1 ≤ D := by simpa using hD
    have hc := h1.c
    have H1 := Lib.hid h1
    have H3 := Lib.hid h3
    clear h1 h2 h3
    gi_wp2
    refine ⟨by simp, .inl ⟨_, _, rfl, run_takeDeferred hK, ?_⟩⟩
    have hL : Lull (w.heap.size + 1) W (W.putObj D (.deferred none)) := Lull.of_grown (grownBy_putObj' W D _) (fun r e => by cases e; exact ⟨hD', _, hK, rfl⟩)
    exact ⟨_, results_tmp rfl _ _ _, v, rfl, H1.out.own.lull hL, hL.below H3.out (by omega) (Nat.le_refl _)⟩
  case stop =>
    rintro D c pre W _ _ h _
    exact h.elim
theorem collect_e (gf : Nat) (lb : Array Value) (G : Nat → Prop) (xs : List Ent) (w : World) (hg : Gives Try.prog gf lb encE G xs w) (eg : ∀ args w, (callFunc gf args).run Try.prog w = .ok (.enter gf args) w)
    (hG : ∀ k, G k → k < w.heap.size) (hl : xs.length ≤ 1073741824) : Calls Try.prog 48 #[.func (.func gf) #[] lb] w (RowP xs w) := by
  have HC := Lib.hid (appendSeq_e gf lb G xs w hg eg hG hl)
  clear hg hG
  go_enter Try.func48, Try.ntmps48
  go_wp2_with (go_at_call 69; refine HC.out.mono ?_; rintro e w1 ⟨v, rfl, h1, h2⟩; have H1 := Lib.hid h1; clear h1)
  go_ret
  exact ⟨v, rfl, H1.out, h2⟩
theorem place_nil (xs : List Ent) : place xs [] = 0 := by
  unfold place
  cases xs with
  | nil => rfl
  | cons e r =>
    rw [List.takeWhile_cons, if_neg]
    · rfl
    · cases e.name <;> simp [Lib.compareBytes]
set_option maxHeartbeats 1600000 in
theorem all_any (w : World) (b0 tb : Nat) (lv : Value) (kind : Int) (xs : List Ent) (hx : xs.length ≤ 1048576) (hh : TabAt w b0 tb lv kind xs) : Calls Try.prog 17 #[.pointer (some ⟨tb, 0, none⟩)] w (RowP xs w) := by
  have hg := from_gives w b0 tb lv kind xs [] hx hh
  rw [place_nil, List.drop_zero] at hg
  have HC := Lib.hid (collect_e 67 _ _ xs _ hg (enters_of Try.func67 (by kernel_rfl) rfl) (fun k hk => by
    have h1 := hh.lt
    rcases hk with rfl | rfl | rfl | e
    · simp; omega
    · simp
    · simp; omega
    · have := hh.own.lt k e; simp; omega) (by omega))
  have HFR := Lib.hid (from_any w tb [])
  clear hg hh
  go_enter Try.func17, Try.ntmps17
  go_wp2_with (first | (go_at_call 46; refine HFR.out.mono ?_; rintro e w1 ⟨rfl, rfl⟩) | (go_at_call 48; refine HC.out.mono ?_; rintro e w2 ⟨v, rfl, ho, hb⟩; have HO := Lib.hid ho; have HB := Lib.hid hb; clear ho hb))
  go_ret
  exact ⟨v, rfl, HO.out.mono (by simp; omega), below_then (below_alloc (below_alloc (Below.refl _ _) _) _) HB.out⟩
end Go.Proofs.Ytkllgikmlgponaa.Tab
