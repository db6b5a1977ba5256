/-
  The walks of layer 6's reference (modes), in part: a stack as letters and places; a mode opens, is shut, becomes another one. Conditions: stacks of at most 2^30 modes.
-/
import Derived.Test.YtadlaaddpobhbaaDoorModPlain
import Derived.Test.YtadlaaddpobhbaaDoorNums
import Derived.Test.YtadlaaddpobhbaaDoorBox
import Derived.Test.YtadlaaddpobhbaaDoorKeyed2
namespace Go.Proofs.YtadlaaddpobhbaaDoor.Md
set_option linter.unusedSimpArgs false
set_option linter.unusedVariables false
open Go.ChangeShapes Go.WideShapes Go.Deep Go.RowKit Cls
set_option maxRecDepth 100000
/-- A stack's letters, its places: the first frame first. -/
def lets (l : List (UInt8 × Nat)) : List UInt8 := (l.map (·.1)).reverse
def plcs (l : List (UInt8 × Nat)) : List Int := (l.map fun e => (e.2 : Int)).reverse
theorem lets_len (l : List (UInt8 × Nat)) : (lets l).length = l.length := by simp [lets]
theorem plcs_len (l : List (UInt8 × Nat)) : (plcs l).length = l.length := by simp [plcs]
theorem lets_cons (c : UInt8) (p : Nat) (l : List (UInt8 × Nat)) : lets ((c, p) :: l) = lets l ++ [c] := by simp [lets]
theorem plcs_cons (c : UInt8) (p : Nat) (l : List (UInt8 × Nat)) : plcs ((c, p) :: l) = plcs l ++ [(p : Int)] := by simp [plcs]
/-- A reference's state reads so. -/
def StR (w : World) (v : Value) (x : St) : Prop := ∃ vp, v = .agg #[.string (B (lets x.l)), vp, .bool x.f] ∧ Sl w numC 1 vp (plcs x.l) ∧ TyS w vp 3
theorem tyS_lt {w : World} {v : Value} {e : TypeId} (h : TyS w v e) : ∀ k, v.ownBlock = some k → k < w.heap.size := fun _ hk => tyOf_lt (h _ hk)
theorem tyS_keeps {F : Nat → Prop} {w w' : World} {v : Value} {e : TypeId} (h : TyS w v e) (hk : Keeps F w w') : TyS w' v e := h.keeps (tyS_lt h) hk
theorem tyS_below {w w' : World} {v : Value} {e : TypeId} (h : TyS w v e) (hb : Below w.heap.size w w') : TyS w' v e := tyS_keeps h (Keeps.of_below (F := fun _ => False) hb)
theorem StR.below {w w' : World} {v : Value} {x : St} (h : StR w v x) (hb : Below w.heap.size w w') : StR w' v x := by
  obtain ⟨vp, e, hs, ht⟩ := h
  exact ⟨vp, e, hs.below hb, tyS_below ht hb⟩
/-- A store into a state's own variable leaves it. -/
theorem StR.set {w : World} {v : Value} {x : St} (h : StR w v x) {r : Nat} (hr : tyOf w r = some 40) (o : Nat) (u : Value) : StR (w.setCell ⟨r, o, none⟩ u) v x ∧ tyOf (w.setCell ⟨r, o, none⟩ u) r = some 40 := by
  obtain ⟨vp, e, hs, ht⟩ := h
  have hk := Keeps.setCell (F := fun k => k = r) w (a := ⟨r, o, none⟩) rfl u
  refine ⟨⟨vp, e, hs.keeps hk (fun k hkv _ e2 => ?_), tyS_keeps ht hk⟩, (tyOf_setCell _ _ _ _).trans hr⟩
  have e3 : k = r := e2
  subst e3
  have := (ht _ hkv).symm.trans hr
  exact absurd (Option.some.inj this) (by decide)
theorem StR.set3 {w : World} {v : Value} {x : St} (h : StR w v x) {r : Nat} (hr : tyOf w r = some 40) (u0 u1 u2 : Value) : StR (((w.setCell ⟨r, 0, none⟩ u0).setCell ⟨r, 1, none⟩ u1).setCell ⟨r, 2, none⟩ u2) v x := by
  obtain ⟨h1, r1⟩ := h.set hr 0 u0
  obtain ⟨h2, r2⟩ := h1.set r1 1 u1
  exact (h2.set r2 2 u2).1
def StP (w : World) (x : St) (e : Ending) (w' : World) : Prop := ∃ v, e = .returned v ∧ StR w' v x ∧ Below w.heap.size w w'
theorem StR.mark {w : World} {vs vp : Value} {b : Bool} {x : St} (h : StR w (.agg #[vs, vp, .bool b]) x) (f : Bool) : StR w (.agg #[vs, vp, .bool f]) (x.mark f) := by
  obtain ⟨vp', e, hs, ht⟩ := h
  simp only [Value.agg.injEq, Array.mk.injEq, List.cons.injEq, and_true] at e
  obtain ⟨rfl, rfl, -⟩ := e
  exact ⟨_, rfl, hs, ht⟩
theorem StR.form {w : World} {v : Value} {x : St} (h : StR w v x) : ∃ A c, v = .agg #[.string (B (lets x.l)), .slice A x.l.length c, .bool x.f] ∧ x.l.length ≤ c ∧ c ≤ 9223372036854775807 ∧ Sl w numC 1 (.slice A x.l.length c) (plcs x.l) ∧ TyS w (.slice A x.l.length c) 3 := by
  obtain ⟨vp, e, hs, ht⟩ := h
  have hs' := hs
  obtain ⟨A, c, rfl, h2, h3, _⟩ := hs
  rw [plcs_len] at e hs' h2 ht
  exact ⟨A, c, e, h2, h3, hs', ht⟩
theorem mark_any {x : St} {v : Value} {w : World} (h : StR w v x) (f : Bool) : Calls Tryd.prog 57 #[v, .bool f] w (StP w (x.mark f)) := by
  obtain ⟨A, c, rfl, hc1, hc2, hs, ht⟩ := h.form
  have HR := Lib.hid h
  clear h hs ht
  go_enter Tryd.func57, Tryd.ntmps57
  go_wp2
  refine bodyPost_ret (v := .agg #[.string (B (lets x.l)), .slice A x.l.length c, .bool f]) (by simp [results, Tryd.results57, go_sem]) rfl ?_
  refine ⟨_, rfl, ?_, ?_⟩
  · refine StR.below (w := w) (HR.out.mark f) ?_
    (repeat (first | exact Below.refl _ _ | assumption | with_reducible refine below_alloc ?_ _ | with_reducible refine below_grow ?_ _ | with_reducible refine below_drewN ?_ _ | with_reducible refine below_drew ?_ | with_reducible refine below_setCell ?_ (by first | (dsimp only; omega) | (simp; done) | (simp; omega)) _))
  · (repeat (first | exact Below.refl _ _ | assumption | with_reducible refine below_alloc ?_ _ | with_reducible refine below_grow ?_ _ | with_reducible refine below_drewN ?_ _ | with_reducible refine below_drew ?_ | with_reducible refine below_setCell ?_ (by first | (dsimp only; omega) | (simp; done) | (simp; omega)) _))
theorem opens_any (b : Int) (w : World) : Calls Tryd.prog 90 #[.int .u8 b] w fun e w' => e = .returned (.string (B (if b == 92 then [88] else if b == 36 then [76] else if b == 96 then [66] else []))) ∧ w = w' := by
  go_enter Tryd.func90, Tryd.ntmps90
  go_wp2
  all_goals
    go_ret
    refine ⟨?_, rfl⟩
    simp [*]
    try rfl
theorem Sl.front {w : World} {xs : List Int} {y : Int} {A : Option Addr} {n c : Nat} (h : Sl w numC 1 (.slice A (n + 1) c) (xs ++ [y])) (hn : xs.length = n) : ∃ b off, A = some ⟨b, off, none⟩ ∧ b < w.heap.size ∧ Sl w numC 1 (.slice A n c) xs := by
  obtain ⟨A', c', e, h2, h3, hz, h4⟩ := h
  simp only [Value.slice.injEq] at e
  obtain ⟨rfl, e2, rfl⟩ := e
  obtain ⟨b, off, rfl, hlt, hc⟩ := h4 (by simp)
  refine ⟨b, off, rfl, hlt, _, _, by rw [hn], by simp at h2; omega, h3, (fun h => by cases h), fun _ => ⟨b, off, rfl, hlt, fun k x hk j u hj => hc k x ?_ j u hj⟩⟩
  rw [List.getElem?_append_left (List.getElem?_eq_some_iff.1 hk).1]
  exact hk
theorem pop_any {c : UInt8} {p : Nat} {r : List (UInt8 × Nat)} {f : Bool} {v : Value} {w : World} (h : StR w v ⟨(c, p) :: r, f⟩) (hl : r.length ≤ 1073741824) : Calls Tryd.prog 59 #[v] w (StP w ⟨r, f⟩) := by
  obtain ⟨vp, rfl, hs, ht⟩ := h
  rw [plcs_cons] at hs
  dsimp only
  rw [lets_cons]
  have hs' := hs
  obtain ⟨A, cp, rfl, h2, h3, _⟩ := hs'
  have hn : (plcs r ++ [(p : Int)]).length = r.length + 1 := by simp [plcs_len]
  rw [hn] at hs h2 ⊢
  obtain ⟨b, off, rfl, hb, hsl⟩ := Sl.front hs (plcs_len r)
  have htk : (lets r ++ [c]).take r.length = lets r := by rw [← lets_len r, List.take_left]
  have hlen : (lets r ++ [c]).length = r.length + 1 := by simp [lets_len]
  have HS := Lib.hid hsl
  have HF := Lib.hid (show ∀ l, Value.string (B l) = .string (B (lets r)) → StR w (.agg #[.string (B l), .slice (some ⟨b, off, none⟩) r.length cp, .bool f]) ⟨r, f⟩ from fun l e => ⟨_, by rw [e], hsl, ht⟩)
  generalize lets r ++ [c] = ls at *
  clear hs hsl hn ht
  go_enter Tryd.func59, Tryd.ntmps59
  go_wp2
  (refine wp_region_grow_tail 11 (by kernel_rfl) (by kernel_rfl) ?_; simp only [List.take_succ_cons, List.take_zero, List.drop_succ_cons, List.drop_zero]; (repeat (go_big_quiet_step (fail))); refine wpQuiet_nil ?_; intro _ hw'; obtain ⟨gq, hw''⟩ := hw'; subst hw'')
  go_wp2
  refine bodyPost_ret (v := .agg #[.string (B (lets r)), .slice (some ⟨b, off, none⟩) r.length cp, .bool f]) (by simp [results, Tryd.results59, go_sem]) rfl ?_
  refine ⟨_, rfl, ?_, ?_⟩
  · refine StR.below (w := w) (HF.out _ rfl) ?_
    (repeat (first | exact Below.refl _ _ | assumption | with_reducible refine below_alloc ?_ _ | with_reducible refine below_grow ?_ _ | with_reducible refine below_drewN ?_ _ | with_reducible refine below_drew ?_ | with_reducible refine below_setCell ?_ (by first | (dsimp only; omega) | (simp; done) | (simp; omega)) _))
  · (repeat (first | exact Below.refl _ _ | assumption | with_reducible refine below_alloc ?_ _ | with_reducible refine below_grow ?_ _ | with_reducible refine below_drewN ?_ _ | with_reducible refine below_drew ?_ | with_reducible refine below_setCell ?_ (by first | (dsimp only; omega) | (simp; done) | (simp; omega)) _))
theorem turn_any {c d : UInt8} {p : Nat} {r : List (UInt8 × Nat)} {f : Bool} {v : Value} {w : World} (h : StR w v ⟨(c, p) :: r, f⟩) (hl : r.length ≤ 1073741824) : Calls Tryd.prog 58 #[v, .string (B [d])] w (StP w ⟨(d, p) :: r, f⟩) := by
  obtain ⟨vp, rfl, hs, ht⟩ := h
  have hs2 : Sl w numC 1 vp (plcs ((d, p) :: r)) := by rw [plcs_cons] at hs ⊢; exact hs
  dsimp only
  rw [lets_cons]
  have hs' := hs
  obtain ⟨A, cp, rfl, h2, h3, _⟩ := hs'
  have htk : (lets r ++ [c]).take r.length = lets r := by rw [← lets_len r, List.take_left]
  have hlen : (lets r ++ [c]).length = r.length + 1 := by simp [lets_len]
  have hll : (lets r).length = r.length := lets_len r
  have HF := Lib.hid (show StR w (.agg #[.string (B (lets r ++ [d])), .slice A (plcs ((c, p) :: r)).length cp, .bool f]) ⟨(d, p) :: r, f⟩ from ⟨_, by dsimp only; rw [lets_cons], hs2, ht⟩)
  generalize (plcs ((c, p) :: r)).length = m at *
  generalize lets r ++ [c] = ls at *
  clear hs hs2 ht
  go_enter Tryd.func58, Tryd.ntmps58
  go_wp2
  (refine wp_region_grow_tail 11 (by kernel_rfl) (by kernel_rfl) ?_; simp only [List.take_succ_cons, List.take_zero, List.drop_succ_cons, List.drop_zero]; (repeat (go_big_quiet_step (fail))); refine wpQuiet_nil ?_; intro _ hw'; obtain ⟨gq, hw''⟩ := hw'; subst hw'')
  go_wp2
  refine bodyPost_ret (v := .agg #[.string (B (lets r ++ [d])), .slice A m cp, .bool f]) (by simp [results, Tryd.results58, go_sem]) rfl ?_
  refine ⟨_, rfl, ?_, ?_⟩
  · refine StR.below (w := w) HF.out ?_
    (repeat (first | exact Below.refl _ _ | assumption | with_reducible refine below_alloc ?_ _ | with_reducible refine below_grow ?_ _ | with_reducible refine below_drewN ?_ _ | with_reducible refine below_drew ?_ | with_reducible refine below_setCell ?_ (by first | (dsimp only; omega) | (simp; done) | (simp; omega)) _))
  · (repeat (first | exact Below.refl _ _ | assumption | with_reducible refine below_alloc ?_ _ | with_reducible refine below_grow ?_ _ | with_reducible refine below_drewN ?_ _ | with_reducible refine below_drew ?_ | with_reducible refine below_setCell ?_ (by first | (dsimp only; omega) | (simp; done) | (simp; omega)) _))
theorem StR.push {w' : World} {v6 v8 : Value} {x : St} {c : UInt8} {p : Nat} (h6 : v6 = .string (B (lets x.l ++ [c]))) (h8 : Sl w' numC 1 v8 (plcs x.l ++ [(p : Int)])) (ht : TyS w' v8 3) : StR w' (.agg #[v6, v8, .bool x.f]) (x.push c p) := by
  subst h6
  exact ⟨_, by unfold St.push; dsimp only; rw [lets_cons], by unfold St.push; dsimp only; rw [plcs_cons]; exact h8, ht⟩
theorem _root_.Go.Proofs.YtadlaaddpobhbaaDoor.BoxN.c3 {w : World} {b : Nat} {u0 u1 u2 : Value} (h : BoxN w b [u0, u1, u2]) : w.cell? ⟨b, 0, none⟩ = some u0 ∧ w.cell? ⟨b, 1, none⟩ = some u1 ∧ w.cell? ⟨b, 2, none⟩ = some u2 := ⟨h.c 0 _ rfl, h.c 1 _ rfl, h.c 2 _ rfl⟩
set_option maxHeartbeats 1600000 in
theorem push_any {x : St} {c : UInt8} {p : Nat} {v : Value} {w : World} (h : StR w v x) (hl : x.l.length ≤ 1073741824) : Calls Tryd.prog 89 #[v, .string (B [c]), .int .i64 p] w (StP w (x.push c p)) := by
  obtain ⟨A, cp, rfl, h2, h3, hs, ht⟩ := h.form
  obtain ⟨i1, hi1, hz10, hz11, hz12⟩ := info_parts info_num
  have hll := lets_len x.l
  have hpl := plcs_len x.l
  have HS := Lib.hid hs
  have HPU := Lib.hid fun (w' : World) (v8 : Value) (h8 : Sl w' numC 1 v8 (plcs x.l ++ [(p : Int)])) (ht : TyS w' v8 3) => StR.push (w' := w') (c := c) rfl h8 ht
  generalize lets x.l = ls at *
  generalize plcs x.l = ps at *
  generalize x.push c p = y at *
  generalize x.l.length = n at *
  have HSS := Lib.hid fun W (h : Sl W numC 1 (.slice A n cp) ps) => (show Src W (.slice A n cp) n (ps.flatMap numC) by have := h.src numC_len; rwa [hpl] at this)
  have HPF := Lib.hid (show (ps.flatMap numC).length = n * 1 by rw [numC_flat, hpl]; omega)
  clear h hs ht
  go_enter Tryd.func89, Tryd.ntmps89
  go_wp2
  have HX := Lib.hid ((BoxN.new w [.string (B ls), .slice A n cp, .bool x.f] 40).below (below_alloc (Below.refl _ _) (.cells #[.string (B []), .slice none 0 0, .bool false] 40)))
  have HR := Lib.hid (BoxN.new (w.alloc (.cells #[.string (B ls), .slice A n cp, .bool x.f] 40)) [.string (B []), .slice none 0 0, .bool false] 40)
  obtain ⟨W, hW⟩ : ∃ W, W = (w.alloc (.cells #[.string (B ls), .slice A n cp, .bool x.f] 40)).alloc (.cells #[.string (B []), .slice none 0 0, .bool false] 40) := ⟨_, rfl⟩
  have HB := Lib.hid (show Below w.heap.size w W by rw [hW]; (repeat (first | exact Below.refl _ _ | assumption | with_reducible refine below_alloc ?_ _ | with_reducible refine below_grow ?_ _ | with_reducible refine below_drewN ?_ _ | with_reducible refine below_drew ?_ | with_reducible refine below_setCell ?_ (by first | (dsimp only; omega) | (simp; done) | (simp; omega)) _)))
  have hWs : w.heap.size + 2 ≤ W.heap.size := by rw [hW]; simp
  simp only [World.size_alloc] at HR
  have HXd : (w.alloc (.cells #[.string (B ls), .slice A n cp, .bool x.f] 40)).heap.size = w.heap.size + 1 := by simp
  rw [← hW] at HX HR ⊢
  clear hW HXd
  have HS := Lib.hid (HS.out.below HB.out)
  refine wp_region_keyed (fun W => W.cell? ⟨w.heap.size, 0, none⟩ = some (.string (B ls)) ∧ W.cell? ⟨w.heap.size, 1, none⟩ = some (.slice A n cp) ∧ W.cell? ⟨w.heap.size, 2, none⟩ = some (.bool x.f)) [14] (by kernel_rfl) ?_
  obtain ⟨D, hD⟩ : ∃ D, D = W.drew := ⟨_, rfl⟩
  have HX := Lib.hid (HX.out.below (below_drew (Below.refl _ _)))
  have HR := Lib.hid (HR.out.below (below_drew (Below.refl _ _)))
  have HS := Lib.hid (HS.out.below (below_drew (Below.refl _ _)))
  have HB := Lib.hid (below_drew HB.out)
  have hds : w.heap.size + 2 ≤ D.heap.size := by rw [hD]; exact hWs
  rw [← hD] at HX HR HS HB ⊢
  clear hD hWs
  refine wpAnyK_take2 (i := 0) (some 7) (v := ?v0_1z1) rfl rfl (by kernel_rfl) (by kernel_rfl) (by kernel_rfl) (by kernel_rfl) (fun _ _ _ h => h) (Or.inl ⟨by rfl, ?y0_1z1⟩) (fun _ => HX.out.c3) ?r0_1z1
  case y0_1z1 =>
    intro w hSw
    go_simp
    try with_reducible rfl
  try simp only [Act.put, List.setIfInBounds_toArray, List.set_cons_zero, List.set_cons_succ]
  refine wpAnyK_load2 (i := 1) [3, 13, 14] (some 8) (v := ?v1_2z1) rfl rfl (by kernel_rfl) (by kernel_rfl) (by kernel_rfl) (by kernel_rfl) (by kernel_rfl) (fun _ _ _ h => h) (Or.inl ⟨by rfl, ?y1_2z1⟩) (fun _ => HX.out.c3) ?r1_2z1
  case y1_2z1 =>
    intro w hSw
    (try dsimp only at hSw)
    go_split_ands
    go_simp
    try with_reducible rfl
  try simp only [Act.put, List.setIfInBounds_toArray, List.set_cons_zero, List.set_cons_succ]
  refine wpAnyK_take2 (i := 2) (some 9) (v := ?v2_3z1) rfl rfl (by kernel_rfl) (by kernel_rfl) (by kernel_rfl) (by kernel_rfl) (fun _ _ _ h => h) (Or.inl ⟨by rfl, ?y2_3z1⟩) (fun _ => HX.out.c3) ?r2_3z1
  case y2_3z1 =>
    intro w hSw
    go_simp
    try with_reducible rfl
  try simp only [Act.put, List.setIfInBounds_toArray, List.set_cons_zero, List.set_cons_succ]
  refine wpAnyK_load2 (i := 3) [13, 14] (some 10) (v := ?v3_4z1) rfl rfl (by kernel_rfl) (by kernel_rfl) (by kernel_rfl) (by kernel_rfl) (by kernel_rfl) (fun _ _ _ h => h) (Or.inl ⟨by rfl, ?y3_4z1⟩) (fun _ => HX.out.c3) ?r3_4z1
  case y3_4z1 =>
    intro w hSw
    (try dsimp only at hSw)
    go_simp
    rw [if_neg (by omega)]
  try simp only [Act.put, List.setIfInBounds_toArray, List.set_cons_zero, List.set_cons_succ]
  refine wpAnyK_take2 (i := 5) (some 12) (v := ?v5_5z1) rfl rfl (by kernel_rfl) (by kernel_rfl) (by kernel_rfl) (by kernel_rfl) (fun _ _ _ h => h) (Or.inl ⟨by rfl, ?y5_5z1⟩) (fun _ => HX.out.c3) ?r5_5z1
  case y5_5z1 =>
    intro w hSw
    go_simp
    try with_reducible rfl
  try simp only [Act.put, List.setIfInBounds_toArray, List.set_cons_zero, List.set_cons_succ]
  refine wpAnyK_load2 (i := 6) [7, 10, 13, 14] (some 13) (v := ?v6_6z1) rfl rfl (by kernel_rfl) (by kernel_rfl) (by kernel_rfl) (by kernel_rfl) (by kernel_rfl) (fun _ _ _ h => h) (Or.inl ⟨by rfl, ?y6_6z1⟩) (fun _ => HX.out.c3) ?r6_6z1
  case y6_6z1 =>
    intro w hSw
    (try dsimp only at hSw)
    go_split_ands
    go_simp
    try with_reducible rfl
  try simp only [Act.put, List.setIfInBounds_toArray, List.set_cons_zero, List.set_cons_succ]
  refine wpAnyK_take2 (i := 8) (some 15) (v := ?v8_7z1) rfl rfl (by kernel_rfl) (by kernel_rfl) (by kernel_rfl) (by kernel_rfl) (fun _ _ _ h => h) (Or.inl ⟨by rfl, ?y8_7z1⟩) (fun _ => HX.out.c3) ?r8_7z1
  case y8_7z1 =>
    intro w hSw
    go_simp
    try with_reducible rfl
  try simp only [Act.put, List.setIfInBounds_toArray, List.set_cons_zero, List.set_cons_succ]
  refine wpAnyK_take2 (i := 11) (some 18) (v := ?v11_8z1) rfl rfl (by kernel_rfl) (by kernel_rfl) (by kernel_rfl) (by kernel_rfl) (fun _ _ _ h => h) (Or.inl ⟨by rfl, ?y11_8z1⟩) (fun _ => HX.out.c3) ?r11_8z1
  case y11_8z1 =>
    intro w hSw
    go_simp
    try with_reducible rfl
  try simp only [Act.put, List.setIfInBounds_toArray, List.set_cons_zero, List.set_cons_succ]
  refine wpAnyK_load2 (i := 12) [13, 14] (some 19) (v := ?v12_9z1) rfl rfl (by kernel_rfl) (by kernel_rfl) (by kernel_rfl) (by kernel_rfl) (by kernel_rfl) (fun _ _ _ h => h) (Or.inl ⟨by rfl, ?y12_9z1⟩) (fun _ => HX.out.c3) ?r12_9z1
  case y12_9z1 =>
    intro w hSw
    (try dsimp only at hSw)
    go_split_ands
    go_simp
    try with_reducible rfl
  try simp only [Act.put, List.setIfInBounds_toArray, List.set_cons_zero, List.set_cons_succ]
  refine wpAnyK_ready (rs := [4, 9]) (by kernel_rfl) (by simp) ?_
  refine AllReadyK.cons (i := 4) rfl (fun K hK => ?_) ?_
  · go_simp
    have HN : Hid (Own (D.alloc (.cells #[] 3)) w.heap.size 1 (.slice (some ⟨D.heap.size, 0, none⟩) 0 0) 0 []) := Own.none_ _ _ _ _ _ (by simp)
    have HX := Lib.hid (HX.out.below (below_alloc (Below.refl _ _) (.cells #[] 3)))
    have HR := Lib.hid (HR.out.below (below_alloc (Below.refl _ _) (.cells #[] 3)))
    have HS := Lib.hid (HS.out.below (below_alloc (Below.refl _ _) (.cells #[] 3)))
    have HB := Lib.hid (below_alloc HB.out (.cells #[] 3))
    try have hne : g9 ≠ D.heap.size := by have := HO.out.lt; omega
    have HT : Hid (TyS (D.alloc (.cells #[] 3)) (.slice (some ⟨D.heap.size, 0, none⟩) 0 0) 3) := fun k hk => by cases hk; exact tyOf_alloc _ _ _
    try have HO := Lib.hid (HO.out.below (below_alloc (Below.refl _ _) (.cells #[] 3)))
    have hg0 : w.heap.size + 2 ≤ D.heap.size := hds
    have hds : w.heap.size + 2 ≤ (D.alloc (.cells #[] 3)).heap.size := by simp; omega
    generalize D.heap.size = g0 at *
    generalize D.alloc (.cells #[] 3) = D at *
    refine hK.out _ _ (fun _ => HX.out.c3) ?_
    clear hK K
    try simp only [Act.put, List.setIfInBounds_toArray, List.set_cons_zero, List.set_cons_succ]
    refine wpAnyK_ready (rs := [7, 9]) (by kernel_rfl) (by simp) ?_
    refine AllReadyK.cons (i := 7) rfl (fun K hK => ?_) ?_
    · (refine step_append_src _ rfl (.tmp 11) (.tmp 13) _ rfl w.heap.size 3 i1 _ 1 8 Tryd.underlying38 hi1 hz10 hz11 hz12 rfl (by decide) _ 0 [] rfl HN.out _ n (ps.flatMap numC) rfl HPF.out (HSS.out _ HS.out) numC_one (by unfold maxLen; omega) (by omega) (by first | (simp; done) | omega | (simp; omega)) ?_; intro v7 w7 hown7 hg7 hat7 hty7; have HTY7 := Lib.hid hty7; clear hty7)
      have hg7' : Keeps (fun k => (Value.slice (some ⟨g0, 0, none⟩) 0 0).ownBlock = some k ∧ w.heap.size ≤ k) D w7 := hg7
      have hk7 := hg7'.mono (G := fun k => k = g0) (fun k _ e => by have h := e.1; simp only [Value.ownBlock, Option.map_some, Option.some.injEq] at h; exact h.symm)
      have hat7' : v7.ownBlock = some g0 ∨ ∀ k, v7.ownBlock = some k → D.heap.size ≤ k := hat7
      have HX := Lib.hid (HX.out.keeps hk7 (by omega))
      have HR := Lib.hid (HR.out.keeps hk7 (by omega))
      have HB := Lib.hid (below_keeps HB.out hk7 (fun k e => by omega))
      have H7b := Lib.hid (show ∀ k, v7.ownBlock = some k → w.heap.size + 2 ≤ k from fun k hk => by
        rcases hat7' with e | e
        · rw [e] at hk; cases hk; omega
        · have := e k hk; omega)
      try have HO := Lib.hid (HO.out.keeps hk7 (by omega))
      have HT := Lib.hid (TyS.append HT.out (tyS_lt HT.out) hk7 hat7' HTY7.out)
      have hds := Nat.le_trans hds hk7.size
      rw [Nat.zero_add, List.nil_append] at hown7
      have H7 := Lib.hid hown7
      clear hown7 hg7 hg7' hat7 hat7' HTY7 hk7 HN HS
      obtain ⟨D, rfl⟩ : ∃ W, W = w7 := ⟨_, rfl⟩
      refine hK.out _ _ (fun _ => HX.out.c3) ?_
      clear hK K
      try simp only [Act.put, List.setIfInBounds_toArray, List.set_cons_zero, List.set_cons_succ]
      refine wpAnyK_ready (rs := [9]) (by kernel_rfl) (by simp) ?_
      refine AllReadyK.cons (i := 9) rfl (fun K hK => ?_) ?_
      · go_simp
        have HX := Lib.hid (HX.out.below (below_alloc (Below.refl _ _) (.cells #[.int .i64 p] 3)))
        have HR := Lib.hid (HR.out.below (below_alloc (Below.refl _ _) (.cells #[.int .i64 p] 3)))
        try have HS := Lib.hid (HS.out.below (below_alloc (Below.refl _ _) (.cells #[.int .i64 p] 3)))
        have HB := Lib.hid (below_alloc HB.out (.cells #[.int .i64 p] 3))
        try have hne : g0 ≠ D.heap.size := by have := HN.out.lt g0 rfl; omega
        try have HN := Lib.hid (HN.out.below (below_alloc (Below.refl _ _) (.cells #[.int .i64 p] 3)))
        try have H7 := Lib.hid (H7.out.below (below_alloc (Below.refl _ _) (.cells #[.int .i64 p] 3)))
        try have HT := Lib.hid (tyS_below HT.out (below_alloc (Below.refl _ _) (.cells #[.int .i64 p] 3)))
        have HO := Lib.hid (BoxN.new D [.int .i64 p] 3)
        have hds : w.heap.size + 2 ≤ (D.alloc (.cells #[.int .i64 p] 3)).heap.size := by simp; omega
        generalize D.heap.size = g9 at *
        generalize D.alloc (.cells #[.int .i64 p] 3) = D at *
        refine hK.out _ _ (fun _ => HX.out.c3) ?_
        clear hK K
        try simp only [Act.put, List.setIfInBounds_toArray, List.set_cons_zero, List.set_cons_succ]
        refine wpAnyK_ready (rs := [10]) (by kernel_rfl) (by simp) ?_
        refine AllReadyK.cons (i := 10) rfl (fun K hK => ?_) ?_
        · (refine step_append_src _ rfl (.tmp 14) (.tmp 16) _ rfl w.heap.size 3 i1 _ 1 8 Tryd.underlying38 hi1 hz10 hz11 hz12 rfl (by decide) _ n (ps.flatMap numC) rfl H7.out _ 1 [.int .i64 p] rfl rfl HO.out.src (by intro u hu; simp at hu; subst hu; rfl) (by unfold maxLen; omega) (by omega) (by first | (simp; done) | omega | (simp; omega)) ?_; intro v10 w10 hown10 hg10 hat10 hty10; have HTY10 := Lib.hid hty10; clear hty10)
          have hk10 := hg10.mono (G := fun k => w.heap.size + 2 ≤ k) (fun k _ e => H7b.out k e.1)
          have HX := Lib.hid (HX.out.keeps hk10 (by omega))
          have HR := Lib.hid (HR.out.keeps hk10 (by omega))
          have HB := Lib.hid (below_keeps HB.out hk10 (fun k e => by omega))
          have H10 := Lib.hid hown10
          have hat10' : v10.ownBlock = v7.ownBlock ∨ ∀ k, v10.ownBlock = some k → D.heap.size ≤ k := hat10
          have H10b : ∀ k, v10.ownBlock = some k → w.heap.size + 2 ≤ k := fun k hk => by
            rcases hat10' with e | e
            · rw [e] at hk; exact H7b.out k hk
            · have := e k hk; omega
          have HT := Lib.hid (TyS.append HT.out (tyS_lt HT.out) hk10 hat10' HTY10.out)
          obtain ⟨g10, o10, c10, rfl, -, -, -, -⟩ := hown10.form
          have H10g := Lib.hid (H10b g10 rfl)
          clear hown10 hg10 hat10 hat10' H10b HTY10 hk10 H7 HO H7b
          obtain ⟨D, rfl⟩ : ∃ W, W = w10 := ⟨_, rfl⟩
          refine hK.out _ _ (fun _ => HX.out.c3) ?_
          clear hK K
          try simp only [Act.put, List.setIfInBounds_toArray, List.set_cons_zero, List.set_cons_succ]
          refine wpAnyK_take2 (i := 13) (some 20) (v := ?v13_10z1) rfl rfl (by kernel_rfl) (by kernel_rfl) (by kernel_rfl) (by kernel_rfl) (fun _ _ _ h => h) (Or.inl ⟨by rfl, ?y13_10z1⟩) (fun _ => HX.out.c3) ?r13_10z1
          case y13_10z1 =>
            intro w hSw
            go_simp
            try with_reducible rfl
          try simp only [Act.put, List.setIfInBounds_toArray, List.set_cons_zero, List.set_cons_succ]
          refine wpAnyK_ready (rs := [14]) (by kernel_rfl) (by simp) ?_
          refine AllReadyK.cons (i := 14) rfl (fun K hK => ?_) ?_
          · haveI : Old D (w.heap.size + 1) := ⟨HR.out.lt⟩
            have r0 : D.cell? ⟨w.heap.size + 1, 0, none⟩ = some (.string (B [])) := HR.out.c 0 _ rfl
            have r1 : D.cell? ⟨w.heap.size + 1, 1, none⟩ = some (.slice none 0 0) := HR.out.c 1 _ rfl
            have r2 : D.cell? ⟨w.heap.size + 1, 2, none⟩ = some (.bool false) := HR.out.c 2 _ rfl
            have s0 : D.frozen? ⟨w.heap.size + 1, 0, none⟩ = false := HR.out.f 0
            have s1 : D.frozen? ⟨w.heap.size + 1, 1, none⟩ = false := HR.out.f 1
            have s2 : D.frozen? ⟨w.heap.size + 1, 2, none⟩ = false := HR.out.f 2
            go_simp
            refine hK.out _ _ (fun h => Bool.noConfusion ((show unl _ _ = false by kernel_rfl).symm.trans h)) ?_
            clear hK K
            try simp only [Act.put, List.setIfInBounds_toArray, List.set_cons_zero, List.set_cons_succ]
            refine wpAnyK_done (by kernel_rfl) ?_ _
            go_wp2
            refine bodyPost_ret (v := .agg #[.string (B (ls ++ [c])), .slice (some ⟨g10, o10, none⟩) (n + 1) c10, .bool x.f]) (by simp [results, Tryd.results89, go_sem, r0, r1, r2]) rfl ?_
            have hK3 := ((Keeps.setCell (F := fun k => k = w.heap.size + 1) D (a := ⟨w.heap.size + 1, 0, none⟩) rfl (.string (B (ls ++ [c])))).trans (Keeps.setCell (F := fun k => k = w.heap.size + 1) _ (a := ⟨w.heap.size + 1, 1, none⟩) rfl (.slice (some ⟨g10, o10, none⟩) (n + 1) c10))).trans (Keeps.setCell (F := fun k => k = w.heap.size + 1) _ (a := ⟨w.heap.size + 1, 2, none⟩) rfl (.bool x.f))
            refine ⟨_, rfl, HPU.out _ _ ?_ (tyS_keeps HT.out hK3), below_keeps HB.out hK3 (fun k e => by omega)⟩
            have hfl : (ps ++ [(p : Int)]).flatMap numC = ps.flatMap numC ++ [Value.int .i64 p] := by rw [List.flatMap_append]; rfl
            have H10' := H10.out
            rw [← hfl] at H10'
            exact ((H10'.sl numC_len (by simp [hpl])).keeps hK3 (fun k hk _ e => by have e2 : k = w.heap.size + 1 := e; have h3 : some g10 = some k := hk; injection h3 with h3; have := H10g.out; omega))
          exact AllReadyK.nil
        exact AllReadyK.nil
      exact AllReadyK.nil
    refine AllReadyK.cons (i := 9) rfl (fun K hK => ?_) ?_
    · go_simp
      have HX := Lib.hid (HX.out.below (below_alloc (Below.refl _ _) (.cells #[.int .i64 p] 3)))
      have HR := Lib.hid (HR.out.below (below_alloc (Below.refl _ _) (.cells #[.int .i64 p] 3)))
      try have HS := Lib.hid (HS.out.below (below_alloc (Below.refl _ _) (.cells #[.int .i64 p] 3)))
      have HB := Lib.hid (below_alloc HB.out (.cells #[.int .i64 p] 3))
      try have hne : g0 ≠ D.heap.size := by have := HN.out.lt g0 rfl; omega
      try have HN := Lib.hid (HN.out.below (below_alloc (Below.refl _ _) (.cells #[.int .i64 p] 3)))
      try have H7 := Lib.hid (H7.out.below (below_alloc (Below.refl _ _) (.cells #[.int .i64 p] 3)))
      try have HT := Lib.hid (tyS_below HT.out (below_alloc (Below.refl _ _) (.cells #[.int .i64 p] 3)))
      have HO := Lib.hid (BoxN.new D [.int .i64 p] 3)
      have hds : w.heap.size + 2 ≤ (D.alloc (.cells #[.int .i64 p] 3)).heap.size := by simp; omega
      generalize D.heap.size = g9 at *
      generalize D.alloc (.cells #[.int .i64 p] 3) = D at *
      refine hK.out _ _ (fun _ => HX.out.c3) ?_
      clear hK K
      try simp only [Act.put, List.setIfInBounds_toArray, List.set_cons_zero, List.set_cons_succ]
      refine wpAnyK_ready (rs := [7]) (by kernel_rfl) (by simp) ?_
      refine AllReadyK.cons (i := 7) rfl (fun K hK => ?_) ?_
      · (refine step_append_src _ rfl (.tmp 11) (.tmp 13) _ rfl w.heap.size 3 i1 _ 1 8 Tryd.underlying38 hi1 hz10 hz11 hz12 rfl (by decide) _ 0 [] rfl HN.out _ n (ps.flatMap numC) rfl HPF.out (HSS.out _ HS.out) numC_one (by unfold maxLen; omega) (by omega) (by first | (simp; done) | omega | (simp; omega)) ?_; intro v7 w7 hown7 hg7 hat7 hty7; have HTY7 := Lib.hid hty7; clear hty7)
        have hg7' : Keeps (fun k => (Value.slice (some ⟨g0, 0, none⟩) 0 0).ownBlock = some k ∧ w.heap.size ≤ k) D w7 := hg7
        have hk7 := hg7'.mono (G := fun k => k = g0) (fun k _ e => by have h := e.1; simp only [Value.ownBlock, Option.map_some, Option.some.injEq] at h; exact h.symm)
        have hat7' : v7.ownBlock = some g0 ∨ ∀ k, v7.ownBlock = some k → D.heap.size ≤ k := hat7
        have HX := Lib.hid (HX.out.keeps hk7 (by omega))
        have HR := Lib.hid (HR.out.keeps hk7 (by omega))
        have HB := Lib.hid (below_keeps HB.out hk7 (fun k e => by omega))
        have H7b := Lib.hid (show ∀ k, v7.ownBlock = some k → w.heap.size + 2 ≤ k from fun k hk => by
          rcases hat7' with e | e
          · rw [e] at hk; cases hk; omega
          · have := e k hk; omega)
        try have HO := Lib.hid (HO.out.keeps hk7 (by omega))
        have HT := Lib.hid (TyS.append HT.out (tyS_lt HT.out) hk7 hat7' HTY7.out)
        have hds := Nat.le_trans hds hk7.size
        rw [Nat.zero_add, List.nil_append] at hown7
        have H7 := Lib.hid hown7
        clear hown7 hg7 hg7' hat7 hat7' HTY7 hk7 HN HS
        obtain ⟨D, rfl⟩ : ∃ W, W = w7 := ⟨_, rfl⟩
        refine hK.out _ _ (fun _ => HX.out.c3) ?_
        clear hK K
        try simp only [Act.put, List.setIfInBounds_toArray, List.set_cons_zero, List.set_cons_succ]
        refine wpAnyK_ready (rs := [10]) (by kernel_rfl) (by simp) ?_
        refine AllReadyK.cons (i := 10) rfl (fun K hK => ?_) ?_
        · (refine step_append_src _ rfl (.tmp 14) (.tmp 16) _ rfl w.heap.size 3 i1 _ 1 8 Tryd.underlying38 hi1 hz10 hz11 hz12 rfl (by decide) _ n (ps.flatMap numC) rfl H7.out _ 1 [.int .i64 p] rfl rfl HO.out.src (by intro u hu; simp at hu; subst hu; rfl) (by unfold maxLen; omega) (by omega) (by first | (simp; done) | omega | (simp; omega)) ?_; intro v10 w10 hown10 hg10 hat10 hty10; have HTY10 := Lib.hid hty10; clear hty10)
          have hk10 := hg10.mono (G := fun k => w.heap.size + 2 ≤ k) (fun k _ e => H7b.out k e.1)
          have HX := Lib.hid (HX.out.keeps hk10 (by omega))
          have HR := Lib.hid (HR.out.keeps hk10 (by omega))
          have HB := Lib.hid (below_keeps HB.out hk10 (fun k e => by omega))
          have H10 := Lib.hid hown10
          have hat10' : v10.ownBlock = v7.ownBlock ∨ ∀ k, v10.ownBlock = some k → D.heap.size ≤ k := hat10
          have H10b : ∀ k, v10.ownBlock = some k → w.heap.size + 2 ≤ k := fun k hk => by
            rcases hat10' with e | e
            · rw [e] at hk; exact H7b.out k hk
            · have := e k hk; omega
          have HT := Lib.hid (TyS.append HT.out (tyS_lt HT.out) hk10 hat10' HTY10.out)
          obtain ⟨g10, o10, c10, rfl, -, -, -, -⟩ := hown10.form
          have H10g := Lib.hid (H10b g10 rfl)
          clear hown10 hg10 hat10 hat10' H10b HTY10 hk10 H7 HO H7b
          obtain ⟨D, rfl⟩ : ∃ W, W = w10 := ⟨_, rfl⟩
          refine hK.out _ _ (fun _ => HX.out.c3) ?_
          clear hK K
          try simp only [Act.put, List.setIfInBounds_toArray, List.set_cons_zero, List.set_cons_succ]
          refine wpAnyK_take2 (i := 13) (some 20) (v := ?v13_11z1) rfl rfl (by kernel_rfl) (by kernel_rfl) (by kernel_rfl) (by kernel_rfl) (fun _ _ _ h => h) (Or.inl ⟨by rfl, ?y13_11z1⟩) (fun _ => HX.out.c3) ?r13_11z1
          case y13_11z1 =>
            intro w hSw
            go_simp
            try with_reducible rfl
          try simp only [Act.put, List.setIfInBounds_toArray, List.set_cons_zero, List.set_cons_succ]
          refine wpAnyK_ready (rs := [14]) (by kernel_rfl) (by simp) ?_
          refine AllReadyK.cons (i := 14) rfl (fun K hK => ?_) ?_
          · haveI : Old D (w.heap.size + 1) := ⟨HR.out.lt⟩
            have r0 : D.cell? ⟨w.heap.size + 1, 0, none⟩ = some (.string (B [])) := HR.out.c 0 _ rfl
            have r1 : D.cell? ⟨w.heap.size + 1, 1, none⟩ = some (.slice none 0 0) := HR.out.c 1 _ rfl
            have r2 : D.cell? ⟨w.heap.size + 1, 2, none⟩ = some (.bool false) := HR.out.c 2 _ rfl
            have s0 : D.frozen? ⟨w.heap.size + 1, 0, none⟩ = false := HR.out.f 0
            have s1 : D.frozen? ⟨w.heap.size + 1, 1, none⟩ = false := HR.out.f 1
            have s2 : D.frozen? ⟨w.heap.size + 1, 2, none⟩ = false := HR.out.f 2
            go_simp
            refine hK.out _ _ (fun h => Bool.noConfusion ((show unl _ _ = false by kernel_rfl).symm.trans h)) ?_
            clear hK K
            try simp only [Act.put, List.setIfInBounds_toArray, List.set_cons_zero, List.set_cons_succ]
            refine wpAnyK_done (by kernel_rfl) ?_ _
            go_wp2
            refine bodyPost_ret (v := .agg #[.string (B (ls ++ [c])), .slice (some ⟨g10, o10, none⟩) (n + 1) c10, .bool x.f]) (by simp [results, Tryd.results89, go_sem, r0, r1, r2]) rfl ?_
            have hK3 := ((Keeps.setCell (F := fun k => k = w.heap.size + 1) D (a := ⟨w.heap.size + 1, 0, none⟩) rfl (.string (B (ls ++ [c])))).trans (Keeps.setCell (F := fun k => k = w.heap.size + 1) _ (a := ⟨w.heap.size + 1, 1, none⟩) rfl (.slice (some ⟨g10, o10, none⟩) (n + 1) c10))).trans (Keeps.setCell (F := fun k => k = w.heap.size + 1) _ (a := ⟨w.heap.size + 1, 2, none⟩) rfl (.bool x.f))
            refine ⟨_, rfl, HPU.out _ _ ?_ (tyS_keeps HT.out hK3), below_keeps HB.out hK3 (fun k e => by omega)⟩
            have hfl : (ps ++ [(p : Int)]).flatMap numC = ps.flatMap numC ++ [Value.int .i64 p] := by rw [List.flatMap_append]; rfl
            have H10' := H10.out
            rw [← hfl] at H10'
            exact ((H10'.sl numC_len (by simp [hpl])).keeps hK3 (fun k hk _ e => by have e2 : k = w.heap.size + 1 := e; have h3 : some g10 = some k := hk; injection h3 with h3; have := H10g.out; omega))
          exact AllReadyK.nil
        exact AllReadyK.nil
      exact AllReadyK.nil
    exact AllReadyK.nil
  refine AllReadyK.cons (i := 9) rfl (fun K hK => ?_) ?_
  · go_simp
    have HX := Lib.hid (HX.out.below (below_alloc (Below.refl _ _) (.cells #[.int .i64 p] 3)))
    have HR := Lib.hid (HR.out.below (below_alloc (Below.refl _ _) (.cells #[.int .i64 p] 3)))
    try have HS := Lib.hid (HS.out.below (below_alloc (Below.refl _ _) (.cells #[.int .i64 p] 3)))
    have HB := Lib.hid (below_alloc HB.out (.cells #[.int .i64 p] 3))
    try have hne : g0 ≠ D.heap.size := by have := HN.out.lt g0 rfl; omega
    try have HN := Lib.hid (HN.out.below (below_alloc (Below.refl _ _) (.cells #[.int .i64 p] 3)))
    try have H7 := Lib.hid (H7.out.below (below_alloc (Below.refl _ _) (.cells #[.int .i64 p] 3)))
    try have HT := Lib.hid (tyS_below HT.out (below_alloc (Below.refl _ _) (.cells #[.int .i64 p] 3)))
    have HO := Lib.hid (BoxN.new D [.int .i64 p] 3)
    have hds : w.heap.size + 2 ≤ (D.alloc (.cells #[.int .i64 p] 3)).heap.size := by simp; omega
    generalize D.heap.size = g9 at *
    generalize D.alloc (.cells #[.int .i64 p] 3) = D at *
    refine hK.out _ _ (fun _ => HX.out.c3) ?_
    clear hK K
    try simp only [Act.put, List.setIfInBounds_toArray, List.set_cons_zero, List.set_cons_succ]
    refine wpAnyK_ready (rs := [4]) (by kernel_rfl) (by simp) ?_
    refine AllReadyK.cons (i := 4) rfl (fun K hK => ?_) ?_
    · go_simp
      have HN : Hid (Own (D.alloc (.cells #[] 3)) w.heap.size 1 (.slice (some ⟨D.heap.size, 0, none⟩) 0 0) 0 []) := Own.none_ _ _ _ _ _ (by simp)
      have HX := Lib.hid (HX.out.below (below_alloc (Below.refl _ _) (.cells #[] 3)))
      have HR := Lib.hid (HR.out.below (below_alloc (Below.refl _ _) (.cells #[] 3)))
      have HS := Lib.hid (HS.out.below (below_alloc (Below.refl _ _) (.cells #[] 3)))
      have HB := Lib.hid (below_alloc HB.out (.cells #[] 3))
      try have hne : g9 ≠ D.heap.size := by have := HO.out.lt; omega
      have HT : Hid (TyS (D.alloc (.cells #[] 3)) (.slice (some ⟨D.heap.size, 0, none⟩) 0 0) 3) := fun k hk => by cases hk; exact tyOf_alloc _ _ _
      try have HO := Lib.hid (HO.out.below (below_alloc (Below.refl _ _) (.cells #[] 3)))
      have hg0 : w.heap.size + 2 ≤ D.heap.size := hds
      have hds : w.heap.size + 2 ≤ (D.alloc (.cells #[] 3)).heap.size := by simp; omega
      generalize D.heap.size = g0 at *
      generalize D.alloc (.cells #[] 3) = D at *
      refine hK.out _ _ (fun _ => HX.out.c3) ?_
      clear hK K
      try simp only [Act.put, List.setIfInBounds_toArray, List.set_cons_zero, List.set_cons_succ]
      refine wpAnyK_ready (rs := [7]) (by kernel_rfl) (by simp) ?_
      refine AllReadyK.cons (i := 7) rfl (fun K hK => ?_) ?_
      · (refine step_append_src _ rfl (.tmp 11) (.tmp 13) _ rfl w.heap.size 3 i1 _ 1 8 Tryd.underlying38 hi1 hz10 hz11 hz12 rfl (by decide) _ 0 [] rfl HN.out _ n (ps.flatMap numC) rfl HPF.out (HSS.out _ HS.out) numC_one (by unfold maxLen; omega) (by omega) (by first | (simp; done) | omega | (simp; omega)) ?_; intro v7 w7 hown7 hg7 hat7 hty7; have HTY7 := Lib.hid hty7; clear hty7)
        have hg7' : Keeps (fun k => (Value.slice (some ⟨g0, 0, none⟩) 0 0).ownBlock = some k ∧ w.heap.size ≤ k) D w7 := hg7
        have hk7 := hg7'.mono (G := fun k => k = g0) (fun k _ e => by have h := e.1; simp only [Value.ownBlock, Option.map_some, Option.some.injEq] at h; exact h.symm)
        have hat7' : v7.ownBlock = some g0 ∨ ∀ k, v7.ownBlock = some k → D.heap.size ≤ k := hat7
        have HX := Lib.hid (HX.out.keeps hk7 (by omega))
        have HR := Lib.hid (HR.out.keeps hk7 (by omega))
        have HB := Lib.hid (below_keeps HB.out hk7 (fun k e => by omega))
        have H7b := Lib.hid (show ∀ k, v7.ownBlock = some k → w.heap.size + 2 ≤ k from fun k hk => by
          rcases hat7' with e | e
          · rw [e] at hk; cases hk; omega
          · have := e k hk; omega)
        try have HO := Lib.hid (HO.out.keeps hk7 (by omega))
        have HT := Lib.hid (TyS.append HT.out (tyS_lt HT.out) hk7 hat7' HTY7.out)
        have hds := Nat.le_trans hds hk7.size
        rw [Nat.zero_add, List.nil_append] at hown7
        have H7 := Lib.hid hown7
        clear hown7 hg7 hg7' hat7 hat7' HTY7 hk7 HN HS
        obtain ⟨D, rfl⟩ : ∃ W, W = w7 := ⟨_, rfl⟩
        refine hK.out _ _ (fun _ => HX.out.c3) ?_
        clear hK K
        try simp only [Act.put, List.setIfInBounds_toArray, List.set_cons_zero, List.set_cons_succ]
        refine wpAnyK_ready (rs := [10]) (by kernel_rfl) (by simp) ?_
        refine AllReadyK.cons (i := 10) rfl (fun K hK => ?_) ?_
        · (refine step_append_src _ rfl (.tmp 14) (.tmp 16) _ rfl w.heap.size 3 i1 _ 1 8 Tryd.underlying38 hi1 hz10 hz11 hz12 rfl (by decide) _ n (ps.flatMap numC) rfl H7.out _ 1 [.int .i64 p] rfl rfl HO.out.src (by intro u hu; simp at hu; subst hu; rfl) (by unfold maxLen; omega) (by omega) (by first | (simp; done) | omega | (simp; omega)) ?_; intro v10 w10 hown10 hg10 hat10 hty10; have HTY10 := Lib.hid hty10; clear hty10)
          have hk10 := hg10.mono (G := fun k => w.heap.size + 2 ≤ k) (fun k _ e => H7b.out k e.1)
          have HX := Lib.hid (HX.out.keeps hk10 (by omega))
          have HR := Lib.hid (HR.out.keeps hk10 (by omega))
          have HB := Lib.hid (below_keeps HB.out hk10 (fun k e => by omega))
          have H10 := Lib.hid hown10
          have hat10' : v10.ownBlock = v7.ownBlock ∨ ∀ k, v10.ownBlock = some k → D.heap.size ≤ k := hat10
          have H10b : ∀ k, v10.ownBlock = some k → w.heap.size + 2 ≤ k := fun k hk => by
            rcases hat10' with e | e
            · rw [e] at hk; exact H7b.out k hk
            · have := e k hk; omega
          have HT := Lib.hid (TyS.append HT.out (tyS_lt HT.out) hk10 hat10' HTY10.out)
          obtain ⟨g10, o10, c10, rfl, -, -, -, -⟩ := hown10.form
          have H10g := Lib.hid (H10b g10 rfl)
          clear hown10 hg10 hat10 hat10' H10b HTY10 hk10 H7 HO H7b
          obtain ⟨D, rfl⟩ : ∃ W, W = w10 := ⟨_, rfl⟩
          refine hK.out _ _ (fun _ => HX.out.c3) ?_
          clear hK K
          try simp only [Act.put, List.setIfInBounds_toArray, List.set_cons_zero, List.set_cons_succ]
          refine wpAnyK_take2 (i := 13) (some 20) (v := ?v13_12z1) rfl rfl (by kernel_rfl) (by kernel_rfl) (by kernel_rfl) (by kernel_rfl) (fun _ _ _ h => h) (Or.inl ⟨by rfl, ?y13_12z1⟩) (fun _ => HX.out.c3) ?r13_12z1
          case y13_12z1 =>
            intro w hSw
            go_simp
            try with_reducible rfl
          try simp only [Act.put, List.setIfInBounds_toArray, List.set_cons_zero, List.set_cons_succ]
          refine wpAnyK_ready (rs := [14]) (by kernel_rfl) (by simp) ?_
          refine AllReadyK.cons (i := 14) rfl (fun K hK => ?_) ?_
          · haveI : Old D (w.heap.size + 1) := ⟨HR.out.lt⟩
            have r0 : D.cell? ⟨w.heap.size + 1, 0, none⟩ = some (.string (B [])) := HR.out.c 0 _ rfl
            have r1 : D.cell? ⟨w.heap.size + 1, 1, none⟩ = some (.slice none 0 0) := HR.out.c 1 _ rfl
            have r2 : D.cell? ⟨w.heap.size + 1, 2, none⟩ = some (.bool false) := HR.out.c 2 _ rfl
            have s0 : D.frozen? ⟨w.heap.size + 1, 0, none⟩ = false := HR.out.f 0
            have s1 : D.frozen? ⟨w.heap.size + 1, 1, none⟩ = false := HR.out.f 1
            have s2 : D.frozen? ⟨w.heap.size + 1, 2, none⟩ = false := HR.out.f 2
            go_simp
            refine hK.out _ _ (fun h => Bool.noConfusion ((show unl _ _ = false by kernel_rfl).symm.trans h)) ?_
            clear hK K
            try simp only [Act.put, List.setIfInBounds_toArray, List.set_cons_zero, List.set_cons_succ]
            refine wpAnyK_done (by kernel_rfl) ?_ _
            go_wp2
            refine bodyPost_ret (v := .agg #[.string (B (ls ++ [c])), .slice (some ⟨g10, o10, none⟩) (n + 1) c10, .bool x.f]) (by simp [results, Tryd.results89, go_sem, r0, r1, r2]) rfl ?_
            have hK3 := ((Keeps.setCell (F := fun k => k = w.heap.size + 1) D (a := ⟨w.heap.size + 1, 0, none⟩) rfl (.string (B (ls ++ [c])))).trans (Keeps.setCell (F := fun k => k = w.heap.size + 1) _ (a := ⟨w.heap.size + 1, 1, none⟩) rfl (.slice (some ⟨g10, o10, none⟩) (n + 1) c10))).trans (Keeps.setCell (F := fun k => k = w.heap.size + 1) _ (a := ⟨w.heap.size + 1, 2, none⟩) rfl (.bool x.f))
            refine ⟨_, rfl, HPU.out _ _ ?_ (tyS_keeps HT.out hK3), below_keeps HB.out hK3 (fun k e => by omega)⟩
            have hfl : (ps ++ [(p : Int)]).flatMap numC = ps.flatMap numC ++ [Value.int .i64 p] := by rw [List.flatMap_append]; rfl
            have H10' := H10.out
            rw [← hfl] at H10'
            exact ((H10'.sl numC_len (by simp [hpl])).keeps hK3 (fun k hk _ e => by have e2 : k = w.heap.size + 1 := e; have h3 : some g10 = some k := hk; injection h3 with h3; have := H10g.out; omega))
          exact AllReadyK.nil
        exact AllReadyK.nil
      exact AllReadyK.nil
    exact AllReadyK.nil
  exact AllReadyK.nil
end Go.Proofs.YtadlaaddpobhbaaDoor.Md
