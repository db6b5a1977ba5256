/-
  The walks of layer 18 (files), the paths, on: Clean. Conditions: texts of at most 2^29 bytes; the library's variable MaxLen holds some number.
-/
import Derived.Test.YtnecmpgcjgkheaaGreatFil2
import Derived.WalkMore
set_option linter.unusedSimpArgs false
set_option linter.unusedVariables false
namespace Go.Proofs.YtnecmpgcjgkheaaGreat.Fil
open Go.ChangeShapes Go.WideShapes Go.Deep Go.RowKit Go.Shelf Pat
attribute [local go_sem] Oper.semAt_some
set_option maxRecDepth 100000
/-- What holds at each round of Clean. -/
structure CleanI (w : World) (pre : List (List UInt8)) (v : Value) (W : World) : Prop where
  o : BoxOwn W (w.heap.size + 2) w.heap.size 1 v (pre.foldl step []).length ((pre.foldl step []).flatMap strC)
  z : Seat W (w.heap.size + 2) v
  b : Below w.heap.size w W
  s : w.heap.size + 2 ≤ W.heap.size
theorem CleanI.lull {w W W' : World} {A : Nat} {pre : List (List UInt8)} {v : Value} (h : CleanI w pre v W) (hL : Lull A W W') (hA : w.heap.size ≤ A) : CleanI w pre v W' :=
  ⟨h.o.lull hL, h.z.lull hL, hL.below h.b hA (Nat.le_refl _), Nat.le_trans h.s hL.size⟩
theorem CleanI.keeps {w W W' : World} {pre : List (List UInt8)} {v : Value} (h : CleanI w pre v W) (hk : Keeps (fun k => k = w.heap.size + 1) W W') : CleanI w pre v W' := by
  have hh := hk.block w.heap.size h.o.lt (by omega)
  exact ⟨⟨Nat.lt_of_lt_of_le h.o.lt hk.size, (World.cell?_of_block (w := W) hh).trans h.o.c, (World.frozen?_of_block (w := W) hh).trans h.o.f, h.o.own.keeps hk (fun k hk2 _ e => by have := (h.z k hk2).1; omega), h.o.ne⟩, h.z.keeps hk (fun k e => by omega), below_keeps h.b hk (fun k e => by omega), Nat.le_trans h.s hk.size⟩
theorem step_len (ns : List (List UInt8)) (p : List UInt8) : (step ns p).length ≤ ns.length + 1 := by
  unfold step
  split
  · rw [List.length_dropLast]; omega
  · split
    · omega
    · simp
theorem fold_len : ∀ (ps ns : List (List UInt8)), (ps.foldl step ns).length ≤ ns.length + ps.length
  | [], ns => by simp
  | p :: ps, ns => by
    have := fold_len ps (step ns p)
    have := step_len ns p
    simp only [List.foldl_cons, List.length_cons]
    omega
theorem fold_snoc (pre : List (List UInt8)) (x : List UInt8) : (pre ++ [x]).foldl step [] = step (pre.foldl step []) x := by rw [List.foldl_append]; rfl
theorem str_take (ns : List (List UInt8)) (k : Nat) : (ns.take k).flatMap strC = (ns.flatMap strC).take (k * 1) := by
  rw [Nat.mul_one]
  induction ns generalizing k with
  | nil => simp
  | cons y ys ih =>
    cases k with
    | zero => simp
    | succ k => rw [List.take_succ_cons, List.flatMap_cons, List.flatMap_cons, ih]; rfl
/-- The last name is cut off. -/
theorem CleanI.cut {w W : World} {pre : List (List UInt8)} {A : Option Addr} {n c : Nat} (h : CleanI w pre (.slice A n c) W) (h0 : 0 < w.heap.size) : CleanI w (pre ++ [[46, 46]]) (.slice A (n - 1) c) (W.setCell ⟨w.heap.size, 0, none⟩ (.slice A (n - 1) c)) ∧ KeepsFrom (w.heap.size + 1 + 1) W (W.setCell ⟨w.heap.size, 0, none⟩ (.slice A (n - 1) c)) ∧ KeepG (fun k => k = w.heap.size + 1 ∨ k = 0) W (W.setCell ⟨w.heap.size, 0, none⟩ (.slice A (n - 1) c)) := by
  have hS : ∀ v, Keeps (fun k => k = w.heap.size) W (W.setCell ⟨w.heap.size, 0, none⟩ v) := fun v => Keeps.setCell (F := fun k => k = w.heap.size) W (a := ⟨w.heap.size, 0, none⟩) rfl v
  have hs := h.s
  have hob : (Value.slice A (n - 1) c).ownBlock = (Value.slice A n c).ownBlock := by cases A <;> rfl
  have hz : Seat W (w.heap.size + 2) (.slice A (n - 1) c) := fun k hk => h.z k (hob ▸ hk)
  have hn : n = (pre.foldl step []).length := by
    obtain ⟨A', c', e, -⟩ := h.o.own.form0
    injection e
  have hd : (pre ++ [[46, 46]]).foldl step [] = (pre.foldl step []).dropLast := by rw [fold_snoc]; unfold step; rw [if_pos rfl]
  have ho : Own W (w.heap.size + 2) 1 (.slice A (n - 1) c) (pre.foldl step []).dropLast.length ((pre.foldl step []).dropLast.flatMap strC) := by
    have ho := h.o.own
    rw [List.length_dropLast, ← hn]
    rw [← hn] at ho
    rcases Nat.eq_zero_or_pos n with h1 | h1
    · have : pre.foldl step [] = [] := List.eq_nil_of_length_eq_zero (by omega)
      rw [this] at ho ⊢
      subst h1
      exact ho
    · obtain ⟨g, off, c', e, -⟩ := ho.form' h1
      injection e with e1 e2 e3
      subst e1 e3
      have := own_cut (m := n - 1) ho h1 (by omega)
      rw [List.dropLast_eq_take, str_take, ← hn]
      exact this
  refine ⟨⟨⟨Nat.lt_of_lt_of_le h.o.lt (hS _).size, World.cell?_setCell_same' _ _ _ (by rw [h.o.c]; rfl), by rw [World.frozen?_setCell]; exact h.o.f, ?_, hob ▸ h.o.ne⟩, hz.keeps (hS _) (fun k e => by omega), below_keeps h.b (hS _) (fun k e => by omega), Nat.le_trans h.s (hS _).size⟩, KeepsFrom.of_keeps (hS _) (fun k hF _ hA => by omega), KeepG.of_keeps (hS _) (fun k hk => by omega) (fun k hk e => by omega)⟩
  rw [hd]
  exact ho.keeps (hS _) (fun k hk _ e => by have := (hz k hk).1; omega)
theorem joinN_eq {ns : List (List UInt8)} (h : ns ≠ []) : joinN ns = 47 :: Lib.join ns [47] := by
  cases ns with
  | nil => exact absurd rfl h
  | cons n r =>
    rw [Lib.join_cons]
    unfold joinN Lib.joinTail
    simp [List.flatMap_cons, List.flatMap]
theorem joinN_app (a b : List (List UInt8)) : joinN (a ++ b) = joinN a ++ joinN b := List.flatMap_append
theorem joinN_one (p : List UInt8) : (joinN [p]).length = p.length + 1 := by simp [joinN]
theorem step_jlen (ns : List (List UInt8)) (p : List UInt8) : (joinN (step ns p)).length ≤ (joinN ns).length + (p.length + 1) := by
  unfold step
  split
  · rcases List.eq_nil_or_concat ns with rfl | ⟨a, b, rfl⟩
    · simp [joinN]
    · rw [List.concat_eq_append, List.dropLast_concat, joinN_app, List.length_append]; omega
  · split
    · omega
    · rw [joinN_app, List.length_append, joinN_one]
      exact Nat.le_refl _
theorem fold_jlen : ∀ (ps ns : List (List UInt8)), (joinN (ps.foldl step ns)).length ≤ (joinN ns).length + (joinN ps).length
  | [], ns => by simp
  | p :: ps, ns => by
    have h1 := fold_jlen ps (step ns p)
    have h2 := step_jlen ns p
    have h3 : (joinN (p :: ps)).length = p.length + 1 + (joinN ps).length := by
      rw [show p :: ps = [p] ++ ps from rfl, joinN_app, List.length_append, joinN_one]
    rw [List.foldl_cons]
    omega
theorem parts_jlen : ∀ s, (joinN (partsL s)).length = s.length + 1
  | [] => rfl
  | c :: r => by
    have ih := parts_jlen r
    rw [partsL_hd]
    split
    · rw [show [] :: partsL r = [[]] ++ partsL r from rfl, joinN_app, List.length_append, joinN_one, ih, List.length_cons]
      simp; omega
    · cases hp : partsL r with
      | nil => exact absurd hp (partsL_ne r)
      | cons p ps =>
        rw [hp, show p :: ps = [p] ++ ps from rfl, joinN_app, List.length_append, joinN_one] at ih
        show (joinN ((c :: p) :: ps)).length = _
        rw [show (c :: p) :: ps = [c :: p] ++ ps from rfl, joinN_app, List.length_append, joinN_one, List.length_cons, List.length_cons]
        omega
theorem names_jlen (dir text : List UInt8) : (joinN (namesL dir text)).length ≤ (startL dir text).length + 1 := by
  have := fold_jlen (partsL (startL dir text)) []
  rw [parts_jlen] at this
  simpa [joinN, namesL] using this
theorem map_B (ns : List (List UInt8)) : (ns.map B).map (fun s => s.data.toList) = ns := by
  rw [List.map_map]
  conv => rhs; rw [← List.map_id ns]
  exact List.map_congr_left fun x _ => B_data x
/-- strings.Join of an own slice. -/
theorem join_own (w : World) (b0 : Nat) (v : Value) (ns : List (List UInt8)) (sep : List UInt8) (ho : Own w b0 1 v ns.length (ns.flatMap strC)) (hn : ns.length ≤ 1073741824) (hl : (Lib.join ns sep).length ≤ 140737488355328) :
    Calls Tryz.prog 82 #[v, .string (B sep)] w fun e w' => e = .returned (.string (B (Lib.join ns sep))) ∧ Below w.heap.size w w' := by
  rcases Nat.eq_zero_or_pos ns.length with h0 | h0
  · obtain rfl := List.eq_nil_of_length_eq_zero h0
    obtain ⟨A, c, rfl, -⟩ := ho.form0
    refine (Tryz.strings_Join_none A c (B sep) w).mono ?_
    rintro e w' ⟨rfl, rfl⟩
    exact ⟨rfl, Below.refl _ _⟩
  · have hcap := own_cap ho
    obtain ⟨g, off, c, rfl, h1, h2, h3, h4⟩ := ho.form' h0
    have hj := Tryz.strings_Join g off c (ns.map B) (B sep) w (fun j x hx => by
      rw [List.getElem?_map] at hx
      cases hy : ns[j]? with
      | none => rw [hy] at hx; cases hx
      | some y => rw [hy] at hx; cases hx; exact (own_str ho hy).1) h2 (by rw [List.length_map]; omega) (by rw [List.length_map]; exact h3) (by rw [map_B, B_data]; exact hl)
    rw [List.length_map, map_B, B_data] at hj
    exact hj
set_option maxHeartbeats 6400000 in
theorem clean_any (dir text : List UInt8) (w : World) (hm : MaxL w) (hd : dir.length ≤ 268435456) (ht : text.length ≤ 268435456) : Calls Tryz.prog 68 #[.string (B dir), .string (B text)] w fun e w' => e = .returned (.string (B (cleanL dir text))) ∧ Below w.heap.size w w' := by
  obtain ⟨i0, hi0, hz00, hz01, hz02⟩ := info_parts info_str
  have HPX := Lib.hid fun w => prefix_b text [47] w
  rw [pre47] at HPX
  have hms := hm.lt
  have hsl : (startL dir text).length ≤ 536870913 := by
    unfold startL
    split
    · omega
    · rw [List.length_append, List.length_cons]; omega
  have HGV := Lib.hid (parts_gives (startL dir text) (w.alloc (.cells #[.slice none 0 0] 26)) (hm.below (by (repeat (first | exact Below.refl _ _ | assumption | with_reducible refine below_alloc ?_ _ | with_reducible refine below_grow ?_ _ | with_reducible refine below_drewN ?_ _ | with_reducible refine below_drew ?_ | with_reducible refine below_setCell ?_ (by first | (dsimp only; omega) | (simp; done) | (simp; omega)) _)))) (by omega))
  have HPA := Lib.hid fun w => parts_any (startL dir text) w
  have hps := partsL_len (startL dir text)
  have HFL := Lib.hid fun (q : List (List UInt8)) (h : q.length ≤ (partsL (startL dir text)).length) => (show (q.foldl step []).length ≤ 536870914 by have := fold_len q []; simp at this; omega)
  have HCL := Lib.hid (show cleanL dir text = 47 :: Lib.join (namesL dir text) [47] by
    unfold cleanL
    split
    · rename_i h; rw [h]; rfl
    · rename_i h; exact joinN_eq h)
  have HNL := Lib.hid (show (partsL (startL dir text)).foldl step [] = namesL dir text from rfl)
  have hst : text.head? = some 47 ∧ startL dir text = text ∨ text.head? ≠ some 47 ∧ startL dir text = dir ++ 47 :: text := by
    by_cases h : text.head? = some 47
    · exact .inl ⟨h, startL_yes h⟩
    · exact .inr ⟨h, startL_no h⟩
  have hlj : (Lib.join (namesL dir text) [47]).length ≤ 140737488355328 := by
    have h1 := names_jlen dir text
    by_cases h : namesL dir text = []
    · rw [h]; simp [Lib.join_nil]
    · rw [joinN_eq h, List.length_cons] at h1
      omega
  have HLJ := Lib.hid hlj
  clear hm hlj
  generalize namesL dir text = ns at *
  generalize cleanL dir text = res at *
  generalize hps' : partsL (startL dir text) = ps at *
  clear hps'
  have main : ∀ (st : List UInt8) (u2 u3 u8 u9 u10 u11 u12 u13 : Value), True := fun _ _ _ _ _ _ _ _ _ => trivial
  rcases hst with ⟨hh, hst⟩ | ⟨hh, hst⟩
  all_goals
    rw [hst] at HGV HPA
    first | (have hb : (text.head? == some 47) = true := by simpa using hh) | (have hb : (text.head? == some 47) = false := by simpa using hh)
    rw [hb] at HPX
    clear hst hh hb main
    refine (callsIn_wide (n := 9)).1 ?_; refine callsIn_of_wp_marks Tryz.func68 rfl trivial ?_ rfl; simp only [Tryz.ntmps68, List.size_toArray, List.length_cons, List.length_nil, Nat.reduceAdd, Nat.reduceSub, Array.replicate_succ, Array.replicate_zero, List.push_toArray, List.append_toArray, List.nil_append, List.cons_append]
    refine wpIn_wide.2 ?_
    go_wp2
    go_step3
    go_wp2_with (go_at_call 42; refine (HPX.out _).mono ?_; rintro e w' ⟨rfl, rfl⟩)
    go_step3
    go_wp2_with (first | (go_at_call 42; refine (HPX.out _).mono ?_; rintro e w' ⟨rfl, rfl⟩) | (go_at_call 43; refine (HPA.out _).mono ?_; rintro e w1 ⟨rfl, rfl⟩))
    refine (wpIn_wide (n := 9)).1 ?_
    have HG := HGV.out
    simp only [World.size_alloc] at HG
    have HGK : Hid (∀ k, (k = w.heap.size + 1 ∨ k = 0) → k < w.heap.size + 1 + 1 ∧ k ≠ w.heap.size) := fun k hk => by omega
    refine wpIn_iterW (n := 9) (by omega) (gf := 63) rfl (enters_of Tryz.func63 (by kernel_rfl) rfl) HG (by simp) (fun k hk => by have := (HGK.out k hk).1; simpa using this) (fun _ => rfl)
      (fun q W => ∃ v, CleanI w q v W) (fun _ _ _ => False)
      (fun s W W' hL ⟨v, h⟩ => ⟨v, h.lull hL (by simp; omega)⟩) (fun _ _ _ _ _ h => h)
      (fun s W W' hk ⟨v, h⟩ => ⟨v, h.keeps hk⟩) (fun _ _ _ _ _ h => h)
      ⟨.slice none 0 0, ?init⟩
      (fun x a' W' => ∃ (st : List UInt8) (u8 u9 u10 u11 u12 u13 : Value), a' = { tmps := #[.string (B dir), .string (B st), undef, undef, .string (B []), .pointer (some ⟨w.heap.size, 0, none⟩), .string (B x), .string (B text), u8, u9, u10, u11, u12, u13, .string (B st), .func (.func 63) #[] #[.pointer (some ⟨w.heap.size + 1, 0, none⟩)], .string (B x), undef, undef, undef, undef, undef, undef, undef, undef, undef, undef, undef, undef, undef, undef, undef, undef, undef, undef, undef], defers := [] }) (fun x a' W W' hL h => h) ?assign ?body ?done ?stop
    case init => exact ⟨⟨by simp; omega, by go_simp, by simp [go_sem], Own.nil _ _ _, by simp [Value.ownBlock]⟩, Seat.nil _ _, by (repeat (first | exact Below.refl _ _ | assumption | with_reducible refine below_alloc ?_ _ | with_reducible refine below_grow ?_ _ | with_reducible refine below_drewN ?_ _ | with_reducible refine below_drew ?_ | with_reducible refine below_setCell ?_ (by first | (dsimp only; omega) | (simp; done) | (simp; omega)) _)), by simp⟩
    case assign =>
      intro l q x W K hi hs hK
      have HK := Lib.hid hK
      have HI := Lib.hid hi
      clear hK hi
      unfold encS at *
      gi_wp2
      exact HK.out _ _ (KeepsFrom.refl _ _) (fun _ _ => rfl) HI.out ⟨_, _, _, _, _, _, _, rfl⟩
    case body =>
      rintro l q x a' W hs ⟨v, h1⟩ ⟨st, u8, u9, u10, u11, u12, u13, rfl⟩ hlt
      have hs' : w.heap.size + 2 ≤ W.heap.size := h1.s
      have hc := h1.o.c
      have hf := h1.o.f
      have hql := hlt.length_le
      rw [List.length_append, List.length_singleton] at hql
      have hnl := HFL.out q (by omega)
      have H1 := Lib.hid h1
      have hsn := fold_snoc q x
      obtain ⟨A, c, rfl, hA⟩ := h1.o.own.form0
      have hcap := own_cap h1.o.own _ _ _ rfl
      haveI : Old W (w.heap.size) := ⟨by omega⟩
      clear h1
      have same : ∀ (h : step (q.foldl step []) x = q.foldl step []), CleanI w (q ++ [x]) (.slice A (q.foldl step []).length c) W := fun h => by
        rw [h] at hsn
        exact ⟨by rw [hsn]; exact H1.out.o, H1.out.z, H1.out.b, H1.out.s⟩
      by_cases x1 : x = []
      · subst x1
        have HS := Lib.hid (same rfl)
        clear same hsn
        gi_wp2
        exact ⟨KeepsFrom.refl _ _, fun _ _ => rfl, _, HS.out⟩
      by_cases x2 : x = [46]
      · subst x2
        have HS := Lib.hid (same rfl)
        clear same hsn x1
        gi_wp2
        exact ⟨KeepsFrom.refl _ _, fun _ _ => rfl, _, HS.out⟩
      by_cases x3 : x = [46, 46]
      · subst x3
        have HS := Lib.hid (H1.out.cut hms)
        clear same hsn x1 x2
        generalize (q.foldl step []).length = n at *
        have g1 : IntKind.i64.wrap ((n : Int) - 1) = (n : Int) - 1 := IntWalk.i64_in _ (by omega)
        have g2 : max ((n : Int) - 1) 0 = ((n - 1 : Nat) : Int) := by omega
        have g3 : ((n - 1 : Nat) : Int) ≤ (c : Int) := by omega
        gi_wp2
        obtain ⟨s1, s2, s3⟩ := HS.out
        exact ⟨by simpa using s2, s3, _, s1⟩
      · have hsx : step (q.foldl step []) x = q.foldl step [] ++ [x] := by unfold step; rw [if_neg x3, if_neg (by simp [x1, x2])]
        rw [hsx] at hsn
        have HSN := Lib.hid hsn
        have m1 : (x == []) = false := by rw [beq_eq_false_iff_ne]; exact x1
        have m2 : (x == [46]) = false := by rw [beq_eq_false_iff_ne]; exact x2
        have m3 : (x == [46, 46]) = false := by rw [beq_eq_false_iff_ne]; exact x3
        clear same hsn hsx
        gi_wp2_with ((gi_at_builtin; refine wpListIn_append_src rfl (.tmp 29) (.tmp 31) _ rfl (w.heap.size + 2) 9 i0 _ 1 16 Tryz.underlying26 hi0 hz00 hz01 hz02 rfl (by decide) _ (q.foldl step []).length ((q.foldl step []).flatMap strC) rfl (H1.out.o.own.below (by (repeat (first | exact Below.refl _ _ | assumption | with_reducible refine below_alloc ?_ _ | with_reducible refine below_grow ?_ _ | with_reducible refine below_drewN ?_ _ | with_reducible refine below_drew ?_ | with_reducible refine below_setCell ?_ (by first | (dsimp only; omega) | (simp; done) | (simp; omega)) _)))) _ 1 (strC x) rfl rfl (Src.one _ _ _ _) (by simp [strC, Value.oneCell']) (by unfold maxLen; omega) (by omega) (by first | (simp; done) | omega | (simp; omega)) ?_; intro v1 w1 hown1 hg1 hat1 hty1; have HTY1 := Lib.hid hty1; clear hty1); obtain ⟨gg, oo, cc, rfl, q1, q2, q3, q4⟩ := hown1.form; obtain ⟨s1, s2, s3, s4, s5, s6⟩ := H1.out.o.round3 (A := w.heap.size + 1 + 1) (G := fun k => k = w.heap.size + 1 ∨ k = 0) (fun k hk => (H1.out.z k hk).2) (by omega) (fun k hk => by have := HGK.out k hk; omega) hown1 hg1 hat1; have R := Lib.hid (And.intro s1 (And.intro s2 (And.intro s3 s4))); have HZ := Lib.hid (Seat.of_own hown1 (by omega) (by omega)); clear hown1 hg1 hat1 s1 s2 s3 s4)
        obtain ⟨s1, s2, s3, s4⟩ := R.out
        refine ⟨by simpa using s1, s2, _, ⟨by rw [HSN.out]; simpa [List.flatMap_append] using s3, HZ.out.keeps (Keeps.setCell (F := fun k => k = w.heap.size) w1 (a := ⟨w.heap.size, 0, none⟩) rfl _) (fun k e => by omega), below_keeps H1.out.b s4 (fun k hk => by omega), Nat.le_trans H1.out.s s4.size⟩⟩
    case done =>
      rintro D W hD ⟨v, h1⟩ hK
      have hD' : w.heap.size + 1 + 1 ≤ D := by simpa using hD
      have hc := h1.o.c
      have hs' := h1.s
      haveI : Old W (w.heap.size) := ⟨by omega⟩
      have hnl := HFL.out ps (Nat.le_refl _)
      have ho := h1.o.own
      rw [HNL.out] at ho hnl
      have HJ := Lib.hid fun W' (hb : Below W.heap.size W W') => join_own W' _ v ns [47] (ho.below hb) (by omega) HLJ.out
      have H1 := Lib.hid h1
      have hlj := HLJ.out
      clear h1 ho
      gi_wp2
      go_wp2_with (go_at_call 82; refine (HJ.out _ (by (repeat (first | exact Below.refl _ _ | assumption | with_reducible refine below_alloc ?_ _ | with_reducible refine below_grow ?_ _ | with_reducible refine below_drewN ?_ _ | with_reducible refine below_drew ?_ | with_reducible refine below_setCell ?_ (by first | (dsimp only; omega) | (simp; done) | (simp; omega)) _)))).mono ?_; rintro e w2 ⟨rfl, hb2⟩; have HB2 := Lib.hid hb2; clear hb2)
      rw [Exit.noGoto_ret]
      have hK' := (HB2.out.block D (Array.getElem?_eq_some_iff.1 hK).1).trans hK
      have hL : Lull (w.heap.size + 1 + 1) w2 (w2.putObj D (.deferred none)) := Lull.of_grown (grownBy_putObj' _ D _) (fun r e => by cases e; exact ⟨hD', _, hK', rfl⟩)
      refine ⟨by simp, .inl ⟨_, _, rfl, run_takeDeferred hK', ?_⟩⟩
      exact ⟨_, results_tmp rfl _ _ _, by rw [HCL.out]; rfl, hL.below (below_then H1.out.b HB2.out) (by omega) (Nat.le_refl _)⟩
    case stop =>
      rintro D c q W _ _ h _
      exact h.elim
end Go.Proofs.YtnecmpgcjgkheaaGreat.Fil
