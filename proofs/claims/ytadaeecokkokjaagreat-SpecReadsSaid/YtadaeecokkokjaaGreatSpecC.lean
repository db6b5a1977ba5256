/-
  The walks of layer 20 (spec), on: take, the pairs of options and values; what a row of options leaves. Conditions: texts of at most 30000 bytes.
-/
import Derived.Test.YtadaeecokkokjaaGreatSpecA
set_option linter.unusedSimpArgs false
set_option linter.unusedVariables false
namespace Go.Proofs.YtadaeecokkokjaaGreat.Spc
open Go.ChangeShapes Go.WideShapes Go.Deep Go.RowKit Mc Pa Quo
set_option maxRecDepth 100000
/-- The field of an option. -/
def optF (o : List UInt8) : Option Nat := if o = [45, 71] then some 2 else if o = [45, 88] then some 3 else if o = [45, 80] then some 4 else if o = [45, 83] then some 5 else none
def setF (x : Sp) (n : Nat) (v : List UInt8) : Sp := if n = 2 then { x with g := v } else if n = 3 then { x with x := v } else if n = 4 then { x with p := v } else { x with s := v }
/-- What take answers, the spec then, the options that were there. -/
def takeL (x : Sp) (S : List (List UInt8)) (o v : List UInt8) : Int × Sp × List (List UInt8) :=
  if o = [45, 65] then ((actL x.a v).1, { x with a := (actL x.a v).2 }, S)
  else match optF o with
    | none => if o ≠ [45, 87] then (8, x, S) else if o ∈ S then (6, x, S) else if (splitL v).2.2 ≠ 0 then (4, x, o :: S) else (0, { x with w := (splitL v).1 }, o :: S)
    | some n => if o ∈ S then (6, x, S) else (0, setF x n v, o :: S)
def TakP (A sb mb : Nat) (va : Value) (x : Sp) (S : List (List UInt8)) (o v : List UInt8) (w : World) (e : Ending) (w' : World) : Prop :=
  e = .returned (.int .i64 (takeL x S o v).1) ∧ ∃ va' vw', SpAt w' A sb va' vw' (takeL x S o v).2.1 ∧ SeenAt w' mb (takeL x S o v).2.2 ∧ Keeps (fun k => k = sb ∨ k = mb ∨ (va.ownBlock = some k ∧ A ≤ k)) w w'
theorem SpAt.setF {w : World} {A sb : Nat} {va vw : Value} {x : Sp} (h : SpAt w A sb va vw x) (n : Nat) (hn : n = 2 ∨ n = 3 ∨ n = 4 ∨ n = 5) (v : List UInt8) : SpAt (w.setCell ⟨sb, n, none⟩ (.string (B v))) A sb va vw (Spc.setF x n v) := by
  have hla := h.la
  have hk : Keeps (fun k => k = sb) w (w.setCell ⟨sb, n, none⟩ (.string (B v))) := Keeps.setCell (F := fun k => k = sb) w (a := ⟨sb, n, none⟩) rfl _
  have hb := boxN_set h.bx n (by rcases hn with rfl | rfl | rfl | rfl <;> simp) (.string (B v))
  rcases hn with rfl | rfl | rfl | rfl
  all_goals exact ⟨hb, h.oa.keeps hk (fun k e _ q => by have := h.sa k e; omega), h.ow.keeps hk (fun k e _ q => by have := h.sw k e; omega), h.sa, h.sw, h.ne, h.la, h.z⟩
theorem SpAt.setW {w : World} {A sb : Nat} {va vw vw' : Value} {x : Sp} {l : List (List UInt8)} (h : SpAt w A sb va vw x) (ho : Own w A 1 vw' l.length (l.flatMap strC)) (hs : ∀ k, vw'.ownBlock = some k → A ≤ k) (hn : ∀ k, va.ownBlock = some k → vw'.ownBlock ≠ some k) : SpAt (w.setCell ⟨sb, 1, none⟩ vw') A sb va vw' { x with w := l } := by
  have hla := h.la
  have hk : Keeps (fun k => k = sb) w (w.setCell ⟨sb, 1, none⟩ vw') := Keeps.setCell (F := fun k => k = sb) w (a := ⟨sb, 1, none⟩) rfl _
  have hb := boxN_set h.bx 1 (by simp) vw'
  exact ⟨hb, h.oa.keeps hk (fun k e _ q => by have := h.sa k e; omega), ho.keeps hk (fun k e _ q => by have := hs k e; omega), h.sa, hs, hn, h.la, h.z⟩
theorem own_ge {w : World} {b0 sz n : Nat} {v : Value} {xs : List Value} (h : Own w b0 sz v n xs) (hz : n = 0 → v = .slice none 0 0) : ∀ k, v.ownBlock = some k → b0 ≤ k := by
  intro k hk
  rcases Nat.eq_zero_or_pos n with h0 | h0
  · rw [hz h0] at hk; cases hk
  · obtain ⟨g, off, c, rfl, hg, _⟩ := h.form' h0
    cases hk
    exact hg
theorem opt_some {o : List UInt8} {n : Nat} (h : optF o = some n) : o ≠ [45, 65] ∧ o ≠ [45, 87] ∧ (n = 2 ∨ n = 3 ∨ n = 4 ∨ n = 5) := by
  refine ⟨fun e => ?_, fun e => ?_, ?_⟩
  · rw [e, show optF [45, 65] = none by decide] at h; cases h
  · rw [e, show optF [45, 87] = none by decide] at h; cases h
  · unfold optF at h
    split at h
    · cases h; exact .inl rfl
    split at h
    · cases h; exact .inr (.inl rfl)
    split at h
    · cases h; exact .inr (.inr (.inl rfl))
    split at h
    · cases h; exact .inr (.inr (.inr rfl))
    cases h
theorem opt_cases (o : List UInt8) : o = [45, 65] ∨ (∃ n, optF o = some n) ∨ (o ≠ [45, 65] ∧ optF o = none ∧ o = [45, 87]) ∨ (o ≠ [45, 65] ∧ optF o = none ∧ o ≠ [45, 87]) := by
  by_cases h1 : o = [45, 65]
  · exact .inl h1
  cases h : optF o with
  | some n => exact .inr (.inl ⟨n, rfl⟩)
  | none =>
    by_cases h6 : o = [45, 87]
    · exact .inr (.inr (.inl ⟨h1, rfl, h6⟩))
    · exact .inr (.inr (.inr ⟨h1, rfl, h6⟩))
theorem fld_any {w : World} {A sb : Nat} {va vw : Value} {x : Sp} (h : SpAt w A sb va vw x) (n : Nat) (hn : n = 2 ∨ n = 3 ∨ n = 4 ∨ n = 5) : ∃ u, w.cell? ⟨sb, n, none⟩ = some (.string u) := by
  rcases hn with rfl | rfl | rfl | rfl
  · exact ⟨_, h.bx.c 2 _ rfl⟩
  · exact ⟨_, h.bx.c 3 _ rfl⟩
  · exact ⟨_, h.bx.c 4 _ rfl⟩
  · exact ⟨_, h.bx.c 5 _ rfl⟩
/-- What the map tells, while some options are in it. -/
def gk (sb : Nat) (ks : List (List UInt8)) (a : List UInt8) : Option (Nat × Nat) := if a ∈ ks then (optF a).map fun n => (sb, n) else none
theorem gk_new (sb : Nat) (w : World) : PtrAt (w.alloc (.map #[] 0)) w.heap.size (gk sb []) 0 := by
  rw [show gk sb [] = fun _ => none from funext fun a => if_neg (by simp)]
  exact PtrAt.new w
theorem gk_put {w : World} {r c sb : Nat} {ks : List (List UInt8)} (h : PtrAt w r (gk sb ks) c) (k : List UInt8) (n : Nat) (hk : optF k = some n) (ho : n < 8) (ha : k.length ≤ 1073741824) (hc : c < 1099511627776) :
    ∃ w', (Instr.mapUpdate 55 (.map (some r)) (.string (B k)) (.pointer (some ⟨sb, n, none⟩))).run Tryz.prog w = .ok () w' ∧ PtrAt w' r (gk sb (k :: ks)) (c + 1) ∧ w.mapTurned w' r := by
  obtain ⟨w', h1, h2, h3⟩ := h.put k sb n ho ha hc
  refine ⟨w', h1, ?_, h3⟩
  rw [show gk sb (k :: ks) = fun x => if x = k then some (sb, n) else gk sb ks x from funext fun x => ?_]
  · exact h2
  · unfold gk
    by_cases e : x = k
    · subst e; rw [if_pos (List.mem_cons_self ..), if_pos rfl, hk]; rfl
    · rw [if_neg e]; simp [e]
theorem gk_all (sb : Nat) (ks : List (List UInt8)) (h : ([45, 71] ∈ ks ∧ [45, 88] ∈ ks) ∧ [45, 80] ∈ ks ∧ [45, 83] ∈ ks) (o : List UInt8) : gk sb ks o = (optF o).map fun n => (sb, n) := by
  unfold gk
  by_cases e : o ∈ ks
  · rw [if_pos e]
  · rw [if_neg e]
    unfold optF
    rw [if_neg (fun q : o = _ => e (q ▸ h.1.1)), if_neg (fun q : o = _ => e (q ▸ h.1.2)), if_neg (fun q : o = _ => e (q ▸ h.2.1)), if_neg (fun q : o = _ => e (q ▸ h.2.2))]
    rfl
theorem gk_look {w : World} {r c sb : Nat} {ks : List (List UInt8)} (h : PtrAt w r (gk sb ks) c) (a : List UInt8) (ha : a.length ≤ 1073741824) (hk : ([45, 71] ∈ ks ∧ [45, 88] ∈ ks) ∧ [45, 80] ∈ ks ∧ [45, 83] ∈ ks) : (Instr.lookup 55 (.map (some r)) (.string (B a)) false).run Tryz.prog w = .ok (ptrV ((optF a).map fun n => (sb, n))) w := by
  rw [← gk_all sb ks hk a]
  exact h.look a ha
set_option maxHeartbeats 8000000 in
theorem take_any (w : World) (A sb mb : Nat) (va vw : Value) (x : Sp) (S : List (List UInt8)) (o v : List UInt8) (h : SpAt w A sb va vw x) (hm : SeenAt w mb S) (hmA : mb < A) (hne : mb ≠ sb) (hA : A ≤ w.heap.size) (hla : x.a.length ≤ 1000000) (hs : x.a.Pairwise (· < ·)) (ho : o.length ≤ 30000) (hv : v.length ≤ 30000) (hS : S.length ≤ 100000) :
    Calls Tryz.prog 10 #[.pointer (some ⟨sb, 0, none⟩), .string (B o), .string (B v), .map (some mb)] w (TakP A sb mb va x S o v w) := by
  have H := Lib.hid h
  have HM := Lib.hid hm
  have HSO := Lib.hid hs
  have hsbA := h.la
  have hsb := h.bx.lt
  clear h hm hs
  have hmm := @run_makeMap Tryz.prog
  go_enter Tryz.func10, Tryz.ntmps10
  go_upto_region 1 with (fail)
  go_cut [9] (fun v9 W => ∃ W1 : World, W1 = W ∧ v9 = ptrV ((optF o).map fun n => (sb, n)) ∧ Hid (Below w.heap.size w W1))
  case first =>
    refine wp_region_keyed (fun _ => True) [] (by kernel_rfl) ?_
    have HBE := Lib.hid (below_drew (Below.refl w.heap.size w))
    generalize World.drew _ = D at *
    refine wpAnyK_take2 (i := 1) (some 14) (v := ?v1_1z20) rfl rfl (by kernel_rfl) (by kernel_rfl) (by kernel_rfl) (by kernel_rfl) (fun _ _ _ h => h) (Or.inl ⟨by rfl, ?y1_1z20⟩) (fun _ => trivial) ?r1_1z20
    case y1_1z20 =>
      intro w hSw
      go_simp
      try with_reducible rfl
    try simp only [Act.put, List.setIfInBounds_toArray, List.set_cons_zero, List.set_cons_succ]
    refine wpAnyK_take2 (i := 2) (some 15) (v := ?v2_2z20) rfl rfl (by kernel_rfl) (by kernel_rfl) (by kernel_rfl) (by kernel_rfl) (fun _ _ _ h => h) (Or.inl ⟨by rfl, ?y2_2z20⟩) (fun _ => trivial) ?r2_2z20
    case y2_2z20 =>
      intro w hSw
      go_simp
      try with_reducible rfl
    try simp only [Act.put, List.setIfInBounds_toArray, List.set_cons_zero, List.set_cons_succ]
    refine wpAnyK_take2 (i := 3) (some 16) (v := ?v3_3z20) rfl rfl (by kernel_rfl) (by kernel_rfl) (by kernel_rfl) (by kernel_rfl) (fun _ _ _ h => h) (Or.inl ⟨by rfl, ?y3_3z20⟩) (fun _ => trivial) ?r3_3z20
    case y3_3z20 =>
      intro w hSw
      go_simp
      try with_reducible rfl
    try simp only [Act.put, List.setIfInBounds_toArray, List.set_cons_zero, List.set_cons_succ]
    refine wpAnyK_take2 (i := 5) (some 17) (v := ?v5_4z20) rfl rfl (by kernel_rfl) (by kernel_rfl) (by kernel_rfl) (by kernel_rfl) (fun _ _ _ h => h) (Or.inl ⟨by rfl, ?y5_4z20⟩) (fun _ => trivial) ?r5_4z20
    case y5_4z20 =>
      intro w hSw
      go_simp
      try with_reducible rfl
    try simp only [Act.put, List.setIfInBounds_toArray, List.set_cons_zero, List.set_cons_succ]
    refine wpAnyK_take2 (i := 6) (some 18) (v := ?v6_5z20) rfl rfl (by kernel_rfl) (by kernel_rfl) (by kernel_rfl) (by kernel_rfl) (fun _ _ _ h => h) (Or.inl ⟨by rfl, ?y6_5z20⟩) (fun _ => trivial) ?r6_5z20
    case y6_5z20 =>
      intro w hSw
      go_simp
      try with_reducible rfl
    try simp only [Act.put, List.setIfInBounds_toArray, List.set_cons_zero, List.set_cons_succ]
    refine wpAnyK_take2 (i := 7) (some 19) (v := ?v7_6z20) rfl rfl (by kernel_rfl) (by kernel_rfl) (by kernel_rfl) (by kernel_rfl) (fun _ _ _ h => h) (Or.inl ⟨by rfl, ?y7_6z20⟩) (fun _ => trivial) ?r7_6z20
    case y7_6z20 =>
      intro w hSw
      go_simp
      try with_reducible rfl
    try simp only [Act.put, List.setIfInBounds_toArray, List.set_cons_zero, List.set_cons_succ]
    refine wpAnyK_take2 (i := 9) (some 20) (v := ?v9_7z20) rfl rfl (by kernel_rfl) (by kernel_rfl) (by kernel_rfl) (by kernel_rfl) (fun _ _ _ h => h) (Or.inl ⟨by rfl, ?y9_7z20⟩) (fun _ => trivial) ?r9_7z20
    case y9_7z20 =>
      intro w hSw
      go_simp
      try with_reducible rfl
    try simp only [Act.put, List.setIfInBounds_toArray, List.set_cons_zero, List.set_cons_succ]
    refine wpAnyK_take2 (i := 10) (some 21) (v := ?v10_8z20) rfl rfl (by kernel_rfl) (by kernel_rfl) (by kernel_rfl) (by kernel_rfl) (fun _ _ _ h => h) (Or.inl ⟨by rfl, ?y10_8z20⟩) (fun _ => trivial) ?r10_8z20
    case y10_8z20 =>
      intro w hSw
      go_simp
      try with_reducible rfl
    try simp only [Act.put, List.setIfInBounds_toArray, List.set_cons_zero, List.set_cons_succ]
    refine wpAnyK_take2 (i := 11) (some 22) (v := ?v11_9z20) rfl rfl (by kernel_rfl) (by kernel_rfl) (by kernel_rfl) (by kernel_rfl) (fun _ _ _ h => h) (Or.inl ⟨by rfl, ?y11_9z20⟩) (fun _ => trivial) ?r11_9z20
    case y11_9z20 =>
      intro w hSw
      go_simp
      try with_reducible rfl
    try simp only [Act.put, List.setIfInBounds_toArray, List.set_cons_zero, List.set_cons_succ]
    refine wpAnyK_take2 (i := 13) (some 23) (v := ?v13_10z20) rfl rfl (by kernel_rfl) (by kernel_rfl) (by kernel_rfl) (by kernel_rfl) (fun _ _ _ h => h) (Or.inl ⟨by rfl, ?y13_10z20⟩) (fun _ => trivial) ?r13_10z20
    case y13_10z20 =>
      intro w hSw
      go_simp
      try with_reducible rfl
    try simp only [Act.put, List.setIfInBounds_toArray, List.set_cons_zero, List.set_cons_succ]
    refine wpAnyK_take2 (i := 14) (some 24) (v := ?v14_11z20) rfl rfl (by kernel_rfl) (by kernel_rfl) (by kernel_rfl) (by kernel_rfl) (fun _ _ _ h => h) (Or.inl ⟨by rfl, ?y14_11z20⟩) (fun _ => trivial) ?r14_11z20
    case y14_11z20 =>
      intro w hSw
      go_simp
      try with_reducible rfl
    try simp only [Act.put, List.setIfInBounds_toArray, List.set_cons_zero, List.set_cons_succ]
    refine wpAnyK_take2 (i := 15) (some 25) (v := ?v15_12z20) rfl rfl (by kernel_rfl) (by kernel_rfl) (by kernel_rfl) (by kernel_rfl) (fun _ _ _ h => h) (Or.inl ⟨by rfl, ?y15_12z20⟩) (fun _ => trivial) ?r15_12z20
    case y15_12z20 =>
      intro w hSw
      go_simp
      try with_reducible rfl
    try simp only [Act.put, List.setIfInBounds_toArray, List.set_cons_zero, List.set_cons_succ]
    refine wpAnyK_take2 (i := 18) (some 27) (v := ?v18_13z20) rfl rfl (by kernel_rfl) (by kernel_rfl) (by kernel_rfl) (by kernel_rfl) (fun _ _ _ h => h) (Or.inl ⟨by rfl, ?y18_13z20⟩) (fun _ => trivial) ?r18_13z20
    case y18_13z20 =>
      intro w hSw
      go_simp
      try with_reducible rfl
    try simp only [Act.put, List.setIfInBounds_toArray, List.set_cons_zero, List.set_cons_succ]
    refine wpAnyK_ready (rs := [0]) (by kernel_rfl) (by simp) ?_
    refine AllReadyK.cons (i := 0) rfl (fun K hK => ?_) ?_
    · go_simp
      have HP := Lib.hid (gk_new sb D)
      have hrb := HBE.out.size
      have HBE := Lib.hid (below_alloc HBE.out (.map #[] 0))
      generalize D.heap.size = r0 at *
      generalize D.alloc (.map #[] 0) = D at *
      refine hK.out _ _ (fun _ => trivial) ?_
      clear hK K
      try simp only [Act.put, List.setIfInBounds_toArray, List.set_cons_zero, List.set_cons_succ]
      refine wpAnyK_ready (rs := [4, 8, 12, 16]) (by kernel_rfl) (by simp) ?_
      refine AllReadyK.cons (i := 4) rfl (fun K hK => ?_) ?_
      · refine step_insert_x rfl (.tmp 13) (.const (.string ⟨#[45, 71]⟩)) (.tmp 16) 55 rfl _ _ _ rfl rfl rfl (gk_put HP.out [45, 71] 2 (by decide) (by decide) (by decide) (by decide)) ?_
        rintro w4 ⟨hp4, ht4⟩
        have HP := Lib.hid hp4
        have HBE := Lib.hid (below_keeps HBE.out (keeps_turned ht4) (fun k e => by omega))
        clear hp4 ht4
        obtain ⟨D, rfl⟩ : ∃ D, D = w4 := ⟨_, rfl⟩
        refine hK.out _ _ (fun _ => trivial) ?_
        clear hK K
        try simp only [Act.put, List.setIfInBounds_toArray, List.set_cons_zero, List.set_cons_succ]
        refine wpAnyK_ready (rs := [8, 12, 16]) (by kernel_rfl) (by simp) ?_
        refine AllReadyK.cons (i := 8) rfl (fun K hK => ?_) ?_
        · refine step_insert_x rfl (.tmp 13) (.const (.string ⟨#[45, 88]⟩)) (.tmp 19) 55 rfl _ _ _ rfl rfl rfl (gk_put HP.out [45, 88] 3 (by decide) (by decide) (by decide) (by decide)) ?_
          rintro w4 ⟨hp4, ht4⟩
          have HP := Lib.hid hp4
          have HBE := Lib.hid (below_keeps HBE.out (keeps_turned ht4) (fun k e => by omega))
          clear hp4 ht4
          obtain ⟨D, rfl⟩ : ∃ D, D = w4 := ⟨_, rfl⟩
          refine hK.out _ _ (fun _ => trivial) ?_
          clear hK K
          try simp only [Act.put, List.setIfInBounds_toArray, List.set_cons_zero, List.set_cons_succ]
          refine wpAnyK_ready (rs := [12, 16]) (by kernel_rfl) (by simp) ?_
          refine AllReadyK.cons (i := 12) rfl (fun K hK => ?_) ?_
          · refine step_insert_x rfl (.tmp 13) (.const (.string ⟨#[45, 80]⟩)) (.tmp 22) 55 rfl _ _ _ rfl rfl rfl (gk_put HP.out [45, 80] 4 (by decide) (by decide) (by decide) (by decide)) ?_
            rintro w4 ⟨hp4, ht4⟩
            have HP := Lib.hid hp4
            have HBE := Lib.hid (below_keeps HBE.out (keeps_turned ht4) (fun k e => by omega))
            clear hp4 ht4
            obtain ⟨D, rfl⟩ : ∃ D, D = w4 := ⟨_, rfl⟩
            refine hK.out _ _ (fun _ => trivial) ?_
            clear hK K
            try simp only [Act.put, List.setIfInBounds_toArray, List.set_cons_zero, List.set_cons_succ]
            refine wpAnyK_ready (rs := [16]) (by kernel_rfl) (by simp) ?_
            refine AllReadyK.cons (i := 16) rfl (fun K hK => ?_) ?_
            · refine step_insert_x rfl (.tmp 13) (.const (.string ⟨#[45, 83]⟩)) (.tmp 25) 55 rfl _ _ _ rfl rfl rfl (gk_put HP.out [45, 83] 5 (by decide) (by decide) (by decide) (by decide)) ?_
              rintro w4 ⟨hp4, ht4⟩
              have HP := Lib.hid hp4
              have HBE := Lib.hid (below_keeps HBE.out (keeps_turned ht4) (fun k e => by omega))
              clear hp4 ht4
              obtain ⟨D, rfl⟩ : ∃ D, D = w4 := ⟨_, rfl⟩
              refine hK.out _ _ (fun _ => trivial) ?_
              clear hK K
              try simp only [Act.put, List.setIfInBounds_toArray, List.set_cons_zero, List.set_cons_succ]
              refine wpAnyK_take2 (i := 17) (some 26) (v := ?v17_14z20) rfl rfl (by kernel_rfl) (by kernel_rfl) (by kernel_rfl) (by kernel_rfl) (fun _ _ _ h => h) (Or.inl ⟨by rfl, ?y17_14z20⟩) (fun _ => trivial) ?r17_14z20
              case y17_14z20 =>
                intro w hSw
                go_simp
                try with_reducible rfl
              try simp only [Act.put, List.setIfInBounds_toArray, List.set_cons_zero, List.set_cons_succ]
              refine wpAnyK_ready (rs := [19]) (by kernel_rfl) (by simp) ?_
              refine AllReadyK.cons (i := 19) rfl (fun K hK => ?_) ?_
              · refine step_lookup_x rfl (.tmp 26) (.tmp 27) 55 rfl _ _ _ rfl rfl (gk_look HP.out o (by omega) (by decide)) ?_
                refine hK.out _ _ (fun _ => trivial) ?_
                clear hK K
                try simp only [Act.put, List.setIfInBounds_toArray, List.set_cons_zero, List.set_cons_succ]
                refine wpAnyK_take2 (i := 20) (some 9) (v := ?v20_15z20) rfl rfl (by kernel_rfl) (by kernel_rfl) (by kernel_rfl) (by kernel_rfl) (fun _ _ _ h => h) (Or.inl ⟨by rfl, ?y20_15z20⟩) (fun _ => trivial) ?r20_15z20
                case y20_15z20 =>
                  intro w hSw
                  go_simp
                  try with_reducible rfl
                try simp only [Act.put, List.setIfInBounds_toArray, List.set_cons_zero, List.set_cons_succ]
                refine wpAnyK_done (by kernel_rfl) ?_ _
                go_wp2
                go_meet
                exact ⟨_, rfl, rfl, HBE⟩
              exact AllReadyK.nil
            exact AllReadyK.nil
          refine AllReadyK.cons (i := 16) rfl (fun K hK => ?_) ?_
          · refine step_insert_x rfl (.tmp 13) (.const (.string ⟨#[45, 83]⟩)) (.tmp 25) 55 rfl _ _ _ rfl rfl rfl (gk_put HP.out [45, 83] 5 (by decide) (by decide) (by decide) (by decide)) ?_
            rintro w4 ⟨hp4, ht4⟩
            have HP := Lib.hid hp4
            have HBE := Lib.hid (below_keeps HBE.out (keeps_turned ht4) (fun k e => by omega))
            clear hp4 ht4
            obtain ⟨D, rfl⟩ : ∃ D, D = w4 := ⟨_, rfl⟩
            refine hK.out _ _ (fun _ => trivial) ?_
            clear hK K
            try simp only [Act.put, List.setIfInBounds_toArray, List.set_cons_zero, List.set_cons_succ]
            refine wpAnyK_ready (rs := [12]) (by kernel_rfl) (by simp) ?_
            refine AllReadyK.cons (i := 12) rfl (fun K hK => ?_) ?_
            · refine step_insert_x rfl (.tmp 13) (.const (.string ⟨#[45, 80]⟩)) (.tmp 22) 55 rfl _ _ _ rfl rfl rfl (gk_put HP.out [45, 80] 4 (by decide) (by decide) (by decide) (by decide)) ?_
              rintro w4 ⟨hp4, ht4⟩
              have HP := Lib.hid hp4
              have HBE := Lib.hid (below_keeps HBE.out (keeps_turned ht4) (fun k e => by omega))
              clear hp4 ht4
              obtain ⟨D, rfl⟩ : ∃ D, D = w4 := ⟨_, rfl⟩
              refine hK.out _ _ (fun _ => trivial) ?_
              clear hK K
              try simp only [Act.put, List.setIfInBounds_toArray, List.set_cons_zero, List.set_cons_succ]
              refine wpAnyK_take2 (i := 17) (some 26) (v := ?v17_16z20) rfl rfl (by kernel_rfl) (by kernel_rfl) (by kernel_rfl) (by kernel_rfl) (fun _ _ _ h => h) (Or.inl ⟨by rfl, ?y17_16z20⟩) (fun _ => trivial) ?r17_16z20
              case y17_16z20 =>
                intro w hSw
                go_simp
                try with_reducible rfl
              try simp only [Act.put, List.setIfInBounds_toArray, List.set_cons_zero, List.set_cons_succ]
              refine wpAnyK_ready (rs := [19]) (by kernel_rfl) (by simp) ?_
              refine AllReadyK.cons (i := 19) rfl (fun K hK => ?_) ?_
              · refine step_lookup_x rfl (.tmp 26) (.tmp 27) 55 rfl _ _ _ rfl rfl (gk_look HP.out o (by omega) (by decide)) ?_
                refine hK.out _ _ (fun _ => trivial) ?_
                clear hK K
                try simp only [Act.put, List.setIfInBounds_toArray, List.set_cons_zero, List.set_cons_succ]
                refine wpAnyK_take2 (i := 20) (some 9) (v := ?v20_17z20) rfl rfl (by kernel_rfl) (by kernel_rfl) (by kernel_rfl) (by kernel_rfl) (fun _ _ _ h => h) (Or.inl ⟨by rfl, ?y20_17z20⟩) (fun _ => trivial) ?r20_17z20
                case y20_17z20 =>
                  intro w hSw
                  go_simp
                  try with_reducible rfl
                try simp only [Act.put, List.setIfInBounds_toArray, List.set_cons_zero, List.set_cons_succ]
                refine wpAnyK_done (by kernel_rfl) ?_ _
                go_wp2
                go_meet
                exact ⟨_, rfl, rfl, HBE⟩
              exact AllReadyK.nil
            exact AllReadyK.nil
          exact AllReadyK.nil
        refine AllReadyK.cons (i := 12) rfl (fun K hK => ?_) ?_
        · refine step_insert_x rfl (.tmp 13) (.const (.string ⟨#[45, 80]⟩)) (.tmp 22) 55 rfl _ _ _ rfl rfl rfl (gk_put HP.out [45, 80] 4 (by decide) (by decide) (by decide) (by decide)) ?_
          rintro w4 ⟨hp4, ht4⟩
          have HP := Lib.hid hp4
          have HBE := Lib.hid (below_keeps HBE.out (keeps_turned ht4) (fun k e => by omega))
          clear hp4 ht4
          obtain ⟨D, rfl⟩ : ∃ D, D = w4 := ⟨_, rfl⟩
          refine hK.out _ _ (fun _ => trivial) ?_
          clear hK K
          try simp only [Act.put, List.setIfInBounds_toArray, List.set_cons_zero, List.set_cons_succ]
          refine wpAnyK_ready (rs := [8, 16]) (by kernel_rfl) (by simp) ?_
          refine AllReadyK.cons (i := 8) rfl (fun K hK => ?_) ?_
          · refine step_insert_x rfl (.tmp 13) (.const (.string ⟨#[45, 88]⟩)) (.tmp 19) 55 rfl _ _ _ rfl rfl rfl (gk_put HP.out [45, 88] 3 (by decide) (by decide) (by decide) (by decide)) ?_
            rintro w4 ⟨hp4, ht4⟩
            have HP := Lib.hid hp4
            have HBE := Lib.hid (below_keeps HBE.out (keeps_turned ht4) (fun k e => by omega))
            clear hp4 ht4
            obtain ⟨D, rfl⟩ : ∃ D, D = w4 := ⟨_, rfl⟩
            refine hK.out _ _ (fun _ => trivial) ?_
            clear hK K
            try simp only [Act.put, List.setIfInBounds_toArray, List.set_cons_zero, List.set_cons_succ]
            refine wpAnyK_ready (rs := [16]) (by kernel_rfl) (by simp) ?_
            refine AllReadyK.cons (i := 16) rfl (fun K hK => ?_) ?_
            · refine step_insert_x rfl (.tmp 13) (.const (.string ⟨#[45, 83]⟩)) (.tmp 25) 55 rfl _ _ _ rfl rfl rfl (gk_put HP.out [45, 83] 5 (by decide) (by decide) (by decide) (by decide)) ?_
              rintro w4 ⟨hp4, ht4⟩
              have HP := Lib.hid hp4
              have HBE := Lib.hid (below_keeps HBE.out (keeps_turned ht4) (fun k e => by omega))
              clear hp4 ht4
              obtain ⟨D, rfl⟩ : ∃ D, D = w4 := ⟨_, rfl⟩
              refine hK.out _ _ (fun _ => trivial) ?_
              clear hK K
              try simp only [Act.put, List.setIfInBounds_toArray, List.set_cons_zero, List.set_cons_succ]
              refine wpAnyK_take2 (i := 17) (some 26) (v := ?v17_18z20) rfl rfl (by kernel_rfl) (by kernel_rfl) (by kernel_rfl) (by kernel_rfl) (fun _ _ _ h => h) (Or.inl ⟨by rfl, ?y17_18z20⟩) (fun _ => trivial) ?r17_18z20
              case y17_18z20 =>
                intro w hSw
                go_simp
                try with_reducible rfl
              try simp only [Act.put, List.setIfInBounds_toArray, List.set_cons_zero, List.set_cons_succ]
              refine wpAnyK_ready (rs := [19]) (by kernel_rfl) (by simp) ?_
              refine AllReadyK.cons (i := 19) rfl (fun K hK => ?_) ?_
              · refine step_lookup_x rfl (.tmp 26) (.tmp 27) 55 rfl _ _ _ rfl rfl (gk_look HP.out o (by omega) (by decide)) ?_
                refine hK.out _ _ (fun _ => trivial) ?_
                clear hK K
                try simp only [Act.put, List.setIfInBounds_toArray, List.set_cons_zero, List.set_cons_succ]
                refine wpAnyK_take2 (i := 20) (some 9) (v := ?v20_19z20) rfl rfl (by kernel_rfl) (by kernel_rfl) (by kernel_rfl) (by kernel_rfl) (fun _ _ _ h => h) (Or.inl ⟨by rfl, ?y20_19z20⟩) (fun _ => trivial) ?r20_19z20
                case y20_19z20 =>
                  intro w hSw
                  go_simp
                  try with_reducible rfl
                try simp only [Act.put, List.setIfInBounds_toArray, List.set_cons_zero, List.set_cons_succ]
                refine wpAnyK_done (by kernel_rfl) ?_ _
                go_wp2
                go_meet
                exact ⟨_, rfl, rfl, HBE⟩
              exact AllReadyK.nil
            exact AllReadyK.nil
          refine AllReadyK.cons (i := 16) rfl (fun K hK => ?_) ?_
          · refine step_insert_x rfl (.tmp 13) (.const (.string ⟨#[45, 83]⟩)) (.tmp 25) 55 rfl _ _ _ rfl rfl rfl (gk_put HP.out [45, 83] 5 (by decide) (by decide) (by decide) (by decide)) ?_
            rintro w4 ⟨hp4, ht4⟩
            have HP := Lib.hid hp4
            have HBE := Lib.hid (below_keeps HBE.out (keeps_turned ht4) (fun k e => by omega))
            clear hp4 ht4
            obtain ⟨D, rfl⟩ : ∃ D, D = w4 := ⟨_, rfl⟩
            refine hK.out _ _ (fun _ => trivial) ?_
            clear hK K
            try simp only [Act.put, List.setIfInBounds_toArray, List.set_cons_zero, List.set_cons_succ]
            refine wpAnyK_ready (rs := [8]) (by kernel_rfl) (by simp) ?_
            refine AllReadyK.cons (i := 8) rfl (fun K hK => ?_) ?_
            · refine step_insert_x rfl (.tmp 13) (.const (.string ⟨#[45, 88]⟩)) (.tmp 19) 55 rfl _ _ _ rfl rfl rfl (gk_put HP.out [45, 88] 3 (by decide) (by decide) (by decide) (by decide)) ?_
              rintro w4 ⟨hp4, ht4⟩
              have HP := Lib.hid hp4
              have HBE := Lib.hid (below_keeps HBE.out (keeps_turned ht4) (fun k e => by omega))
              clear hp4 ht4
              obtain ⟨D, rfl⟩ : ∃ D, D = w4 := ⟨_, rfl⟩
              refine hK.out _ _ (fun _ => trivial) ?_
              clear hK K
              try simp only [Act.put, List.setIfInBounds_toArray, List.set_cons_zero, List.set_cons_succ]
              refine wpAnyK_take2 (i := 17) (some 26) (v := ?v17_20z20) rfl rfl (by kernel_rfl) (by kernel_rfl) (by kernel_rfl) (by kernel_rfl) (fun _ _ _ h => h) (Or.inl ⟨by rfl, ?y17_20z20⟩) (fun _ => trivial) ?r17_20z20
              case y17_20z20 =>
                intro w hSw
                go_simp
                try with_reducible rfl
              try simp only [Act.put, List.setIfInBounds_toArray, List.set_cons_zero, List.set_cons_succ]
              refine wpAnyK_ready (rs := [19]) (by kernel_rfl) (by simp) ?_
              refine AllReadyK.cons (i := 19) rfl (fun K hK => ?_) ?_
              · refine step_lookup_x rfl (.tmp 26) (.tmp 27) 55 rfl _ _ _ rfl rfl (gk_look HP.out o (by omega) (by decide)) ?_
                refine hK.out _ _ (fun _ => trivial) ?_
                clear hK K
                try simp only [Act.put, List.setIfInBounds_toArray, List.set_cons_zero, List.set_cons_succ]
                refine wpAnyK_take2 (i := 20) (some 9) (v := ?v20_21z20) rfl rfl (by kernel_rfl) (by kernel_rfl) (by kernel_rfl) (by kernel_rfl) (fun _ _ _ h => h) (Or.inl ⟨by rfl, ?y20_21z20⟩) (fun _ => trivial) ?r20_21z20
                case y20_21z20 =>
                  intro w hSw
                  go_simp
                  try with_reducible rfl
                try simp only [Act.put, List.setIfInBounds_toArray, List.set_cons_zero, List.set_cons_succ]
                refine wpAnyK_done (by kernel_rfl) ?_ _
                go_wp2
                go_meet
                exact ⟨_, rfl, rfl, HBE⟩
              exact AllReadyK.nil
            exact AllReadyK.nil
          exact AllReadyK.nil
        refine AllReadyK.cons (i := 16) rfl (fun K hK => ?_) ?_
        · refine step_insert_x rfl (.tmp 13) (.const (.string ⟨#[45, 83]⟩)) (.tmp 25) 55 rfl _ _ _ rfl rfl rfl (gk_put HP.out [45, 83] 5 (by decide) (by decide) (by decide) (by decide)) ?_
          rintro w4 ⟨hp4, ht4⟩
          have HP := Lib.hid hp4
          have HBE := Lib.hid (below_keeps HBE.out (keeps_turned ht4) (fun k e => by omega))
          clear hp4 ht4
          obtain ⟨D, rfl⟩ : ∃ D, D = w4 := ⟨_, rfl⟩
          refine hK.out _ _ (fun _ => trivial) ?_
          clear hK K
          try simp only [Act.put, List.setIfInBounds_toArray, List.set_cons_zero, List.set_cons_succ]
          refine wpAnyK_ready (rs := [8, 12]) (by kernel_rfl) (by simp) ?_
          refine AllReadyK.cons (i := 8) rfl (fun K hK => ?_) ?_
          · refine step_insert_x rfl (.tmp 13) (.const (.string ⟨#[45, 88]⟩)) (.tmp 19) 55 rfl _ _ _ rfl rfl rfl (gk_put HP.out [45, 88] 3 (by decide) (by decide) (by decide) (by decide)) ?_
            rintro w4 ⟨hp4, ht4⟩
            have HP := Lib.hid hp4
            have HBE := Lib.hid (below_keeps HBE.out (keeps_turned ht4) (fun k e => by omega))
            clear hp4 ht4
            obtain ⟨D, rfl⟩ : ∃ D, D = w4 := ⟨_, rfl⟩
            refine hK.out _ _ (fun _ => trivial) ?_
            clear hK K
            try simp only [Act.put, List.setIfInBounds_toArray, List.set_cons_zero, List.set_cons_succ]
            refine wpAnyK_ready (rs := [12]) (by kernel_rfl) (by simp) ?_
            refine AllReadyK.cons (i := 12) rfl (fun K hK => ?_) ?_
            · refine step_insert_x rfl (.tmp 13) (.const (.string ⟨#[45, 80]⟩)) (.tmp 22) 55 rfl _ _ _ rfl rfl rfl (gk_put HP.out [45, 80] 4 (by decide) (by decide) (by decide) (by decide)) ?_
              rintro w4 ⟨hp4, ht4⟩
              have HP := Lib.hid hp4
              have HBE := Lib.hid (below_keeps HBE.out (keeps_turned ht4) (fun k e => by omega))
              clear hp4 ht4
              obtain ⟨D, rfl⟩ : ∃ D, D = w4 := ⟨_, rfl⟩
              refine hK.out _ _ (fun _ => trivial) ?_
              clear hK K
              try simp only [Act.put, List.setIfInBounds_toArray, List.set_cons_zero, List.set_cons_succ]
              refine wpAnyK_take2 (i := 17) (some 26) (v := ?v17_22z20) rfl rfl (by kernel_rfl) (by kernel_rfl) (by kernel_rfl) (by kernel_rfl) (fun _ _ _ h => h) (Or.inl ⟨by rfl, ?y17_22z20⟩) (fun _ => trivial) ?r17_22z20
              case y17_22z20 =>
                intro w hSw
                go_simp
                try with_reducible rfl
              try simp only [Act.put, List.setIfInBounds_toArray, List.set_cons_zero, List.set_cons_succ]
              refine wpAnyK_ready (rs := [19]) (by kernel_rfl) (by simp) ?_
              refine AllReadyK.cons (i := 19) rfl (fun K hK => ?_) ?_
              · refine step_lookup_x rfl (.tmp 26) (.tmp 27) 55 rfl _ _ _ rfl rfl (gk_look HP.out o (by omega) (by decide)) ?_
                refine hK.out _ _ (fun _ => trivial) ?_
                clear hK K
                try simp only [Act.put, List.setIfInBounds_toArray, List.set_cons_zero, List.set_cons_succ]
                refine wpAnyK_take2 (i := 20) (some 9) (v := ?v20_23z20) rfl rfl (by kernel_rfl) (by kernel_rfl) (by kernel_rfl) (by kernel_rfl) (fun _ _ _ h => h) (Or.inl ⟨by rfl, ?y20_23z20⟩) (fun _ => trivial) ?r20_23z20
                case y20_23z20 =>
                  intro w hSw
                  go_simp
                  try with_reducible rfl
                try simp only [Act.put, List.setIfInBounds_toArray, List.set_cons_zero, List.set_cons_succ]
                refine wpAnyK_done (by kernel_rfl) ?_ _
                go_wp2
                go_meet
                exact ⟨_, rfl, rfl, HBE⟩
              exact AllReadyK.nil
            exact AllReadyK.nil
          refine AllReadyK.cons (i := 12) rfl (fun K hK => ?_) ?_
          · refine step_insert_x rfl (.tmp 13) (.const (.string ⟨#[45, 80]⟩)) (.tmp 22) 55 rfl _ _ _ rfl rfl rfl (gk_put HP.out [45, 80] 4 (by decide) (by decide) (by decide) (by decide)) ?_
            rintro w4 ⟨hp4, ht4⟩
            have HP := Lib.hid hp4
            have HBE := Lib.hid (below_keeps HBE.out (keeps_turned ht4) (fun k e => by omega))
            clear hp4 ht4
            obtain ⟨D, rfl⟩ : ∃ D, D = w4 := ⟨_, rfl⟩
            refine hK.out _ _ (fun _ => trivial) ?_
            clear hK K
            try simp only [Act.put, List.setIfInBounds_toArray, List.set_cons_zero, List.set_cons_succ]
            refine wpAnyK_ready (rs := [8]) (by kernel_rfl) (by simp) ?_
            refine AllReadyK.cons (i := 8) rfl (fun K hK => ?_) ?_
            · refine step_insert_x rfl (.tmp 13) (.const (.string ⟨#[45, 88]⟩)) (.tmp 19) 55 rfl _ _ _ rfl rfl rfl (gk_put HP.out [45, 88] 3 (by decide) (by decide) (by decide) (by decide)) ?_
              rintro w4 ⟨hp4, ht4⟩
              have HP := Lib.hid hp4
              have HBE := Lib.hid (below_keeps HBE.out (keeps_turned ht4) (fun k e => by omega))
              clear hp4 ht4
              obtain ⟨D, rfl⟩ : ∃ D, D = w4 := ⟨_, rfl⟩
              refine hK.out _ _ (fun _ => trivial) ?_
              clear hK K
              try simp only [Act.put, List.setIfInBounds_toArray, List.set_cons_zero, List.set_cons_succ]
              refine wpAnyK_take2 (i := 17) (some 26) (v := ?v17_24z20) rfl rfl (by kernel_rfl) (by kernel_rfl) (by kernel_rfl) (by kernel_rfl) (fun _ _ _ h => h) (Or.inl ⟨by rfl, ?y17_24z20⟩) (fun _ => trivial) ?r17_24z20
              case y17_24z20 =>
                intro w hSw
                go_simp
                try with_reducible rfl
              try simp only [Act.put, List.setIfInBounds_toArray, List.set_cons_zero, List.set_cons_succ]
              refine wpAnyK_ready (rs := [19]) (by kernel_rfl) (by simp) ?_
              refine AllReadyK.cons (i := 19) rfl (fun K hK => ?_) ?_
              · refine step_lookup_x rfl (.tmp 26) (.tmp 27) 55 rfl _ _ _ rfl rfl (gk_look HP.out o (by omega) (by decide)) ?_
                refine hK.out _ _ (fun _ => trivial) ?_
                clear hK K
                try simp only [Act.put, List.setIfInBounds_toArray, List.set_cons_zero, List.set_cons_succ]
                refine wpAnyK_take2 (i := 20) (some 9) (v := ?v20_25z20) rfl rfl (by kernel_rfl) (by kernel_rfl) (by kernel_rfl) (by kernel_rfl) (fun _ _ _ h => h) (Or.inl ⟨by rfl, ?y20_25z20⟩) (fun _ => trivial) ?r20_25z20
                case y20_25z20 =>
                  intro w hSw
                  go_simp
                  try with_reducible rfl
                try simp only [Act.put, List.setIfInBounds_toArray, List.set_cons_zero, List.set_cons_succ]
                refine wpAnyK_done (by kernel_rfl) ?_ _
                go_wp2
                go_meet
                exact ⟨_, rfl, rfl, HBE⟩
              exact AllReadyK.nil
            exact AllReadyK.nil
          exact AllReadyK.nil
        exact AllReadyK.nil
      refine AllReadyK.cons (i := 8) rfl (fun K hK => ?_) ?_
      · refine step_insert_x rfl (.tmp 13) (.const (.string ⟨#[45, 88]⟩)) (.tmp 19) 55 rfl _ _ _ rfl rfl rfl (gk_put HP.out [45, 88] 3 (by decide) (by decide) (by decide) (by decide)) ?_
        rintro w4 ⟨hp4, ht4⟩
        have HP := Lib.hid hp4
        have HBE := Lib.hid (below_keeps HBE.out (keeps_turned ht4) (fun k e => by omega))
        clear hp4 ht4
        obtain ⟨D, rfl⟩ : ∃ D, D = w4 := ⟨_, rfl⟩
        refine hK.out _ _ (fun _ => trivial) ?_
        clear hK K
        try simp only [Act.put, List.setIfInBounds_toArray, List.set_cons_zero, List.set_cons_succ]
        refine wpAnyK_ready (rs := [4, 12, 16]) (by kernel_rfl) (by simp) ?_
        refine AllReadyK.cons (i := 4) rfl (fun K hK => ?_) ?_
        · refine step_insert_x rfl (.tmp 13) (.const (.string ⟨#[45, 71]⟩)) (.tmp 16) 55 rfl _ _ _ rfl rfl rfl (gk_put HP.out [45, 71] 2 (by decide) (by decide) (by decide) (by decide)) ?_
          rintro w4 ⟨hp4, ht4⟩
          have HP := Lib.hid hp4
          have HBE := Lib.hid (below_keeps HBE.out (keeps_turned ht4) (fun k e => by omega))
          clear hp4 ht4
          obtain ⟨D, rfl⟩ : ∃ D, D = w4 := ⟨_, rfl⟩
          refine hK.out _ _ (fun _ => trivial) ?_
          clear hK K
          try simp only [Act.put, List.setIfInBounds_toArray, List.set_cons_zero, List.set_cons_succ]
          refine wpAnyK_ready (rs := [12, 16]) (by kernel_rfl) (by simp) ?_
          refine AllReadyK.cons (i := 12) rfl (fun K hK => ?_) ?_
          · refine step_insert_x rfl (.tmp 13) (.const (.string ⟨#[45, 80]⟩)) (.tmp 22) 55 rfl _ _ _ rfl rfl rfl (gk_put HP.out [45, 80] 4 (by decide) (by decide) (by decide) (by decide)) ?_
            rintro w4 ⟨hp4, ht4⟩
            have HP := Lib.hid hp4
            have HBE := Lib.hid (below_keeps HBE.out (keeps_turned ht4) (fun k e => by omega))
            clear hp4 ht4
            obtain ⟨D, rfl⟩ : ∃ D, D = w4 := ⟨_, rfl⟩
            refine hK.out _ _ (fun _ => trivial) ?_
            clear hK K
            try simp only [Act.put, List.setIfInBounds_toArray, List.set_cons_zero, List.set_cons_succ]
            refine wpAnyK_ready (rs := [16]) (by kernel_rfl) (by simp) ?_
            refine AllReadyK.cons (i := 16) rfl (fun K hK => ?_) ?_
            · refine step_insert_x rfl (.tmp 13) (.const (.string ⟨#[45, 83]⟩)) (.tmp 25) 55 rfl _ _ _ rfl rfl rfl (gk_put HP.out [45, 83] 5 (by decide) (by decide) (by decide) (by decide)) ?_
              rintro w4 ⟨hp4, ht4⟩
              have HP := Lib.hid hp4
              have HBE := Lib.hid (below_keeps HBE.out (keeps_turned ht4) (fun k e => by omega))
              clear hp4 ht4
              obtain ⟨D, rfl⟩ : ∃ D, D = w4 := ⟨_, rfl⟩
              refine hK.out _ _ (fun _ => trivial) ?_
              clear hK K
              try simp only [Act.put, List.setIfInBounds_toArray, List.set_cons_zero, List.set_cons_succ]
              refine wpAnyK_take2 (i := 17) (some 26) (v := ?v17_26z20) rfl rfl (by kernel_rfl) (by kernel_rfl) (by kernel_rfl) (by kernel_rfl) (fun _ _ _ h => h) (Or.inl ⟨by rfl, ?y17_26z20⟩) (fun _ => trivial) ?r17_26z20
              case y17_26z20 =>
                intro w hSw
                go_simp
                try with_reducible rfl
              try simp only [Act.put, List.setIfInBounds_toArray, List.set_cons_zero, List.set_cons_succ]
              refine wpAnyK_ready (rs := [19]) (by kernel_rfl) (by simp) ?_
              refine AllReadyK.cons (i := 19) rfl (fun K hK => ?_) ?_
              · refine step_lookup_x rfl (.tmp 26) (.tmp 27) 55 rfl _ _ _ rfl rfl (gk_look HP.out o (by omega) (by decide)) ?_
                refine hK.out _ _ (fun _ => trivial) ?_
                clear hK K
                try simp only [Act.put, List.setIfInBounds_toArray, List.set_cons_zero, List.set_cons_succ]
                refine wpAnyK_take2 (i := 20) (some 9) (v := ?v20_27z20) rfl rfl (by kernel_rfl) (by kernel_rfl) (by kernel_rfl) (by kernel_rfl) (fun _ _ _ h => h) (Or.inl ⟨by rfl, ?y20_27z20⟩) (fun _ => trivial) ?r20_27z20
                case y20_27z20 =>
                  intro w hSw
                  go_simp
                  try with_reducible rfl
                try simp only [Act.put, List.setIfInBounds_toArray, List.set_cons_zero, List.set_cons_succ]
                refine wpAnyK_done (by kernel_rfl) ?_ _
                go_wp2
                go_meet
                exact ⟨_, rfl, rfl, HBE⟩
              exact AllReadyK.nil
            exact AllReadyK.nil
          refine AllReadyK.cons (i := 16) rfl (fun K hK => ?_) ?_
          · refine step_insert_x rfl (.tmp 13) (.const (.string ⟨#[45, 83]⟩)) (.tmp 25) 55 rfl _ _ _ rfl rfl rfl (gk_put HP.out [45, 83] 5 (by decide) (by decide) (by decide) (by decide)) ?_
            rintro w4 ⟨hp4, ht4⟩
            have HP := Lib.hid hp4
            have HBE := Lib.hid (below_keeps HBE.out (keeps_turned ht4) (fun k e => by omega))
            clear hp4 ht4
            obtain ⟨D, rfl⟩ : ∃ D, D = w4 := ⟨_, rfl⟩
            refine hK.out _ _ (fun _ => trivial) ?_
            clear hK K
            try simp only [Act.put, List.setIfInBounds_toArray, List.set_cons_zero, List.set_cons_succ]
            refine wpAnyK_ready (rs := [12]) (by kernel_rfl) (by simp) ?_
            refine AllReadyK.cons (i := 12) rfl (fun K hK => ?_) ?_
            · refine step_insert_x rfl (.tmp 13) (.const (.string ⟨#[45, 80]⟩)) (.tmp 22) 55 rfl _ _ _ rfl rfl rfl (gk_put HP.out [45, 80] 4 (by decide) (by decide) (by decide) (by decide)) ?_
              rintro w4 ⟨hp4, ht4⟩
              have HP := Lib.hid hp4
              have HBE := Lib.hid (below_keeps HBE.out (keeps_turned ht4) (fun k e => by omega))
              clear hp4 ht4
              obtain ⟨D, rfl⟩ : ∃ D, D = w4 := ⟨_, rfl⟩
              refine hK.out _ _ (fun _ => trivial) ?_
              clear hK K
              try simp only [Act.put, List.setIfInBounds_toArray, List.set_cons_zero, List.set_cons_succ]
              refine wpAnyK_take2 (i := 17) (some 26) (v := ?v17_28z20) rfl rfl (by kernel_rfl) (by kernel_rfl) (by kernel_rfl) (by kernel_rfl) (fun _ _ _ h => h) (Or.inl ⟨by rfl, ?y17_28z20⟩) (fun _ => trivial) ?r17_28z20
              case y17_28z20 =>
                intro w hSw
                go_simp
                try with_reducible rfl
              try simp only [Act.put, List.setIfInBounds_toArray, List.set_cons_zero, List.set_cons_succ]
              refine wpAnyK_ready (rs := [19]) (by kernel_rfl) (by simp) ?_
              refine AllReadyK.cons (i := 19) rfl (fun K hK => ?_) ?_
              · refine step_lookup_x rfl (.tmp 26) (.tmp 27) 55 rfl _ _ _ rfl rfl (gk_look HP.out o (by omega) (by decide)) ?_
                refine hK.out _ _ (fun _ => trivial) ?_
                clear hK K
                try simp only [Act.put, List.setIfInBounds_toArray, List.set_cons_zero, List.set_cons_succ]
                refine wpAnyK_take2 (i := 20) (some 9) (v := ?v20_29z20) rfl rfl (by kernel_rfl) (by kernel_rfl) (by kernel_rfl) (by kernel_rfl) (fun _ _ _ h => h) (Or.inl ⟨by rfl, ?y20_29z20⟩) (fun _ => trivial) ?r20_29z20
                case y20_29z20 =>
                  intro w hSw
                  go_simp
                  try with_reducible rfl
                try simp only [Act.put, List.setIfInBounds_toArray, List.set_cons_zero, List.set_cons_succ]
                refine wpAnyK_done (by kernel_rfl) ?_ _
                go_wp2
                go_meet
                exact ⟨_, rfl, rfl, HBE⟩
              exact AllReadyK.nil
            exact AllReadyK.nil
          exact AllReadyK.nil
        refine AllReadyK.cons (i := 12) rfl (fun K hK => ?_) ?_
        · refine step_insert_x rfl (.tmp 13) (.const (.string ⟨#[45, 80]⟩)) (.tmp 22) 55 rfl _ _ _ rfl rfl rfl (gk_put HP.out [45, 80] 4 (by decide) (by decide) (by decide) (by decide)) ?_
          rintro w4 ⟨hp4, ht4⟩
          have HP := Lib.hid hp4
          have HBE := Lib.hid (below_keeps HBE.out (keeps_turned ht4) (fun k e => by omega))
          clear hp4 ht4
          obtain ⟨D, rfl⟩ : ∃ D, D = w4 := ⟨_, rfl⟩
          refine hK.out _ _ (fun _ => trivial) ?_
          clear hK K
          try simp only [Act.put, List.setIfInBounds_toArray, List.set_cons_zero, List.set_cons_succ]
          refine wpAnyK_ready (rs := [4, 16]) (by kernel_rfl) (by simp) ?_
          refine AllReadyK.cons (i := 4) rfl (fun K hK => ?_) ?_
          · refine step_insert_x rfl (.tmp 13) (.const (.string ⟨#[45, 71]⟩)) (.tmp 16) 55 rfl _ _ _ rfl rfl rfl (gk_put HP.out [45, 71] 2 (by decide) (by decide) (by decide) (by decide)) ?_
            rintro w4 ⟨hp4, ht4⟩
            have HP := Lib.hid hp4
            have HBE := Lib.hid (below_keeps HBE.out (keeps_turned ht4) (fun k e => by omega))
            clear hp4 ht4
            obtain ⟨D, rfl⟩ : ∃ D, D = w4 := ⟨_, rfl⟩
            refine hK.out _ _ (fun _ => trivial) ?_
            clear hK K
            try simp only [Act.put, List.setIfInBounds_toArray, List.set_cons_zero, List.set_cons_succ]
            refine wpAnyK_ready (rs := [16]) (by kernel_rfl) (by simp) ?_
            refine AllReadyK.cons (i := 16) rfl (fun K hK => ?_) ?_
            · refine step_insert_x rfl (.tmp 13) (.const (.string ⟨#[45, 83]⟩)) (.tmp 25) 55 rfl _ _ _ rfl rfl rfl (gk_put HP.out [45, 83] 5 (by decide) (by decide) (by decide) (by decide)) ?_
              rintro w4 ⟨hp4, ht4⟩
              have HP := Lib.hid hp4
              have HBE := Lib.hid (below_keeps HBE.out (keeps_turned ht4) (fun k e => by omega))
              clear hp4 ht4
              obtain ⟨D, rfl⟩ : ∃ D, D = w4 := ⟨_, rfl⟩
              refine hK.out _ _ (fun _ => trivial) ?_
              clear hK K
              try simp only [Act.put, List.setIfInBounds_toArray, List.set_cons_zero, List.set_cons_succ]
              refine wpAnyK_take2 (i := 17) (some 26) (v := ?v17_30z20) rfl rfl (by kernel_rfl) (by kernel_rfl) (by kernel_rfl) (by kernel_rfl) (fun _ _ _ h => h) (Or.inl ⟨by rfl, ?y17_30z20⟩) (fun _ => trivial) ?r17_30z20
              case y17_30z20 =>
                intro w hSw
                go_simp
                try with_reducible rfl
              try simp only [Act.put, List.setIfInBounds_toArray, List.set_cons_zero, List.set_cons_succ]
              refine wpAnyK_ready (rs := [19]) (by kernel_rfl) (by simp) ?_
              refine AllReadyK.cons (i := 19) rfl (fun K hK => ?_) ?_
              · refine step_lookup_x rfl (.tmp 26) (.tmp 27) 55 rfl _ _ _ rfl rfl (gk_look HP.out o (by omega) (by decide)) ?_
                refine hK.out _ _ (fun _ => trivial) ?_
                clear hK K
                try simp only [Act.put, List.setIfInBounds_toArray, List.set_cons_zero, List.set_cons_succ]
                refine wpAnyK_take2 (i := 20) (some 9) (v := ?v20_31z20) rfl rfl (by kernel_rfl) (by kernel_rfl) (by kernel_rfl) (by kernel_rfl) (fun _ _ _ h => h) (Or.inl ⟨by rfl, ?y20_31z20⟩) (fun _ => trivial) ?r20_31z20
                case y20_31z20 =>
                  intro w hSw
                  go_simp
                  try with_reducible rfl
                try simp only [Act.put, List.setIfInBounds_toArray, List.set_cons_zero, List.set_cons_succ]
                refine wpAnyK_done (by kernel_rfl) ?_ _
                go_wp2
                go_meet
                exact ⟨_, rfl, rfl, HBE⟩
              exact AllReadyK.nil
            exact AllReadyK.nil
          refine AllReadyK.cons (i := 16) rfl (fun K hK => ?_) ?_
          · refine step_insert_x rfl (.tmp 13) (.const (.string ⟨#[45, 83]⟩)) (.tmp 25) 55 rfl _ _ _ rfl rfl rfl (gk_put HP.out [45, 83] 5 (by decide) (by decide) (by decide) (by decide)) ?_
            rintro w4 ⟨hp4, ht4⟩
            have HP := Lib.hid hp4
            have HBE := Lib.hid (below_keeps HBE.out (keeps_turned ht4) (fun k e => by omega))
            clear hp4 ht4
            obtain ⟨D, rfl⟩ : ∃ D, D = w4 := ⟨_, rfl⟩
            refine hK.out _ _ (fun _ => trivial) ?_
            clear hK K
            try simp only [Act.put, List.setIfInBounds_toArray, List.set_cons_zero, List.set_cons_succ]
            refine wpAnyK_ready (rs := [4]) (by kernel_rfl) (by simp) ?_
            refine AllReadyK.cons (i := 4) rfl (fun K hK => ?_) ?_
            · refine step_insert_x rfl (.tmp 13) (.const (.string ⟨#[45, 71]⟩)) (.tmp 16) 55 rfl _ _ _ rfl rfl rfl (gk_put HP.out [45, 71] 2 (by decide) (by decide) (by decide) (by decide)) ?_
              rintro w4 ⟨hp4, ht4⟩
              have HP := Lib.hid hp4
              have HBE := Lib.hid (below_keeps HBE.out (keeps_turned ht4) (fun k e => by omega))
              clear hp4 ht4
              obtain ⟨D, rfl⟩ : ∃ D, D = w4 := ⟨_, rfl⟩
              refine hK.out _ _ (fun _ => trivial) ?_
              clear hK K
              try simp only [Act.put, List.setIfInBounds_toArray, List.set_cons_zero, List.set_cons_succ]
              refine wpAnyK_take2 (i := 17) (some 26) (v := ?v17_32z20) rfl rfl (by kernel_rfl) (by kernel_rfl) (by kernel_rfl) (by kernel_rfl) (fun _ _ _ h => h) (Or.inl ⟨by rfl, ?y17_32z20⟩) (fun _ => trivial) ?r17_32z20
              case y17_32z20 =>
                intro w hSw
                go_simp
                try with_reducible rfl
              try simp only [Act.put, List.setIfInBounds_toArray, List.set_cons_zero, List.set_cons_succ]
              refine wpAnyK_ready (rs := [19]) (by kernel_rfl) (by simp) ?_
              refine AllReadyK.cons (i := 19) rfl (fun K hK => ?_) ?_
              · refine step_lookup_x rfl (.tmp 26) (.tmp 27) 55 rfl _ _ _ rfl rfl (gk_look HP.out o (by omega) (by decide)) ?_
                refine hK.out _ _ (fun _ => trivial) ?_
                clear hK K
                try simp only [Act.put, List.setIfInBounds_toArray, List.set_cons_zero, List.set_cons_succ]
                refine wpAnyK_take2 (i := 20) (some 9) (v := ?v20_33z20) rfl rfl (by kernel_rfl) (by kernel_rfl) (by kernel_rfl) (by kernel_rfl) (fun _ _ _ h => h) (Or.inl ⟨by rfl, ?y20_33z20⟩) (fun _ => trivial) ?r20_33z20
                case y20_33z20 =>
                  intro w hSw
                  go_simp
                  try with_reducible rfl
                try simp only [Act.put, List.setIfInBounds_toArray, List.set_cons_zero, List.set_cons_succ]
                refine wpAnyK_done (by kernel_rfl) ?_ _
                go_wp2
                go_meet
                exact ⟨_, rfl, rfl, HBE⟩
              exact AllReadyK.nil
            exact AllReadyK.nil
          exact AllReadyK.nil
        refine AllReadyK.cons (i := 16) rfl (fun K hK => ?_) ?_
        · refine step_insert_x rfl (.tmp 13) (.const (.string ⟨#[45, 83]⟩)) (.tmp 25) 55 rfl _ _ _ rfl rfl rfl (gk_put HP.out [45, 83] 5 (by decide) (by decide) (by decide) (by decide)) ?_
          rintro w4 ⟨hp4, ht4⟩
          have HP := Lib.hid hp4
          have HBE := Lib.hid (below_keeps HBE.out (keeps_turned ht4) (fun k e => by omega))
          clear hp4 ht4
          obtain ⟨D, rfl⟩ : ∃ D, D = w4 := ⟨_, rfl⟩
          refine hK.out _ _ (fun _ => trivial) ?_
          clear hK K
          try simp only [Act.put, List.setIfInBounds_toArray, List.set_cons_zero, List.set_cons_succ]
          refine wpAnyK_ready (rs := [4, 12]) (by kernel_rfl) (by simp) ?_
          refine AllReadyK.cons (i := 4) rfl (fun K hK => ?_) ?_
          · refine step_insert_x rfl (.tmp 13) (.const (.string ⟨#[45, 71]⟩)) (.tmp 16) 55 rfl _ _ _ rfl rfl rfl (gk_put HP.out [45, 71] 2 (by decide) (by decide) (by decide) (by decide)) ?_
            rintro w4 ⟨hp4, ht4⟩
            have HP := Lib.hid hp4
            have HBE := Lib.hid (below_keeps HBE.out (keeps_turned ht4) (fun k e => by omega))
            clear hp4 ht4
            obtain ⟨D, rfl⟩ : ∃ D, D = w4 := ⟨_, rfl⟩
            refine hK.out _ _ (fun _ => trivial) ?_
            clear hK K
            try simp only [Act.put, List.setIfInBounds_toArray, List.set_cons_zero, List.set_cons_succ]
            refine wpAnyK_ready (rs := [12]) (by kernel_rfl) (by simp) ?_
            refine AllReadyK.cons (i := 12) rfl (fun K hK => ?_) ?_
            · refine step_insert_x rfl (.tmp 13) (.const (.string ⟨#[45, 80]⟩)) (.tmp 22) 55 rfl _ _ _ rfl rfl rfl (gk_put HP.out [45, 80] 4 (by decide) (by decide) (by decide) (by decide)) ?_
              rintro w4 ⟨hp4, ht4⟩
              have HP := Lib.hid hp4
              have HBE := Lib.hid (below_keeps HBE.out (keeps_turned ht4) (fun k e => by omega))
              clear hp4 ht4
              obtain ⟨D, rfl⟩ : ∃ D, D = w4 := ⟨_, rfl⟩
              refine hK.out _ _ (fun _ => trivial) ?_
              clear hK K
              try simp only [Act.put, List.setIfInBounds_toArray, List.set_cons_zero, List.set_cons_succ]
              refine wpAnyK_take2 (i := 17) (some 26) (v := ?v17_34z20) rfl rfl (by kernel_rfl) (by kernel_rfl) (by kernel_rfl) (by kernel_rfl) (fun _ _ _ h => h) (Or.inl ⟨by rfl, ?y17_34z20⟩) (fun _ => trivial) ?r17_34z20
              case y17_34z20 =>
                intro w hSw
                go_simp
                try with_reducible rfl
              try simp only [Act.put, List.setIfInBounds_toArray, List.set_cons_zero, List.set_cons_succ]
              refine wpAnyK_ready (rs := [19]) (by kernel_rfl) (by simp) ?_
              refine AllReadyK.cons (i := 19) rfl (fun K hK => ?_) ?_
              · refine step_lookup_x rfl (.tmp 26) (.tmp 27) 55 rfl _ _ _ rfl rfl (gk_look HP.out o (by omega) (by decide)) ?_
                refine hK.out _ _ (fun _ => trivial) ?_
                clear hK K
                try simp only [Act.put, List.setIfInBounds_toArray, List.set_cons_zero, List.set_cons_succ]
                refine wpAnyK_take2 (i := 20) (some 9) (v := ?v20_35z20) rfl rfl (by kernel_rfl) (by kernel_rfl) (by kernel_rfl) (by kernel_rfl) (fun _ _ _ h => h) (Or.inl ⟨by rfl, ?y20_35z20⟩) (fun _ => trivial) ?r20_35z20
                case y20_35z20 =>
                  intro w hSw
                  go_simp
                  try with_reducible rfl
                try simp only [Act.put, List.setIfInBounds_toArray, List.set_cons_zero, List.set_cons_succ]
                refine wpAnyK_done (by kernel_rfl) ?_ _
                go_wp2
                go_meet
                exact ⟨_, rfl, rfl, HBE⟩
              exact AllReadyK.nil
            exact AllReadyK.nil
          refine AllReadyK.cons (i := 12) rfl (fun K hK => ?_) ?_
          · refine step_insert_x rfl (.tmp 13) (.const (.string ⟨#[45, 80]⟩)) (.tmp 22) 55 rfl _ _ _ rfl rfl rfl (gk_put HP.out [45, 80] 4 (by decide) (by decide) (by decide) (by decide)) ?_
            rintro w4 ⟨hp4, ht4⟩
            have HP := Lib.hid hp4
            have HBE := Lib.hid (below_keeps HBE.out (keeps_turned ht4) (fun k e => by omega))
            clear hp4 ht4
            obtain ⟨D, rfl⟩ : ∃ D, D = w4 := ⟨_, rfl⟩
            refine hK.out _ _ (fun _ => trivial) ?_
            clear hK K
            try simp only [Act.put, List.setIfInBounds_toArray, List.set_cons_zero, List.set_cons_succ]
            refine wpAnyK_ready (rs := [4]) (by kernel_rfl) (by simp) ?_
            refine AllReadyK.cons (i := 4) rfl (fun K hK => ?_) ?_
            · refine step_insert_x rfl (.tmp 13) (.const (.string ⟨#[45, 71]⟩)) (.tmp 16) 55 rfl _ _ _ rfl rfl rfl (gk_put HP.out [45, 71] 2 (by decide) (by decide) (by decide) (by decide)) ?_
              rintro w4 ⟨hp4, ht4⟩
              have HP := Lib.hid hp4
              have HBE := Lib.hid (below_keeps HBE.out (keeps_turned ht4) (fun k e => by omega))
              clear hp4 ht4
              obtain ⟨D, rfl⟩ : ∃ D, D = w4 := ⟨_, rfl⟩
              refine hK.out _ _ (fun _ => trivial) ?_
              clear hK K
              try simp only [Act.put, List.setIfInBounds_toArray, List.set_cons_zero, List.set_cons_succ]
              refine wpAnyK_take2 (i := 17) (some 26) (v := ?v17_36z20) rfl rfl (by kernel_rfl) (by kernel_rfl) (by kernel_rfl) (by kernel_rfl) (fun _ _ _ h => h) (Or.inl ⟨by rfl, ?y17_36z20⟩) (fun _ => trivial) ?r17_36z20
              case y17_36z20 =>
                intro w hSw
                go_simp
                try with_reducible rfl
              try simp only [Act.put, List.setIfInBounds_toArray, List.set_cons_zero, List.set_cons_succ]
              refine wpAnyK_ready (rs := [19]) (by kernel_rfl) (by simp) ?_
              refine AllReadyK.cons (i := 19) rfl (fun K hK => ?_) ?_
              · refine step_lookup_x rfl (.tmp 26) (.tmp 27) 55 rfl _ _ _ rfl rfl (gk_look HP.out o (by omega) (by decide)) ?_
                refine hK.out _ _ (fun _ => trivial) ?_
                clear hK K
                try simp only [Act.put, List.setIfInBounds_toArray, List.set_cons_zero, List.set_cons_succ]
                refine wpAnyK_take2 (i := 20) (some 9) (v := ?v20_37z20) rfl rfl (by kernel_rfl) (by kernel_rfl) (by kernel_rfl) (by kernel_rfl) (fun _ _ _ h => h) (Or.inl ⟨by rfl, ?y20_37z20⟩) (fun _ => trivial) ?r20_37z20
                case y20_37z20 =>
                  intro w hSw
                  go_simp
                  try with_reducible rfl
                try simp only [Act.put, List.setIfInBounds_toArray, List.set_cons_zero, List.set_cons_succ]
                refine wpAnyK_done (by kernel_rfl) ?_ _
                go_wp2
                go_meet
                exact ⟨_, rfl, rfl, HBE⟩
              exact AllReadyK.nil
            exact AllReadyK.nil
          exact AllReadyK.nil
        exact AllReadyK.nil
      refine AllReadyK.cons (i := 12) rfl (fun K hK => ?_) ?_
      · refine step_insert_x rfl (.tmp 13) (.const (.string ⟨#[45, 80]⟩)) (.tmp 22) 55 rfl _ _ _ rfl rfl rfl (gk_put HP.out [45, 80] 4 (by decide) (by decide) (by decide) (by decide)) ?_
        rintro w4 ⟨hp4, ht4⟩
        have HP := Lib.hid hp4
        have HBE := Lib.hid (below_keeps HBE.out (keeps_turned ht4) (fun k e => by omega))
        clear hp4 ht4
        obtain ⟨D, rfl⟩ : ∃ D, D = w4 := ⟨_, rfl⟩
        refine hK.out _ _ (fun _ => trivial) ?_
        clear hK K
        try simp only [Act.put, List.setIfInBounds_toArray, List.set_cons_zero, List.set_cons_succ]
        refine wpAnyK_ready (rs := [4, 8, 16]) (by kernel_rfl) (by simp) ?_
        refine AllReadyK.cons (i := 4) rfl (fun K hK => ?_) ?_
        · refine step_insert_x rfl (.tmp 13) (.const (.string ⟨#[45, 71]⟩)) (.tmp 16) 55 rfl _ _ _ rfl rfl rfl (gk_put HP.out [45, 71] 2 (by decide) (by decide) (by decide) (by decide)) ?_
          rintro w4 ⟨hp4, ht4⟩
          have HP := Lib.hid hp4
          have HBE := Lib.hid (below_keeps HBE.out (keeps_turned ht4) (fun k e => by omega))
          clear hp4 ht4
          obtain ⟨D, rfl⟩ : ∃ D, D = w4 := ⟨_, rfl⟩
          refine hK.out _ _ (fun _ => trivial) ?_
          clear hK K
          try simp only [Act.put, List.setIfInBounds_toArray, List.set_cons_zero, List.set_cons_succ]
          refine wpAnyK_ready (rs := [8, 16]) (by kernel_rfl) (by simp) ?_
          refine AllReadyK.cons (i := 8) rfl (fun K hK => ?_) ?_
          · refine step_insert_x rfl (.tmp 13) (.const (.string ⟨#[45, 88]⟩)) (.tmp 19) 55 rfl _ _ _ rfl rfl rfl (gk_put HP.out [45, 88] 3 (by decide) (by decide) (by decide) (by decide)) ?_
            rintro w4 ⟨hp4, ht4⟩
            have HP := Lib.hid hp4
            have HBE := Lib.hid (below_keeps HBE.out (keeps_turned ht4) (fun k e => by omega))
            clear hp4 ht4
            obtain ⟨D, rfl⟩ : ∃ D, D = w4 := ⟨_, rfl⟩
            refine hK.out _ _ (fun _ => trivial) ?_
            clear hK K
            try simp only [Act.put, List.setIfInBounds_toArray, List.set_cons_zero, List.set_cons_succ]
            refine wpAnyK_ready (rs := [16]) (by kernel_rfl) (by simp) ?_
            refine AllReadyK.cons (i := 16) rfl (fun K hK => ?_) ?_
            · refine step_insert_x rfl (.tmp 13) (.const (.string ⟨#[45, 83]⟩)) (.tmp 25) 55 rfl _ _ _ rfl rfl rfl (gk_put HP.out [45, 83] 5 (by decide) (by decide) (by decide) (by decide)) ?_
              rintro w4 ⟨hp4, ht4⟩
              have HP := Lib.hid hp4
              have HBE := Lib.hid (below_keeps HBE.out (keeps_turned ht4) (fun k e => by omega))
              clear hp4 ht4
              obtain ⟨D, rfl⟩ : ∃ D, D = w4 := ⟨_, rfl⟩
              refine hK.out _ _ (fun _ => trivial) ?_
              clear hK K
              try simp only [Act.put, List.setIfInBounds_toArray, List.set_cons_zero, List.set_cons_succ]
              refine wpAnyK_take2 (i := 17) (some 26) (v := ?v17_38z20) rfl rfl (by kernel_rfl) (by kernel_rfl) (by kernel_rfl) (by kernel_rfl) (fun _ _ _ h => h) (Or.inl ⟨by rfl, ?y17_38z20⟩) (fun _ => trivial) ?r17_38z20
              case y17_38z20 =>
                intro w hSw
                go_simp
                try with_reducible rfl
              try simp only [Act.put, List.setIfInBounds_toArray, List.set_cons_zero, List.set_cons_succ]
              refine wpAnyK_ready (rs := [19]) (by kernel_rfl) (by simp) ?_
              refine AllReadyK.cons (i := 19) rfl (fun K hK => ?_) ?_
              · refine step_lookup_x rfl (.tmp 26) (.tmp 27) 55 rfl _ _ _ rfl rfl (gk_look HP.out o (by omega) (by decide)) ?_
                refine hK.out _ _ (fun _ => trivial) ?_
                clear hK K
                try simp only [Act.put, List.setIfInBounds_toArray, List.set_cons_zero, List.set_cons_succ]
                refine wpAnyK_take2 (i := 20) (some 9) (v := ?v20_39z20) rfl rfl (by kernel_rfl) (by kernel_rfl) (by kernel_rfl) (by kernel_rfl) (fun _ _ _ h => h) (Or.inl ⟨by rfl, ?y20_39z20⟩) (fun _ => trivial) ?r20_39z20
                case y20_39z20 =>
                  intro w hSw
                  go_simp
                  try with_reducible rfl
                try simp only [Act.put, List.setIfInBounds_toArray, List.set_cons_zero, List.set_cons_succ]
                refine wpAnyK_done (by kernel_rfl) ?_ _
                go_wp2
                go_meet
                exact ⟨_, rfl, rfl, HBE⟩
              exact AllReadyK.nil
            exact AllReadyK.nil
          refine AllReadyK.cons (i := 16) rfl (fun K hK => ?_) ?_
          · refine step_insert_x rfl (.tmp 13) (.const (.string ⟨#[45, 83]⟩)) (.tmp 25) 55 rfl _ _ _ rfl rfl rfl (gk_put HP.out [45, 83] 5 (by decide) (by decide) (by decide) (by decide)) ?_
            rintro w4 ⟨hp4, ht4⟩
            have HP := Lib.hid hp4
            have HBE := Lib.hid (below_keeps HBE.out (keeps_turned ht4) (fun k e => by omega))
            clear hp4 ht4
            obtain ⟨D, rfl⟩ : ∃ D, D = w4 := ⟨_, rfl⟩
            refine hK.out _ _ (fun _ => trivial) ?_
            clear hK K
            try simp only [Act.put, List.setIfInBounds_toArray, List.set_cons_zero, List.set_cons_succ]
            refine wpAnyK_ready (rs := [8]) (by kernel_rfl) (by simp) ?_
            refine AllReadyK.cons (i := 8) rfl (fun K hK => ?_) ?_
            · refine step_insert_x rfl (.tmp 13) (.const (.string ⟨#[45, 88]⟩)) (.tmp 19) 55 rfl _ _ _ rfl rfl rfl (gk_put HP.out [45, 88] 3 (by decide) (by decide) (by decide) (by decide)) ?_
              rintro w4 ⟨hp4, ht4⟩
              have HP := Lib.hid hp4
              have HBE := Lib.hid (below_keeps HBE.out (keeps_turned ht4) (fun k e => by omega))
              clear hp4 ht4
              obtain ⟨D, rfl⟩ : ∃ D, D = w4 := ⟨_, rfl⟩
              refine hK.out _ _ (fun _ => trivial) ?_
              clear hK K
              try simp only [Act.put, List.setIfInBounds_toArray, List.set_cons_zero, List.set_cons_succ]
              refine wpAnyK_take2 (i := 17) (some 26) (v := ?v17_40z20) rfl rfl (by kernel_rfl) (by kernel_rfl) (by kernel_rfl) (by kernel_rfl) (fun _ _ _ h => h) (Or.inl ⟨by rfl, ?y17_40z20⟩) (fun _ => trivial) ?r17_40z20
              case y17_40z20 =>
                intro w hSw
                go_simp
                try with_reducible rfl
              try simp only [Act.put, List.setIfInBounds_toArray, List.set_cons_zero, List.set_cons_succ]
              refine wpAnyK_ready (rs := [19]) (by kernel_rfl) (by simp) ?_
              refine AllReadyK.cons (i := 19) rfl (fun K hK => ?_) ?_
              · refine step_lookup_x rfl (.tmp 26) (.tmp 27) 55 rfl _ _ _ rfl rfl (gk_look HP.out o (by omega) (by decide)) ?_
                refine hK.out _ _ (fun _ => trivial) ?_
                clear hK K
                try simp only [Act.put, List.setIfInBounds_toArray, List.set_cons_zero, List.set_cons_succ]
                refine wpAnyK_take2 (i := 20) (some 9) (v := ?v20_41z20) rfl rfl (by kernel_rfl) (by kernel_rfl) (by kernel_rfl) (by kernel_rfl) (fun _ _ _ h => h) (Or.inl ⟨by rfl, ?y20_41z20⟩) (fun _ => trivial) ?r20_41z20
                case y20_41z20 =>
                  intro w hSw
                  go_simp
                  try with_reducible rfl
                try simp only [Act.put, List.setIfInBounds_toArray, List.set_cons_zero, List.set_cons_succ]
                refine wpAnyK_done (by kernel_rfl) ?_ _
                go_wp2
                go_meet
                exact ⟨_, rfl, rfl, HBE⟩
              exact AllReadyK.nil
            exact AllReadyK.nil
          exact AllReadyK.nil
        refine AllReadyK.cons (i := 8) rfl (fun K hK => ?_) ?_
        · refine step_insert_x rfl (.tmp 13) (.const (.string ⟨#[45, 88]⟩)) (.tmp 19) 55 rfl _ _ _ rfl rfl rfl (gk_put HP.out [45, 88] 3 (by decide) (by decide) (by decide) (by decide)) ?_
          rintro w4 ⟨hp4, ht4⟩
          have HP := Lib.hid hp4
          have HBE := Lib.hid (below_keeps HBE.out (keeps_turned ht4) (fun k e => by omega))
          clear hp4 ht4
          obtain ⟨D, rfl⟩ : ∃ D, D = w4 := ⟨_, rfl⟩
          refine hK.out _ _ (fun _ => trivial) ?_
          clear hK K
          try simp only [Act.put, List.setIfInBounds_toArray, List.set_cons_zero, List.set_cons_succ]
          refine wpAnyK_ready (rs := [4, 16]) (by kernel_rfl) (by simp) ?_
          refine AllReadyK.cons (i := 4) rfl (fun K hK => ?_) ?_
          · refine step_insert_x rfl (.tmp 13) (.const (.string ⟨#[45, 71]⟩)) (.tmp 16) 55 rfl _ _ _ rfl rfl rfl (gk_put HP.out [45, 71] 2 (by decide) (by decide) (by decide) (by decide)) ?_
            rintro w4 ⟨hp4, ht4⟩
            have HP := Lib.hid hp4
            have HBE := Lib.hid (below_keeps HBE.out (keeps_turned ht4) (fun k e => by omega))
            clear hp4 ht4
            obtain ⟨D, rfl⟩ : ∃ D, D = w4 := ⟨_, rfl⟩
            refine hK.out _ _ (fun _ => trivial) ?_
            clear hK K
            try simp only [Act.put, List.setIfInBounds_toArray, List.set_cons_zero, List.set_cons_succ]
            refine wpAnyK_ready (rs := [16]) (by kernel_rfl) (by simp) ?_
            refine AllReadyK.cons (i := 16) rfl (fun K hK => ?_) ?_
            · refine step_insert_x rfl (.tmp 13) (.const (.string ⟨#[45, 83]⟩)) (.tmp 25) 55 rfl _ _ _ rfl rfl rfl (gk_put HP.out [45, 83] 5 (by decide) (by decide) (by decide) (by decide)) ?_
              rintro w4 ⟨hp4, ht4⟩
              have HP := Lib.hid hp4
              have HBE := Lib.hid (below_keeps HBE.out (keeps_turned ht4) (fun k e => by omega))
              clear hp4 ht4
              obtain ⟨D, rfl⟩ : ∃ D, D = w4 := ⟨_, rfl⟩
              refine hK.out _ _ (fun _ => trivial) ?_
              clear hK K
              try simp only [Act.put, List.setIfInBounds_toArray, List.set_cons_zero, List.set_cons_succ]
              refine wpAnyK_take2 (i := 17) (some 26) (v := ?v17_42z20) rfl rfl (by kernel_rfl) (by kernel_rfl) (by kernel_rfl) (by kernel_rfl) (fun _ _ _ h => h) (Or.inl ⟨by rfl, ?y17_42z20⟩) (fun _ => trivial) ?r17_42z20
              case y17_42z20 =>
                intro w hSw
                go_simp
                try with_reducible rfl
              try simp only [Act.put, List.setIfInBounds_toArray, List.set_cons_zero, List.set_cons_succ]
              refine wpAnyK_ready (rs := [19]) (by kernel_rfl) (by simp) ?_
              refine AllReadyK.cons (i := 19) rfl (fun K hK => ?_) ?_
              · refine step_lookup_x rfl (.tmp 26) (.tmp 27) 55 rfl _ _ _ rfl rfl (gk_look HP.out o (by omega) (by decide)) ?_
                refine hK.out _ _ (fun _ => trivial) ?_
                clear hK K
                try simp only [Act.put, List.setIfInBounds_toArray, List.set_cons_zero, List.set_cons_succ]
                refine wpAnyK_take2 (i := 20) (some 9) (v := ?v20_43z20) rfl rfl (by kernel_rfl) (by kernel_rfl) (by kernel_rfl) (by kernel_rfl) (fun _ _ _ h => h) (Or.inl ⟨by rfl, ?y20_43z20⟩) (fun _ => trivial) ?r20_43z20
                case y20_43z20 =>
                  intro w hSw
                  go_simp
                  try with_reducible rfl
                try simp only [Act.put, List.setIfInBounds_toArray, List.set_cons_zero, List.set_cons_succ]
                refine wpAnyK_done (by kernel_rfl) ?_ _
                go_wp2
                go_meet
                exact ⟨_, rfl, rfl, HBE⟩
              exact AllReadyK.nil
            exact AllReadyK.nil
          refine AllReadyK.cons (i := 16) rfl (fun K hK => ?_) ?_
          · refine step_insert_x rfl (.tmp 13) (.const (.string ⟨#[45, 83]⟩)) (.tmp 25) 55 rfl _ _ _ rfl rfl rfl (gk_put HP.out [45, 83] 5 (by decide) (by decide) (by decide) (by decide)) ?_
            rintro w4 ⟨hp4, ht4⟩
            have HP := Lib.hid hp4
            have HBE := Lib.hid (below_keeps HBE.out (keeps_turned ht4) (fun k e => by omega))
            clear hp4 ht4
            obtain ⟨D, rfl⟩ : ∃ D, D = w4 := ⟨_, rfl⟩
            refine hK.out _ _ (fun _ => trivial) ?_
            clear hK K
            try simp only [Act.put, List.setIfInBounds_toArray, List.set_cons_zero, List.set_cons_succ]
            refine wpAnyK_ready (rs := [4]) (by kernel_rfl) (by simp) ?_
            refine AllReadyK.cons (i := 4) rfl (fun K hK => ?_) ?_
            · refine step_insert_x rfl (.tmp 13) (.const (.string ⟨#[45, 71]⟩)) (.tmp 16) 55 rfl _ _ _ rfl rfl rfl (gk_put HP.out [45, 71] 2 (by decide) (by decide) (by decide) (by decide)) ?_
              rintro w4 ⟨hp4, ht4⟩
              have HP := Lib.hid hp4
              have HBE := Lib.hid (below_keeps HBE.out (keeps_turned ht4) (fun k e => by omega))
              clear hp4 ht4
              obtain ⟨D, rfl⟩ : ∃ D, D = w4 := ⟨_, rfl⟩
              refine hK.out _ _ (fun _ => trivial) ?_
              clear hK K
              try simp only [Act.put, List.setIfInBounds_toArray, List.set_cons_zero, List.set_cons_succ]
              refine wpAnyK_take2 (i := 17) (some 26) (v := ?v17_44z20) rfl rfl (by kernel_rfl) (by kernel_rfl) (by kernel_rfl) (by kernel_rfl) (fun _ _ _ h => h) (Or.inl ⟨by rfl, ?y17_44z20⟩) (fun _ => trivial) ?r17_44z20
              case y17_44z20 =>
                intro w hSw
                go_simp
                try with_reducible rfl
              try simp only [Act.put, List.setIfInBounds_toArray, List.set_cons_zero, List.set_cons_succ]
              refine wpAnyK_ready (rs := [19]) (by kernel_rfl) (by simp) ?_
              refine AllReadyK.cons (i := 19) rfl (fun K hK => ?_) ?_
              · refine step_lookup_x rfl (.tmp 26) (.tmp 27) 55 rfl _ _ _ rfl rfl (gk_look HP.out o (by omega) (by decide)) ?_
                refine hK.out _ _ (fun _ => trivial) ?_
                clear hK K
                try simp only [Act.put, List.setIfInBounds_toArray, List.set_cons_zero, List.set_cons_succ]
                refine wpAnyK_take2 (i := 20) (some 9) (v := ?v20_45z20) rfl rfl (by kernel_rfl) (by kernel_rfl) (by kernel_rfl) (by kernel_rfl) (fun _ _ _ h => h) (Or.inl ⟨by rfl, ?y20_45z20⟩) (fun _ => trivial) ?r20_45z20
                case y20_45z20 =>
                  intro w hSw
                  go_simp
                  try with_reducible rfl
                try simp only [Act.put, List.setIfInBounds_toArray, List.set_cons_zero, List.set_cons_succ]
                refine wpAnyK_done (by kernel_rfl) ?_ _
                go_wp2
                go_meet
                exact ⟨_, rfl, rfl, HBE⟩
              exact AllReadyK.nil
            exact AllReadyK.nil
          exact AllReadyK.nil
        refine AllReadyK.cons (i := 16) rfl (fun K hK => ?_) ?_
        · refine step_insert_x rfl (.tmp 13) (.const (.string ⟨#[45, 83]⟩)) (.tmp 25) 55 rfl _ _ _ rfl rfl rfl (gk_put HP.out [45, 83] 5 (by decide) (by decide) (by decide) (by decide)) ?_
          rintro w4 ⟨hp4, ht4⟩
          have HP := Lib.hid hp4
          have HBE := Lib.hid (below_keeps HBE.out (keeps_turned ht4) (fun k e => by omega))
          clear hp4 ht4
          obtain ⟨D, rfl⟩ : ∃ D, D = w4 := ⟨_, rfl⟩
          refine hK.out _ _ (fun _ => trivial) ?_
          clear hK K
          try simp only [Act.put, List.setIfInBounds_toArray, List.set_cons_zero, List.set_cons_succ]
          refine wpAnyK_ready (rs := [4, 8]) (by kernel_rfl) (by simp) ?_
          refine AllReadyK.cons (i := 4) rfl (fun K hK => ?_) ?_
          · refine step_insert_x rfl (.tmp 13) (.const (.string ⟨#[45, 71]⟩)) (.tmp 16) 55 rfl _ _ _ rfl rfl rfl (gk_put HP.out [45, 71] 2 (by decide) (by decide) (by decide) (by decide)) ?_
            rintro w4 ⟨hp4, ht4⟩
            have HP := Lib.hid hp4
            have HBE := Lib.hid (below_keeps HBE.out (keeps_turned ht4) (fun k e => by omega))
            clear hp4 ht4
            obtain ⟨D, rfl⟩ : ∃ D, D = w4 := ⟨_, rfl⟩
            refine hK.out _ _ (fun _ => trivial) ?_
            clear hK K
            try simp only [Act.put, List.setIfInBounds_toArray, List.set_cons_zero, List.set_cons_succ]
            refine wpAnyK_ready (rs := [8]) (by kernel_rfl) (by simp) ?_
            refine AllReadyK.cons (i := 8) rfl (fun K hK => ?_) ?_
            · refine step_insert_x rfl (.tmp 13) (.const (.string ⟨#[45, 88]⟩)) (.tmp 19) 55 rfl _ _ _ rfl rfl rfl (gk_put HP.out [45, 88] 3 (by decide) (by decide) (by decide) (by decide)) ?_
              rintro w4 ⟨hp4, ht4⟩
              have HP := Lib.hid hp4
              have HBE := Lib.hid (below_keeps HBE.out (keeps_turned ht4) (fun k e => by omega))
              clear hp4 ht4
              obtain ⟨D, rfl⟩ : ∃ D, D = w4 := ⟨_, rfl⟩
              refine hK.out _ _ (fun _ => trivial) ?_
              clear hK K
              try simp only [Act.put, List.setIfInBounds_toArray, List.set_cons_zero, List.set_cons_succ]
              refine wpAnyK_take2 (i := 17) (some 26) (v := ?v17_46z20) rfl rfl (by kernel_rfl) (by kernel_rfl) (by kernel_rfl) (by kernel_rfl) (fun _ _ _ h => h) (Or.inl ⟨by rfl, ?y17_46z20⟩) (fun _ => trivial) ?r17_46z20
              case y17_46z20 =>
                intro w hSw
                go_simp
                try with_reducible rfl
              try simp only [Act.put, List.setIfInBounds_toArray, List.set_cons_zero, List.set_cons_succ]
              refine wpAnyK_ready (rs := [19]) (by kernel_rfl) (by simp) ?_
              refine AllReadyK.cons (i := 19) rfl (fun K hK => ?_) ?_
              · refine step_lookup_x rfl (.tmp 26) (.tmp 27) 55 rfl _ _ _ rfl rfl (gk_look HP.out o (by omega) (by decide)) ?_
                refine hK.out _ _ (fun _ => trivial) ?_
                clear hK K
                try simp only [Act.put, List.setIfInBounds_toArray, List.set_cons_zero, List.set_cons_succ]
                refine wpAnyK_take2 (i := 20) (some 9) (v := ?v20_47z20) rfl rfl (by kernel_rfl) (by kernel_rfl) (by kernel_rfl) (by kernel_rfl) (fun _ _ _ h => h) (Or.inl ⟨by rfl, ?y20_47z20⟩) (fun _ => trivial) ?r20_47z20
                case y20_47z20 =>
                  intro w hSw
                  go_simp
                  try with_reducible rfl
                try simp only [Act.put, List.setIfInBounds_toArray, List.set_cons_zero, List.set_cons_succ]
                refine wpAnyK_done (by kernel_rfl) ?_ _
                go_wp2
                go_meet
                exact ⟨_, rfl, rfl, HBE⟩
              exact AllReadyK.nil
            exact AllReadyK.nil
          refine AllReadyK.cons (i := 8) rfl (fun K hK => ?_) ?_
          · refine step_insert_x rfl (.tmp 13) (.const (.string ⟨#[45, 88]⟩)) (.tmp 19) 55 rfl _ _ _ rfl rfl rfl (gk_put HP.out [45, 88] 3 (by decide) (by decide) (by decide) (by decide)) ?_
            rintro w4 ⟨hp4, ht4⟩
            have HP := Lib.hid hp4
            have HBE := Lib.hid (below_keeps HBE.out (keeps_turned ht4) (fun k e => by omega))
            clear hp4 ht4
            obtain ⟨D, rfl⟩ : ∃ D, D = w4 := ⟨_, rfl⟩
            refine hK.out _ _ (fun _ => trivial) ?_
            clear hK K
            try simp only [Act.put, List.setIfInBounds_toArray, List.set_cons_zero, List.set_cons_succ]
            refine wpAnyK_ready (rs := [4]) (by kernel_rfl) (by simp) ?_
            refine AllReadyK.cons (i := 4) rfl (fun K hK => ?_) ?_
            · refine step_insert_x rfl (.tmp 13) (.const (.string ⟨#[45, 71]⟩)) (.tmp 16) 55 rfl _ _ _ rfl rfl rfl (gk_put HP.out [45, 71] 2 (by decide) (by decide) (by decide) (by decide)) ?_
              rintro w4 ⟨hp4, ht4⟩
              have HP := Lib.hid hp4
              have HBE := Lib.hid (below_keeps HBE.out (keeps_turned ht4) (fun k e => by omega))
              clear hp4 ht4
              obtain ⟨D, rfl⟩ : ∃ D, D = w4 := ⟨_, rfl⟩
              refine hK.out _ _ (fun _ => trivial) ?_
              clear hK K
              try simp only [Act.put, List.setIfInBounds_toArray, List.set_cons_zero, List.set_cons_succ]
              refine wpAnyK_take2 (i := 17) (some 26) (v := ?v17_48z20) rfl rfl (by kernel_rfl) (by kernel_rfl) (by kernel_rfl) (by kernel_rfl) (fun _ _ _ h => h) (Or.inl ⟨by rfl, ?y17_48z20⟩) (fun _ => trivial) ?r17_48z20
              case y17_48z20 =>
                intro w hSw
                go_simp
                try with_reducible rfl
              try simp only [Act.put, List.setIfInBounds_toArray, List.set_cons_zero, List.set_cons_succ]
              refine wpAnyK_ready (rs := [19]) (by kernel_rfl) (by simp) ?_
              refine AllReadyK.cons (i := 19) rfl (fun K hK => ?_) ?_
              · refine step_lookup_x rfl (.tmp 26) (.tmp 27) 55 rfl _ _ _ rfl rfl (gk_look HP.out o (by omega) (by decide)) ?_
                refine hK.out _ _ (fun _ => trivial) ?_
                clear hK K
                try simp only [Act.put, List.setIfInBounds_toArray, List.set_cons_zero, List.set_cons_succ]
                refine wpAnyK_take2 (i := 20) (some 9) (v := ?v20_49z20) rfl rfl (by kernel_rfl) (by kernel_rfl) (by kernel_rfl) (by kernel_rfl) (fun _ _ _ h => h) (Or.inl ⟨by rfl, ?y20_49z20⟩) (fun _ => trivial) ?r20_49z20
                case y20_49z20 =>
                  intro w hSw
                  go_simp
                  try with_reducible rfl
                try simp only [Act.put, List.setIfInBounds_toArray, List.set_cons_zero, List.set_cons_succ]
                refine wpAnyK_done (by kernel_rfl) ?_ _
                go_wp2
                go_meet
                exact ⟨_, rfl, rfl, HBE⟩
              exact AllReadyK.nil
            exact AllReadyK.nil
          exact AllReadyK.nil
        exact AllReadyK.nil
      refine AllReadyK.cons (i := 16) rfl (fun K hK => ?_) ?_
      · refine step_insert_x rfl (.tmp 13) (.const (.string ⟨#[45, 83]⟩)) (.tmp 25) 55 rfl _ _ _ rfl rfl rfl (gk_put HP.out [45, 83] 5 (by decide) (by decide) (by decide) (by decide)) ?_
        rintro w4 ⟨hp4, ht4⟩
        have HP := Lib.hid hp4
        have HBE := Lib.hid (below_keeps HBE.out (keeps_turned ht4) (fun k e => by omega))
        clear hp4 ht4
        obtain ⟨D, rfl⟩ : ∃ D, D = w4 := ⟨_, rfl⟩
        refine hK.out _ _ (fun _ => trivial) ?_
        clear hK K
        try simp only [Act.put, List.setIfInBounds_toArray, List.set_cons_zero, List.set_cons_succ]
        refine wpAnyK_ready (rs := [4, 8, 12]) (by kernel_rfl) (by simp) ?_
        refine AllReadyK.cons (i := 4) rfl (fun K hK => ?_) ?_
        · refine step_insert_x rfl (.tmp 13) (.const (.string ⟨#[45, 71]⟩)) (.tmp 16) 55 rfl _ _ _ rfl rfl rfl (gk_put HP.out [45, 71] 2 (by decide) (by decide) (by decide) (by decide)) ?_
          rintro w4 ⟨hp4, ht4⟩
          have HP := Lib.hid hp4
          have HBE := Lib.hid (below_keeps HBE.out (keeps_turned ht4) (fun k e => by omega))
          clear hp4 ht4
          obtain ⟨D, rfl⟩ : ∃ D, D = w4 := ⟨_, rfl⟩
          refine hK.out _ _ (fun _ => trivial) ?_
          clear hK K
          try simp only [Act.put, List.setIfInBounds_toArray, List.set_cons_zero, List.set_cons_succ]
          refine wpAnyK_ready (rs := [8, 12]) (by kernel_rfl) (by simp) ?_
          refine AllReadyK.cons (i := 8) rfl (fun K hK => ?_) ?_
          · refine step_insert_x rfl (.tmp 13) (.const (.string ⟨#[45, 88]⟩)) (.tmp 19) 55 rfl _ _ _ rfl rfl rfl (gk_put HP.out [45, 88] 3 (by decide) (by decide) (by decide) (by decide)) ?_
            rintro w4 ⟨hp4, ht4⟩
            have HP := Lib.hid hp4
            have HBE := Lib.hid (below_keeps HBE.out (keeps_turned ht4) (fun k e => by omega))
            clear hp4 ht4
            obtain ⟨D, rfl⟩ : ∃ D, D = w4 := ⟨_, rfl⟩
            refine hK.out _ _ (fun _ => trivial) ?_
            clear hK K
            try simp only [Act.put, List.setIfInBounds_toArray, List.set_cons_zero, List.set_cons_succ]
            refine wpAnyK_ready (rs := [12]) (by kernel_rfl) (by simp) ?_
            refine AllReadyK.cons (i := 12) rfl (fun K hK => ?_) ?_
            · refine step_insert_x rfl (.tmp 13) (.const (.string ⟨#[45, 80]⟩)) (.tmp 22) 55 rfl _ _ _ rfl rfl rfl (gk_put HP.out [45, 80] 4 (by decide) (by decide) (by decide) (by decide)) ?_
              rintro w4 ⟨hp4, ht4⟩
              have HP := Lib.hid hp4
              have HBE := Lib.hid (below_keeps HBE.out (keeps_turned ht4) (fun k e => by omega))
              clear hp4 ht4
              obtain ⟨D, rfl⟩ : ∃ D, D = w4 := ⟨_, rfl⟩
              refine hK.out _ _ (fun _ => trivial) ?_
              clear hK K
              try simp only [Act.put, List.setIfInBounds_toArray, List.set_cons_zero, List.set_cons_succ]
              refine wpAnyK_take2 (i := 17) (some 26) (v := ?v17_50z20) rfl rfl (by kernel_rfl) (by kernel_rfl) (by kernel_rfl) (by kernel_rfl) (fun _ _ _ h => h) (Or.inl ⟨by rfl, ?y17_50z20⟩) (fun _ => trivial) ?r17_50z20
              case y17_50z20 =>
                intro w hSw
                go_simp
                try with_reducible rfl
              try simp only [Act.put, List.setIfInBounds_toArray, List.set_cons_zero, List.set_cons_succ]
              refine wpAnyK_ready (rs := [19]) (by kernel_rfl) (by simp) ?_
              refine AllReadyK.cons (i := 19) rfl (fun K hK => ?_) ?_
              · refine step_lookup_x rfl (.tmp 26) (.tmp 27) 55 rfl _ _ _ rfl rfl (gk_look HP.out o (by omega) (by decide)) ?_
                refine hK.out _ _ (fun _ => trivial) ?_
                clear hK K
                try simp only [Act.put, List.setIfInBounds_toArray, List.set_cons_zero, List.set_cons_succ]
                refine wpAnyK_take2 (i := 20) (some 9) (v := ?v20_51z20) rfl rfl (by kernel_rfl) (by kernel_rfl) (by kernel_rfl) (by kernel_rfl) (fun _ _ _ h => h) (Or.inl ⟨by rfl, ?y20_51z20⟩) (fun _ => trivial) ?r20_51z20
                case y20_51z20 =>
                  intro w hSw
                  go_simp
                  try with_reducible rfl
                try simp only [Act.put, List.setIfInBounds_toArray, List.set_cons_zero, List.set_cons_succ]
                refine wpAnyK_done (by kernel_rfl) ?_ _
                go_wp2
                go_meet
                exact ⟨_, rfl, rfl, HBE⟩
              exact AllReadyK.nil
            exact AllReadyK.nil
          refine AllReadyK.cons (i := 12) rfl (fun K hK => ?_) ?_
          · refine step_insert_x rfl (.tmp 13) (.const (.string ⟨#[45, 80]⟩)) (.tmp 22) 55 rfl _ _ _ rfl rfl rfl (gk_put HP.out [45, 80] 4 (by decide) (by decide) (by decide) (by decide)) ?_
            rintro w4 ⟨hp4, ht4⟩
            have HP := Lib.hid hp4
            have HBE := Lib.hid (below_keeps HBE.out (keeps_turned ht4) (fun k e => by omega))
            clear hp4 ht4
            obtain ⟨D, rfl⟩ : ∃ D, D = w4 := ⟨_, rfl⟩
            refine hK.out _ _ (fun _ => trivial) ?_
            clear hK K
            try simp only [Act.put, List.setIfInBounds_toArray, List.set_cons_zero, List.set_cons_succ]
            refine wpAnyK_ready (rs := [8]) (by kernel_rfl) (by simp) ?_
            refine AllReadyK.cons (i := 8) rfl (fun K hK => ?_) ?_
            · refine step_insert_x rfl (.tmp 13) (.const (.string ⟨#[45, 88]⟩)) (.tmp 19) 55 rfl _ _ _ rfl rfl rfl (gk_put HP.out [45, 88] 3 (by decide) (by decide) (by decide) (by decide)) ?_
              rintro w4 ⟨hp4, ht4⟩
              have HP := Lib.hid hp4
              have HBE := Lib.hid (below_keeps HBE.out (keeps_turned ht4) (fun k e => by omega))
              clear hp4 ht4
              obtain ⟨D, rfl⟩ : ∃ D, D = w4 := ⟨_, rfl⟩
              refine hK.out _ _ (fun _ => trivial) ?_
              clear hK K
              try simp only [Act.put, List.setIfInBounds_toArray, List.set_cons_zero, List.set_cons_succ]
              refine wpAnyK_take2 (i := 17) (some 26) (v := ?v17_52z20) rfl rfl (by kernel_rfl) (by kernel_rfl) (by kernel_rfl) (by kernel_rfl) (fun _ _ _ h => h) (Or.inl ⟨by rfl, ?y17_52z20⟩) (fun _ => trivial) ?r17_52z20
              case y17_52z20 =>
                intro w hSw
                go_simp
                try with_reducible rfl
              try simp only [Act.put, List.setIfInBounds_toArray, List.set_cons_zero, List.set_cons_succ]
              refine wpAnyK_ready (rs := [19]) (by kernel_rfl) (by simp) ?_
              refine AllReadyK.cons (i := 19) rfl (fun K hK => ?_) ?_
              · refine step_lookup_x rfl (.tmp 26) (.tmp 27) 55 rfl _ _ _ rfl rfl (gk_look HP.out o (by omega) (by decide)) ?_
                refine hK.out _ _ (fun _ => trivial) ?_
                clear hK K
                try simp only [Act.put, List.setIfInBounds_toArray, List.set_cons_zero, List.set_cons_succ]
                refine wpAnyK_take2 (i := 20) (some 9) (v := ?v20_53z20) rfl rfl (by kernel_rfl) (by kernel_rfl) (by kernel_rfl) (by kernel_rfl) (fun _ _ _ h => h) (Or.inl ⟨by rfl, ?y20_53z20⟩) (fun _ => trivial) ?r20_53z20
                case y20_53z20 =>
                  intro w hSw
                  go_simp
                  try with_reducible rfl
                try simp only [Act.put, List.setIfInBounds_toArray, List.set_cons_zero, List.set_cons_succ]
                refine wpAnyK_done (by kernel_rfl) ?_ _
                go_wp2
                go_meet
                exact ⟨_, rfl, rfl, HBE⟩
              exact AllReadyK.nil
            exact AllReadyK.nil
          exact AllReadyK.nil
        refine AllReadyK.cons (i := 8) rfl (fun K hK => ?_) ?_
        · refine step_insert_x rfl (.tmp 13) (.const (.string ⟨#[45, 88]⟩)) (.tmp 19) 55 rfl _ _ _ rfl rfl rfl (gk_put HP.out [45, 88] 3 (by decide) (by decide) (by decide) (by decide)) ?_
          rintro w4 ⟨hp4, ht4⟩
          have HP := Lib.hid hp4
          have HBE := Lib.hid (below_keeps HBE.out (keeps_turned ht4) (fun k e => by omega))
          clear hp4 ht4
          obtain ⟨D, rfl⟩ : ∃ D, D = w4 := ⟨_, rfl⟩
          refine hK.out _ _ (fun _ => trivial) ?_
          clear hK K
          try simp only [Act.put, List.setIfInBounds_toArray, List.set_cons_zero, List.set_cons_succ]
          refine wpAnyK_ready (rs := [4, 12]) (by kernel_rfl) (by simp) ?_
          refine AllReadyK.cons (i := 4) rfl (fun K hK => ?_) ?_
          · refine step_insert_x rfl (.tmp 13) (.const (.string ⟨#[45, 71]⟩)) (.tmp 16) 55 rfl _ _ _ rfl rfl rfl (gk_put HP.out [45, 71] 2 (by decide) (by decide) (by decide) (by decide)) ?_
            rintro w4 ⟨hp4, ht4⟩
            have HP := Lib.hid hp4
            have HBE := Lib.hid (below_keeps HBE.out (keeps_turned ht4) (fun k e => by omega))
            clear hp4 ht4
            obtain ⟨D, rfl⟩ : ∃ D, D = w4 := ⟨_, rfl⟩
            refine hK.out _ _ (fun _ => trivial) ?_
            clear hK K
            try simp only [Act.put, List.setIfInBounds_toArray, List.set_cons_zero, List.set_cons_succ]
            refine wpAnyK_ready (rs := [12]) (by kernel_rfl) (by simp) ?_
            refine AllReadyK.cons (i := 12) rfl (fun K hK => ?_) ?_
            · refine step_insert_x rfl (.tmp 13) (.const (.string ⟨#[45, 80]⟩)) (.tmp 22) 55 rfl _ _ _ rfl rfl rfl (gk_put HP.out [45, 80] 4 (by decide) (by decide) (by decide) (by decide)) ?_
              rintro w4 ⟨hp4, ht4⟩
              have HP := Lib.hid hp4
              have HBE := Lib.hid (below_keeps HBE.out (keeps_turned ht4) (fun k e => by omega))
              clear hp4 ht4
              obtain ⟨D, rfl⟩ : ∃ D, D = w4 := ⟨_, rfl⟩
              refine hK.out _ _ (fun _ => trivial) ?_
              clear hK K
              try simp only [Act.put, List.setIfInBounds_toArray, List.set_cons_zero, List.set_cons_succ]
              refine wpAnyK_take2 (i := 17) (some 26) (v := ?v17_54z20) rfl rfl (by kernel_rfl) (by kernel_rfl) (by kernel_rfl) (by kernel_rfl) (fun _ _ _ h => h) (Or.inl ⟨by rfl, ?y17_54z20⟩) (fun _ => trivial) ?r17_54z20
              case y17_54z20 =>
                intro w hSw
                go_simp
                try with_reducible rfl
              try simp only [Act.put, List.setIfInBounds_toArray, List.set_cons_zero, List.set_cons_succ]
              refine wpAnyK_ready (rs := [19]) (by kernel_rfl) (by simp) ?_
              refine AllReadyK.cons (i := 19) rfl (fun K hK => ?_) ?_
              · refine step_lookup_x rfl (.tmp 26) (.tmp 27) 55 rfl _ _ _ rfl rfl (gk_look HP.out o (by omega) (by decide)) ?_
                refine hK.out _ _ (fun _ => trivial) ?_
                clear hK K
                try simp only [Act.put, List.setIfInBounds_toArray, List.set_cons_zero, List.set_cons_succ]
                refine wpAnyK_take2 (i := 20) (some 9) (v := ?v20_55z20) rfl rfl (by kernel_rfl) (by kernel_rfl) (by kernel_rfl) (by kernel_rfl) (fun _ _ _ h => h) (Or.inl ⟨by rfl, ?y20_55z20⟩) (fun _ => trivial) ?r20_55z20
                case y20_55z20 =>
                  intro w hSw
                  go_simp
                  try with_reducible rfl
                try simp only [Act.put, List.setIfInBounds_toArray, List.set_cons_zero, List.set_cons_succ]
                refine wpAnyK_done (by kernel_rfl) ?_ _
                go_wp2
                go_meet
                exact ⟨_, rfl, rfl, HBE⟩
              exact AllReadyK.nil
            exact AllReadyK.nil
          refine AllReadyK.cons (i := 12) rfl (fun K hK => ?_) ?_
          · refine step_insert_x rfl (.tmp 13) (.const (.string ⟨#[45, 80]⟩)) (.tmp 22) 55 rfl _ _ _ rfl rfl rfl (gk_put HP.out [45, 80] 4 (by decide) (by decide) (by decide) (by decide)) ?_
            rintro w4 ⟨hp4, ht4⟩
            have HP := Lib.hid hp4
            have HBE := Lib.hid (below_keeps HBE.out (keeps_turned ht4) (fun k e => by omega))
            clear hp4 ht4
            obtain ⟨D, rfl⟩ : ∃ D, D = w4 := ⟨_, rfl⟩
            refine hK.out _ _ (fun _ => trivial) ?_
            clear hK K
            try simp only [Act.put, List.setIfInBounds_toArray, List.set_cons_zero, List.set_cons_succ]
            refine wpAnyK_ready (rs := [4]) (by kernel_rfl) (by simp) ?_
            refine AllReadyK.cons (i := 4) rfl (fun K hK => ?_) ?_
            · refine step_insert_x rfl (.tmp 13) (.const (.string ⟨#[45, 71]⟩)) (.tmp 16) 55 rfl _ _ _ rfl rfl rfl (gk_put HP.out [45, 71] 2 (by decide) (by decide) (by decide) (by decide)) ?_
              rintro w4 ⟨hp4, ht4⟩
              have HP := Lib.hid hp4
              have HBE := Lib.hid (below_keeps HBE.out (keeps_turned ht4) (fun k e => by omega))
              clear hp4 ht4
              obtain ⟨D, rfl⟩ : ∃ D, D = w4 := ⟨_, rfl⟩
              refine hK.out _ _ (fun _ => trivial) ?_
              clear hK K
              try simp only [Act.put, List.setIfInBounds_toArray, List.set_cons_zero, List.set_cons_succ]
              refine wpAnyK_take2 (i := 17) (some 26) (v := ?v17_56z20) rfl rfl (by kernel_rfl) (by kernel_rfl) (by kernel_rfl) (by kernel_rfl) (fun _ _ _ h => h) (Or.inl ⟨by rfl, ?y17_56z20⟩) (fun _ => trivial) ?r17_56z20
              case y17_56z20 =>
                intro w hSw
                go_simp
                try with_reducible rfl
              try simp only [Act.put, List.setIfInBounds_toArray, List.set_cons_zero, List.set_cons_succ]
              refine wpAnyK_ready (rs := [19]) (by kernel_rfl) (by simp) ?_
              refine AllReadyK.cons (i := 19) rfl (fun K hK => ?_) ?_
              · refine step_lookup_x rfl (.tmp 26) (.tmp 27) 55 rfl _ _ _ rfl rfl (gk_look HP.out o (by omega) (by decide)) ?_
                refine hK.out _ _ (fun _ => trivial) ?_
                clear hK K
                try simp only [Act.put, List.setIfInBounds_toArray, List.set_cons_zero, List.set_cons_succ]
                refine wpAnyK_take2 (i := 20) (some 9) (v := ?v20_57z20) rfl rfl (by kernel_rfl) (by kernel_rfl) (by kernel_rfl) (by kernel_rfl) (fun _ _ _ h => h) (Or.inl ⟨by rfl, ?y20_57z20⟩) (fun _ => trivial) ?r20_57z20
                case y20_57z20 =>
                  intro w hSw
                  go_simp
                  try with_reducible rfl
                try simp only [Act.put, List.setIfInBounds_toArray, List.set_cons_zero, List.set_cons_succ]
                refine wpAnyK_done (by kernel_rfl) ?_ _
                go_wp2
                go_meet
                exact ⟨_, rfl, rfl, HBE⟩
              exact AllReadyK.nil
            exact AllReadyK.nil
          exact AllReadyK.nil
        refine AllReadyK.cons (i := 12) rfl (fun K hK => ?_) ?_
        · refine step_insert_x rfl (.tmp 13) (.const (.string ⟨#[45, 80]⟩)) (.tmp 22) 55 rfl _ _ _ rfl rfl rfl (gk_put HP.out [45, 80] 4 (by decide) (by decide) (by decide) (by decide)) ?_
          rintro w4 ⟨hp4, ht4⟩
          have HP := Lib.hid hp4
          have HBE := Lib.hid (below_keeps HBE.out (keeps_turned ht4) (fun k e => by omega))
          clear hp4 ht4
          obtain ⟨D, rfl⟩ : ∃ D, D = w4 := ⟨_, rfl⟩
          refine hK.out _ _ (fun _ => trivial) ?_
          clear hK K
          try simp only [Act.put, List.setIfInBounds_toArray, List.set_cons_zero, List.set_cons_succ]
          refine wpAnyK_ready (rs := [4, 8]) (by kernel_rfl) (by simp) ?_
          refine AllReadyK.cons (i := 4) rfl (fun K hK => ?_) ?_
          · refine step_insert_x rfl (.tmp 13) (.const (.string ⟨#[45, 71]⟩)) (.tmp 16) 55 rfl _ _ _ rfl rfl rfl (gk_put HP.out [45, 71] 2 (by decide) (by decide) (by decide) (by decide)) ?_
            rintro w4 ⟨hp4, ht4⟩
            have HP := Lib.hid hp4
            have HBE := Lib.hid (below_keeps HBE.out (keeps_turned ht4) (fun k e => by omega))
            clear hp4 ht4
            obtain ⟨D, rfl⟩ : ∃ D, D = w4 := ⟨_, rfl⟩
            refine hK.out _ _ (fun _ => trivial) ?_
            clear hK K
            try simp only [Act.put, List.setIfInBounds_toArray, List.set_cons_zero, List.set_cons_succ]
            refine wpAnyK_ready (rs := [8]) (by kernel_rfl) (by simp) ?_
            refine AllReadyK.cons (i := 8) rfl (fun K hK => ?_) ?_
            · refine step_insert_x rfl (.tmp 13) (.const (.string ⟨#[45, 88]⟩)) (.tmp 19) 55 rfl _ _ _ rfl rfl rfl (gk_put HP.out [45, 88] 3 (by decide) (by decide) (by decide) (by decide)) ?_
              rintro w4 ⟨hp4, ht4⟩
              have HP := Lib.hid hp4
              have HBE := Lib.hid (below_keeps HBE.out (keeps_turned ht4) (fun k e => by omega))
              clear hp4 ht4
              obtain ⟨D, rfl⟩ : ∃ D, D = w4 := ⟨_, rfl⟩
              refine hK.out _ _ (fun _ => trivial) ?_
              clear hK K
              try simp only [Act.put, List.setIfInBounds_toArray, List.set_cons_zero, List.set_cons_succ]
              refine wpAnyK_take2 (i := 17) (some 26) (v := ?v17_58z20) rfl rfl (by kernel_rfl) (by kernel_rfl) (by kernel_rfl) (by kernel_rfl) (fun _ _ _ h => h) (Or.inl ⟨by rfl, ?y17_58z20⟩) (fun _ => trivial) ?r17_58z20
              case y17_58z20 =>
                intro w hSw
                go_simp
                try with_reducible rfl
              try simp only [Act.put, List.setIfInBounds_toArray, List.set_cons_zero, List.set_cons_succ]
              refine wpAnyK_ready (rs := [19]) (by kernel_rfl) (by simp) ?_
              refine AllReadyK.cons (i := 19) rfl (fun K hK => ?_) ?_
              · refine step_lookup_x rfl (.tmp 26) (.tmp 27) 55 rfl _ _ _ rfl rfl (gk_look HP.out o (by omega) (by decide)) ?_
                refine hK.out _ _ (fun _ => trivial) ?_
                clear hK K
                try simp only [Act.put, List.setIfInBounds_toArray, List.set_cons_zero, List.set_cons_succ]
                refine wpAnyK_take2 (i := 20) (some 9) (v := ?v20_59z20) rfl rfl (by kernel_rfl) (by kernel_rfl) (by kernel_rfl) (by kernel_rfl) (fun _ _ _ h => h) (Or.inl ⟨by rfl, ?y20_59z20⟩) (fun _ => trivial) ?r20_59z20
                case y20_59z20 =>
                  intro w hSw
                  go_simp
                  try with_reducible rfl
                try simp only [Act.put, List.setIfInBounds_toArray, List.set_cons_zero, List.set_cons_succ]
                refine wpAnyK_done (by kernel_rfl) ?_ _
                go_wp2
                go_meet
                exact ⟨_, rfl, rfl, HBE⟩
              exact AllReadyK.nil
            exact AllReadyK.nil
          refine AllReadyK.cons (i := 8) rfl (fun K hK => ?_) ?_
          · refine step_insert_x rfl (.tmp 13) (.const (.string ⟨#[45, 88]⟩)) (.tmp 19) 55 rfl _ _ _ rfl rfl rfl (gk_put HP.out [45, 88] 3 (by decide) (by decide) (by decide) (by decide)) ?_
            rintro w4 ⟨hp4, ht4⟩
            have HP := Lib.hid hp4
            have HBE := Lib.hid (below_keeps HBE.out (keeps_turned ht4) (fun k e => by omega))
            clear hp4 ht4
            obtain ⟨D, rfl⟩ : ∃ D, D = w4 := ⟨_, rfl⟩
            refine hK.out _ _ (fun _ => trivial) ?_
            clear hK K
            try simp only [Act.put, List.setIfInBounds_toArray, List.set_cons_zero, List.set_cons_succ]
            refine wpAnyK_ready (rs := [4]) (by kernel_rfl) (by simp) ?_
            refine AllReadyK.cons (i := 4) rfl (fun K hK => ?_) ?_
            · refine step_insert_x rfl (.tmp 13) (.const (.string ⟨#[45, 71]⟩)) (.tmp 16) 55 rfl _ _ _ rfl rfl rfl (gk_put HP.out [45, 71] 2 (by decide) (by decide) (by decide) (by decide)) ?_
              rintro w4 ⟨hp4, ht4⟩
              have HP := Lib.hid hp4
              have HBE := Lib.hid (below_keeps HBE.out (keeps_turned ht4) (fun k e => by omega))
              clear hp4 ht4
              obtain ⟨D, rfl⟩ : ∃ D, D = w4 := ⟨_, rfl⟩
              refine hK.out _ _ (fun _ => trivial) ?_
              clear hK K
              try simp only [Act.put, List.setIfInBounds_toArray, List.set_cons_zero, List.set_cons_succ]
              refine wpAnyK_take2 (i := 17) (some 26) (v := ?v17_60z20) rfl rfl (by kernel_rfl) (by kernel_rfl) (by kernel_rfl) (by kernel_rfl) (fun _ _ _ h => h) (Or.inl ⟨by rfl, ?y17_60z20⟩) (fun _ => trivial) ?r17_60z20
              case y17_60z20 =>
                intro w hSw
                go_simp
                try with_reducible rfl
              try simp only [Act.put, List.setIfInBounds_toArray, List.set_cons_zero, List.set_cons_succ]
              refine wpAnyK_ready (rs := [19]) (by kernel_rfl) (by simp) ?_
              refine AllReadyK.cons (i := 19) rfl (fun K hK => ?_) ?_
              · refine step_lookup_x rfl (.tmp 26) (.tmp 27) 55 rfl _ _ _ rfl rfl (gk_look HP.out o (by omega) (by decide)) ?_
                refine hK.out _ _ (fun _ => trivial) ?_
                clear hK K
                try simp only [Act.put, List.setIfInBounds_toArray, List.set_cons_zero, List.set_cons_succ]
                refine wpAnyK_take2 (i := 20) (some 9) (v := ?v20_61z20) rfl rfl (by kernel_rfl) (by kernel_rfl) (by kernel_rfl) (by kernel_rfl) (fun _ _ _ h => h) (Or.inl ⟨by rfl, ?y20_61z20⟩) (fun _ => trivial) ?r20_61z20
                case y20_61z20 =>
                  intro w hSw
                  go_simp
                  try with_reducible rfl
                try simp only [Act.put, List.setIfInBounds_toArray, List.set_cons_zero, List.set_cons_succ]
                refine wpAnyK_done (by kernel_rfl) ?_ _
                go_wp2
                go_meet
                exact ⟨_, rfl, rfl, HBE⟩
              exact AllReadyK.nil
            exact AllReadyK.nil
          exact AllReadyK.nil
        exact AllReadyK.nil
      exact AllReadyK.nil
    exact AllReadyK.nil
  case rest =>
    obtain ⟨W1, rfl, hv9, HB⟩ := hcut
    have H1 := Lib.hid (H.out.below HB.out)
    have HM1 := Lib.hid (HM.out.below HB.out)
    have hA1 : A ≤ W1.heap.size := Nat.le_trans hA HB.out.size
    rcases opt_cases o with h1 | ⟨n, h1⟩ | ⟨h1, h2, h3⟩ | ⟨h1, h2, h3⟩
    · have e1 : (o == [45, 65]) = true := by rw [h1]; rfl
      have HT := Lib.hid (show takeL x S o v = ((actL x.a v).1, { x with a := (actL x.a v).2 }, S) by unfold takeL; rw [if_pos h1])
      have HACT := Lib.hid (act_any W1 A sb va vw x v H1.out hA1 hla HSO.out)
      clear h1
      subst hv9
      go_wp2_with (go_at_call 21; refine HACT.out.mono ?_; rintro e w2 ⟨rfl, va2, h2, hk2⟩; have HK2 := Lib.hid hk2; have H2 := Lib.hid h2; clear h2 hk2)
      go_ret
      exact ⟨by rw [HT.out]; rfl, va2, vw, by rw [HT.out]; exact H2.out, by rw [HT.out]; exact HM1.out.keeps HK2.out (by rintro (e | e) <;> omega), (Keeps.of_below HB.out).trans (HK2.out.mono fun k _ e => e.elim .inl fun e => .inr (.inr e))⟩
    · obtain ⟨n1, n2, hn⟩ := opt_some h1
      have e1 : (o == [45, 65]) = false := by simpa using n1
      have HT := Lib.hid (show takeL x S o v = if o ∈ S then (6, x, S) else (0, setF x n v, o :: S) by unfold takeL; rw [if_neg n1, h1])
      rw [h1] at hv9
      change _ = Value.pointer (some ⟨sb, n, none⟩) at hv9
      clear h1
      subst hv9
      have hlk := HM1.out.look o (by omega)
      by_cases hin : o ∈ S
      · have hq : seenG S o = 1 := if_pos hin
        rw [hq] at hlk
        rw [if_pos hin] at HT
        clear hin hq
        go_wp2
        go_ret
        exact ⟨by rw [HT.out]; rfl, va, vw, by rw [HT.out]; exact H1.out, by rw [HT.out]; exact HM1.out, Keeps.of_below HB.out⟩
      · have hq : seenG S o = 0 := if_neg hin
        rw [hq] at hlk
        rw [if_neg hin] at HT
        clear hin hq
        have HP := Lib.hid (HM1.out.put o (by omega) (by omega))
        go_wp2_with (at_mapUpdate; refine wpList_mapUpd_x rfl _ _ _ _ rfl _ _ _ rfl rfl rfl HP.out ?_; rintro w4 ⟨hm4, ht4⟩; have HM4 := Lib.hid hm4; have HK4 := Lib.hid (keeps_turned ht4); have H4 := Lib.hid (H1.out.keeps HK4.out (by omega) (fun k e q => by have := H1.out.sa k e; omega) (fun k e q => by have := H1.out.sw k e; omega)); clear hm4 ht4 hlk; obtain ⟨u, c0⟩ := fld_any H4.out n hn; have f0 := H4.out.bx.f n; haveI : Old w4 sb := ⟨H4.out.bx.lt⟩)
        go_ret
        have hs : Keeps (fun k => k = sb) w4 (w4.setCell ⟨sb, n, none⟩ (.string (B v))) := Keeps.setCell (F := fun k => k = sb) w4 (a := ⟨sb, n, none⟩) rfl _
        exact ⟨by rw [HT.out]; rfl, va, vw, by rw [HT.out]; exact H4.out.setF n hn v, by rw [HT.out]; exact HM4.out.keeps hs (fun e => hne e), ((Keeps.of_below HB.out).trans (HK4.out.mono fun k _ e => .inr (.inl e))).trans (hs.mono fun k _ e => .inl e)⟩
    · have e1 : (o == [45, 65]) = false := by simpa using h1
      have e2 : (o == [45, 87]) = true := by rw [h3]; rfl
      have e3 : (o != [45, 87]) = false := by rw [h3]; rfl
      have HT := Lib.hid (show takeL x S o v = if o ∈ S then (6, x, S) else if (splitL v).2.2 ≠ 0 then (4, x, o :: S) else (0, { x with w := (splitL v).1 }, o :: S) by unfold takeL; rw [if_neg h1, h2]; exact if_neg (fun e => e h3))
      rw [h2] at hv9
      change _ = Value.pointer none at hv9
      clear h1 h2 h3
      subst hv9
      have hlk := HM1.out.look o (by omega)
      by_cases hin : o ∈ S
      · have hq : seenG S o = 1 := if_pos hin
        rw [hq] at hlk
        rw [if_pos hin] at HT
        clear hin hq
        go_wp2
        go_ret
        exact ⟨by rw [HT.out]; rfl, va, vw, by rw [HT.out]; exact H1.out, by rw [HT.out]; exact HM1.out, Keeps.of_below HB.out⟩
      · have hq : seenG S o = 0 := if_neg hin
        rw [hq] at hlk
        rw [if_neg hin] at HT
        clear hin hq
        have HP := Lib.hid (HM1.out.put o (by omega) (by omega))
        have HSPL := Lib.hid fun w => split_any v w hv
        obtain ⟨sl, hsl⟩ : ∃ q, splitL v = q := ⟨_, rfl⟩
        unfold SplitP at HSPL
        rw [hsl] at HSPL HT
        clear hsl
        obtain ⟨l, pl, er⟩ := sl
        by_cases her : er = 0
        · subst her
          rw [if_neg (by simp)] at HT
          go_wp2_with (first
            | (at_mapUpdate; refine wpList_mapUpd_x rfl _ _ _ _ rfl _ _ _ rfl rfl rfl HP.out ?_; rintro w4 ⟨hm4, ht4⟩; have HM4 := Lib.hid hm4; have HK4 := Lib.hid (keeps_turned ht4); have hA4 : A ≤ w4.heap.size := Nat.le_trans hA1 HK4.out.size; have H4 := Lib.hid (H1.out.keeps HK4.out (by omega) (fun k e q => by have := H1.out.sa k e; omega) (fun k e q => by have := H1.out.sw k e; omega)); clear hm4 ht4 hlk)
            | (go_at_call 8; refine (HSPL.out _).mono ?_; rintro e w5 ⟨v5, rfl, ho5, hz5, hb5⟩; have HG5 := Lib.hid (own_ge ho5 (fun q => hz5 (List.eq_nil_of_length_eq_zero q))); obtain ⟨A5, c5, rfl, -⟩ := ho5.form0; have HO5 := Lib.hid ho5; have HB5 := Lib.hid hb5; have H5 := Lib.hid (H4.out.below HB5.out); have c1 := H5.out.bx.c 1 _ rfl; have f1 := H5.out.bx.f 1; haveI : Old w5 sb := ⟨H5.out.bx.lt⟩; clear ho5 hz5 hb5))
          go_ret
          have hs : Keeps (fun k => k = sb) w5 (w5.setCell ⟨sb, 1, none⟩ (.slice A5 l.length c5)) := Keeps.setCell (F := fun k => k = sb) w5 (a := ⟨sb, 1, none⟩) rfl _
          refine ⟨by rw [HT.out]; rfl, va, .slice A5 l.length c5, by rw [HT.out]; exact H5.out.setW (HO5.out.mono hA4) (fun k e => Nat.le_trans hA4 (HG5.out k e)) (fun k e q => by have := HG5.out k q; have := H4.out.oa.lt k e; omega), by rw [HT.out]; exact (HM4.out.below HB5.out).keeps hs (fun e => hne e), ?_⟩
          exact (((Keeps.of_below HB.out).trans (HK4.out.mono fun k _ e => .inr (.inl e))).trans (Keeps.of_below HB5.out)).trans (hs.mono fun k _ e => .inl e)
        · rw [if_pos her] at HT
          have n1 : (er == 0) = false := by simpa using her
          have n2 : (er != 0) = true := by simpa using her
          clear her
          go_wp2_with (first
            | (at_mapUpdate; refine wpList_mapUpd_x rfl _ _ _ _ rfl _ _ _ rfl rfl rfl HP.out ?_; rintro w4 ⟨hm4, ht4⟩; have HM4 := Lib.hid hm4; have HK4 := Lib.hid (keeps_turned ht4); have hA4 : A ≤ w4.heap.size := Nat.le_trans hA1 HK4.out.size; have H4 := Lib.hid (H1.out.keeps HK4.out (by omega) (fun k e q => by have := H1.out.sa k e; omega) (fun k e q => by have := H1.out.sw k e; omega)); clear hm4 ht4 hlk)
            | (go_at_call 8; refine (HSPL.out _).mono ?_; rintro e w5 ⟨v5, rfl, ho5, hz5, hb5⟩; have HB5 := Lib.hid hb5; clear ho5 hz5 hb5))
          go_ret
          exact ⟨by rw [HT.out]; rfl, va, vw, by rw [HT.out]; exact H4.out.below HB5.out, by rw [HT.out]; exact HM4.out.below HB5.out, ((Keeps.of_below HB.out).trans (HK4.out.mono fun k _ e => .inr (.inl e))).trans (Keeps.of_below HB5.out)⟩
    · have e1 : (o == [45, 65]) = false := by simpa using h1
      have e2 : (o == [45, 87]) = false := by simpa using h3
      have e3 : (o != [45, 87]) = true := by simpa using h3
      have HT := Lib.hid (show takeL x S o v = (8, x, S) by unfold takeL; rw [if_neg h1, h2]; exact if_pos h3)
      rw [h2] at hv9
      change _ = Value.pointer none at hv9
      clear h1 h2 h3
      subst hv9
      go_wp2
      go_ret
      exact ⟨by rw [HT.out]; rfl, va, vw, by rw [HT.out]; exact H1.out, by rw [HT.out]; exact HM1.out, Keeps.of_below HB.out⟩
end Go.Proofs.YtadaeecokkokjaaGreat.Spc
namespace Go.Proofs.YtadaeecokkokjaaGreat.Spc
open Go.ChangeShapes Go.WideShapes Go.Deep Go.RowKit Mc Pa Quo
attribute [local go_sem] Oper.semAt_some
set_option maxRecDepth 100000
def pairL : List (List UInt8) → List (List UInt8 × List UInt8)
  | a :: b :: r => (a, b) :: pairL r
  | _ => []
theorem pair_get : ∀ (ts : List (List UInt8)) (k : Nat) (a b : List UInt8), ts[2 * k]? = some a → ts[2 * k + 1]? = some b → (pairL ts)[k]? = some (a, b)
  | x :: y :: r, 0, a, b, h1, h2 => by simp at h1 h2; rw [pairL, h1, h2]; rfl
  | x :: y :: r, k + 1, a, b, h1, h2 => by
    rw [pairL, List.getElem?_cons_succ]
    exact pair_get r k a b (by rw [← h1]; rfl) (by rw [← h2]; rfl)
  | [], k, a, b, h1, h2 => by simp at h1
  | [x], k, a, b, h1, h2 => by simp at h2
theorem pair_len : ∀ (ts : List (List UInt8)), (pairL ts).length = ts.length / 2
  | x :: y :: r => by rw [pairL, List.length_cons, pair_len r, List.length_cons, List.length_cons]; omega
  | [] => rfl
  | [x] => by simp [pairL]
def encP (x : List UInt8 × List UInt8) : Array Value := #[.string (B x.1), .string (B x.2)]
@[go_sem] theorem encP_eq (x : List UInt8 × List UInt8) : encP x = #[.string (B x.1), .string (B x.2)] := rfl
set_option maxHeartbeats 2000000 in
theorem opts1 (n : Nat) (hn : 1 ≤ n) (l b1 g off c : Nat) (ts : List (List UInt8)) (hs : ts.length ≤ 536870912) (J Jx : List (List UInt8 × List UInt8) → World → Prop)
    (hY : ∀ pre x W, J pre W → pre ++ [x] <+: pairL ts → YieldAt Fence.wide (n - 1) Tryz.prog l (encP x) W fun e W' =>
      (e = .returned (.bool true) ∧ J (pre ++ [x]) W' ∧ KeepG (fun k => k = b1 ∨ k = g) W W') ∨ (e = .returned (.bool false) ∧ Jx (pre ++ [x]) W'))
    (hJb : ∀ pre W W', Below W.heap.size W W' → J pre W → J pre W')
    (W : World) (h1 : W.cell? ⟨b1, 0, none⟩ = some (.slice (some ⟨g, off, none⟩) ts.length c)) (hc : ∀ j t, ts[j]? = some t → W.cell? ⟨g, off + j, none⟩ = some (.string (B t))) (h0 : J [] W) :
    CallsIn Fence.wide n Tryz.prog 20 #[.func (.yield l) #[] #[], .pointer (some ⟨b1, 0, none⟩)] W fun e W' => (∃ v, e = .returned v) ∧
      ((∃ ys, ys = pairL ts ∧ J ys W') ∨ (∃ pre, pre <+: pairL ts ∧ Jx pre W')) := by
  have HY := Lib.hid hY
  have HJB := Lib.hid hJb
  have H0 := Lib.hid h0
  have HC := Lib.hid hc
  have H1 := Lib.hid h1
  have hb1 : b1 < W.heap.size := World.block_lt_of_cell? W _ h1
  clear hY hJb h0 hc h1
  refine callsIn_of_wp Tryz.func20 rfl trivial ?_ rfl
  simp only [Tryz.ntmps20, List.size_toArray, List.length_cons, List.length_nil, Nat.reduceAdd, Nat.reduceSub, Array.replicate_succ, Array.replicate_zero, List.push_toArray, List.append_toArray, List.nil_append, List.cons_append]
  gi_wp2
  gi_loopw [3] (fun v wr => ∃ (i k : Nat) (pre : List (List UInt8 × List UInt8)), Hid (i = 2 * k) ∧ i ≤ ts.length ∧ v = .int .i64 i ∧ Hid (pre = (pairL ts).take k) ∧ Hid (J pre wr) ∧ Hid (KeepG (fun k => k = b1 ∨ k = g) W wr)) (fun i _ => ts.length - (intOf i).toNat)
  case atStart => exact ⟨0, 0, [], Lib.hid rfl, by omega, rfl, Lib.hid rfl, H0, Lib.hid (fun _ _ => rfl)⟩
  case round =>
    clear H0
    obtain ⟨i, k, pre, HIK, hi, rfl, HP, HJ, HK⟩ := hrel
    have z1 := (HK.out.cell (o := 0) (.inl rfl)).trans H1.out
    have hbr : b1 < wr.heap.size := World.block_lt_of_cell? wr _ z1
    haveI : Old wr b1 := ⟨hbr⟩
    have i0 : (0 : Int) ≤ (i : Int) := by omega
    by_cases hlt : i + 1 < ts.length
    · have q1 : (i : Int) + 1 < (ts.length : Int) := by omega
      obtain ⟨ta, hta⟩ : ∃ ta, ts[i]? = some ta := ⟨_, List.getElem?_eq_getElem (by omega)⟩
      obtain ⟨tb, htb⟩ : ∃ tb, ts[i + 1]? = some tb := ⟨_, List.getElem?_eq_getElem hlt⟩
      have hpg := pair_get ts k ta tb (by rw [← HIK.out]; exact hta) (by rw [← HIK.out]; exact htb)
      have HT := Lib.hid (show (pairL ts).take (k + 1) = pre ++ [(ta, tb)] by rw [List.take_add_one, hpg, HP.out]; rfl)
      have HPR := Lib.hid (show pre ++ [(ta, tb)] <+: pairL ts by rw [← HT.out]; exact List.take_prefix _ _)
      have za := (HK.out.cell (o := off + i) (.inr rfl)).trans (HC.out i ta hta)
      have zb := (HK.out.cell (o := off + (i + 1)) (.inr rfl)).trans (HC.out (i + 1) tb htb)
      haveI : Old wr g := ⟨World.block_lt_of_cell? wr _ za⟩
      clear hta htb hpg
      gi_wp2
      (refine wpIn_region_grow_tail 10 (lax_wide) (by kernel_rfl) (by kernel_rfl) (by kernel_rfl) ?_; simp only [List.take_succ_cons, List.take_zero, List.drop_succ_cons, List.drop_zero]; (repeat (go_big_quiet_step (fail))); refine wpQuiet_nil ?_; intro _ hw'; obtain ⟨gq, hw''⟩ := hw'; subst hw'')
      have HJ2 := Lib.hid (HJB.out _ _ _ (grow_below wr gq) HJ.out)
      obtain ⟨fn, tmps, assign, body, hy, hR⟩ := HY.out _ (ta, tb) _ HJ2.out HPR.out
      have HEW : Hid (encP (ta, tb) = #[.string (B ta), .string (B tb)]) := Lib.hid rfl
      rw [HEW.out] at hy
      have HK2 := Lib.hid (KeepG.of_below (G := fun k => k = b1 ∨ k = g) (grow_below wr gq) (fun k hk => by rcases hk with rfl | rfl; exact hbr; exact World.block_lt_of_cell? wr _ za))
      gi_wp2
      refine hR.mono ?_
      rintro e W3 (⟨rfl, hJ3, hk3⟩ | ⟨rfl, hJx3⟩)
      · have HJ3 := Lib.hid hJ3
        have HK3 := Lib.hid (fun j hj => (hk3 j hj).trans ((HK2.out j hj).trans (HK.out j hj)))
        clear hk3 hJ3
        gi_wp2
        go_roundw
        case rel => exact ⟨i + 2, k + 1, _, Lib.hid (by have := HIK.out; omega), by omega, by go_num, Lib.hid HT.out.symm, HJ3, HK3⟩
        case measure => simp [intOf]; omega
      · have HJ3 := Lib.hid hJx3
        clear hJx3
        gi_wp2
        refine bodyPost_ret (results_none rfl _ _ _) rfl ?_
        exact ⟨⟨_, rfl⟩, .inr ⟨_, HPR.out, HJ3.out⟩⟩
    · have q1 : ¬ (i : Int) + 1 < (ts.length : Int) := by omega
      have HP2 := Lib.hid (show pairL ts = pre by rw [HP.out, List.take_of_length_le]; rw [pair_len]; have := HIK.out; omega)
      clear hlt
      gi_wp2
      go_end0
      exact ⟨⟨_, rfl⟩, .inl (by rw [HP2.out]; exact HJ.out)⟩
theorem opts_gives (b1 g off c : Nat) (ts : List (List UInt8)) (hs : ts.length ≤ 536870912) (w : World) (h1 : w.cell? ⟨b1, 0, none⟩ = some (.slice (some ⟨g, off, none⟩) ts.length c)) (hg : g < w.heap.size) (hc : ∀ j t, ts[j]? = some t → w.cell? ⟨g, off + j, none⟩ = some (.string (B t))) :
    GivesW Tryz.prog 20 #[.pointer (some ⟨b1, 0, none⟩)] encP (fun k => k = b1 ∨ k = g) b1 (pairL ts) w := by
  intro n hn l J Jx W hW hJ _ hY h0
  have hb1 : b1 < w.heap.size := World.block_lt_of_cell? w _ h1
  refine (opts1 n hn l b1 g off c ts hs J Jx hY (fun pre A C hb h => hJ pre A C (Keeps.of_below hb) h) W ((hW.cell (p := ⟨b1, 0, none⟩) hb1).trans h1) (fun j t ht => (hW.cell (p := ⟨g, off + j, none⟩) hg).trans (hc j t ht)) h0).mono ?_
  rintro e W' ⟨h1, h2⟩
  refine ⟨h1, ?_⟩
  rcases h2 with ⟨ys, rfl, h⟩ | h
  · exact .inl h
  · exact .inr h
theorem opts_any (p : Option Addr) (n c : Nat) (w : World) : Calls Tryz.prog 9 #[.slice p n c] w fun e w' => e = .returned (.func (.func 20) #[] #[.pointer (some ⟨w.heap.size, 0, none⟩)]) ∧ w' = w.alloc (.cells #[.slice p n c] 24) := by
  go_enter Tryz.func9, Tryz.ntmps9
  go_wp2
  go_ret
  exact ⟨rfl, rfl⟩
end Go.Proofs.YtadaeecokkokjaaGreat.Spc
namespace Go.Proofs.YtadaeecokkokjaaGreat.Spc
open Go.ChangeShapes Go.WideShapes Go.Deep Go.RowKit Mc Pa Quo
def cmpl : List UInt8 := [99, 111, 109, 112, 108, 101, 116, 101]
def pairsOf (l : List (List UInt8)) : List (List UInt8 × List UInt8) := pairL ((l.drop 1).take (l.length - 2))
def takesL (x : Sp) (S : List (List UInt8)) : List (List UInt8 × List UInt8) → Int × Sp × List (List UInt8)
  | [] => (0, x, S)
  | p :: r => if (takeL x S p.1 p.2).1 ≠ 0 then takeL x S p.1 p.2 else takesL (takeL x S p.1 p.2).2.1 (takeL x S p.1 p.2).2.2 r
theorem takesL_snoc (x : Sp) (S : List (List UInt8)) (l : List (List UInt8 × List UInt8)) (p : List UInt8 × List UInt8) (h : (takesL x S l).1 = 0) : takesL x S (l ++ [p]) = takeL (takesL x S l).2.1 (takesL x S l).2.2 p.1 p.2 := by
  induction l generalizing x S with
  | nil =>
    show takesL x S [p] = takeL x S p.1 p.2
    rw [takesL]
    by_cases h1 : (takeL x S p.1 p.2).1 ≠ 0
    · rw [if_pos h1]
    · rw [if_neg h1, takesL]
      have h2 : (takeL x S p.1 p.2).1 = 0 := Decidable.byContradiction h1
      rw [← h2]
  | cons a r ih =>
    rw [takesL] at h
    rw [List.cons_append, takesL, takesL]
    by_cases h1 : (takeL x S a.1 a.2).1 ≠ 0
    · rw [if_pos h1] at h; exact (h1 h).elim
    · rw [if_neg h1] at h ⊢
      rw [if_neg h1]
      exact ih _ _ h
theorem takesL_stop (x : Sp) (S : List (List UInt8)) (l t : List (List UInt8 × List UInt8)) (h : (takesL x S l).1 ≠ 0) : takesL x S (l ++ t) = takesL x S l := by
  induction l generalizing x S with
  | nil => exact (h rfl).elim
  | cons a r ih =>
    rw [takesL] at h
    rw [List.cons_append, takesL, takesL]
    by_cases h1 : (takeL x S a.1 a.2).1 ≠ 0
    · rw [if_pos h1, if_pos h1]
    · rw [if_neg h1] at h ⊢
      rw [if_neg h1]
      exact ih _ _ h
/-- Actions rise, and none is too many. -/
structure StOK (x : Sp) (S : List (List UInt8)) (n : Nat) : Prop where
  s : x.a.Pairwise (· < ·)
  r : ∀ a ∈ x.a, 1 ≤ a ∧ a ≤ 7
  a : x.a.length ≤ n
  l : S.length ≤ n
theorem insA_lt {b a : Int} (r : List Int) (h : b < a) : insA (b :: r) a = b :: insA r a := by
  unfold insA
  rw [List.countP_cons_of_pos (by simpa using h), List.take_succ_cons, List.drop_succ_cons, List.cons_append]
theorem insA_ge {a : Int} (l : List Int) (h : ∀ c ∈ l, ¬ c < a) : insA l a = a :: l := by
  unfold insA
  rw [List.countP_eq_zero.2 (fun c hc => by simpa using h c hc)]
  rfl
theorem insA_mem {a c : Int} (l : List Int) : c ∈ insA l a ↔ c = a ∨ c ∈ l := by
  unfold insA
  rw [List.mem_append, List.mem_cons]
  have h : c ∈ l ↔ c ∈ l.take (l.countP (· < a)) ∨ c ∈ l.drop (l.countP (· < a)) := by rw [← List.mem_append, List.take_append_drop]
  rw [h]
  constructor
  · rintro (h | h | h)
    · exact .inr (.inl h)
    · exact .inl h
    · exact .inr (.inr h)
  · rintro (h | h | h)
    · exact .inr (.inl h)
    · exact .inl h
    · exact .inr (.inr h)
theorem insA_len (l : List Int) (a : Int) : (insA l a).length = l.length + 1 := by
  have h := List.countP_le_length (p := fun c => decide (c < a)) (l := l)
  unfold insA
  rw [List.length_append, List.length_take, List.length_cons, List.length_drop]
  omega
theorem insA_sorted {a : Int} : ∀ (l : List Int), l.Pairwise (· < ·) → a ∉ l → (insA l a).Pairwise (· < ·)
  | [], _, _ => by rw [insA_ge [] (fun c hc => by cases hc)]; exact List.pairwise_singleton _ _
  | b :: r, h, hn => by
    have h1 := (List.pairwise_cons.1 h)
    have hne : b ≠ a := fun e => hn (e ▸ List.mem_cons_self ..)
    by_cases hb : b < a
    · rw [insA_lt r hb]
      refine List.pairwise_cons.2 ⟨fun c hc => ?_, insA_sorted r h1.2 (fun e => hn (List.mem_cons_of_mem _ e))⟩
      rcases (insA_mem r).1 hc with rfl | hc
      · exact hb
      · exact h1.1 c hc
    · have hl : ∀ c ∈ b :: r, a < c := fun c hc => by
        rcases List.mem_cons.1 hc with rfl | hc
        · omega
        · have := h1.1 c hc; omega
      rw [insA_ge _ (fun c hc => by have := hl c hc; omega)]
      exact List.pairwise_cons.2 ⟨hl, h⟩
theorem setF_a (x : Sp) (n : Nat) (v : List UInt8) : (setF x n v).a = x.a := by unfold setF; repeat' split
                                                                                all_goals rfl
theorem act_ok {x : Sp} {S : List (List UInt8)} {n : Nat} (h : StOK x S n) (v : List UInt8) : StOK { x with a := (actL x.a v).2 } S (n + 1) := by
  have hk := actK_le v
  unfold actL
  split
  · exact ⟨h.s, h.r, Nat.le_succ_of_le h.a, Nat.le_succ_of_le h.l⟩
  · rename_i h8
    split
    · exact ⟨h.s, h.r, Nat.le_succ_of_le h.a, Nat.le_succ_of_le h.l⟩
    · rename_i hc
      refine ⟨insA_sorted _ h.s (fun e => hc (by rw [List.contains_iff_mem]; exact e)), fun a ha => ?_, ?_, Nat.le_succ_of_le h.l⟩
      · rcases (insA_mem _).1 ha with rfl | ha
        · omega
        · exact h.r a ha
      · show (insA x.a _).length ≤ n + 1
        rw [insA_len]; have := h.a; omega
theorem take_ok {x : Sp} {S : List (List UInt8)} {n : Nat} (h : StOK x S n) (o v : List UInt8) : StOK (takeL x S o v).2.1 (takeL x S o v).2.2 (n + 1) := by
  have h1 : StOK x S (n + 1) := ⟨h.s, h.r, Nat.le_succ_of_le h.a, Nat.le_succ_of_le h.l⟩
  have h2 : StOK x (o :: S) (n + 1) := ⟨h.s, h.r, Nat.le_succ_of_le h.a, by have := h.l; simp; omega⟩
  unfold takeL
  split
  · exact act_ok h v
  · split
    · split
      · exact h1
      split
      · exact h1
      split
      · exact h2
      · exact ⟨h2.s, h2.r, h2.a, h2.l⟩
    · split
      · exact h1
      · exact ⟨by rw [setF_a]; exact h2.s, by rw [setF_a]; exact h2.r, by rw [setF_a]; exact h2.a, h2.l⟩
theorem takes_ok {x : Sp} {S : List (List UInt8)} {n : Nat} (h : StOK x S n) (l : List (List UInt8 × List UInt8)) : StOK (takesL x S l).2.1 (takesL x S l).2.2 (n + l.length) := by
  induction l generalizing x S n with
  | nil => exact h
  | cons p r ih =>
    have h1 := take_ok h p.1 p.2
    rw [takesL]
    split
    · exact ⟨h1.s, h1.r, by have := h1.a; rw [List.length_cons]; omega, by have := h1.l; rw [List.length_cons]; omega⟩
    · have h2 := ih h1
      rw [List.length_cons]
      exact ⟨h2.s, h2.r, by have := h2.a; omega, by have := h2.l; omega⟩
theorem setF_w (x : Sp) (n : Nat) (v : List UInt8) : (setF x n v).w = x.w := by unfold setF; repeat' split
                                                                                all_goals rfl
theorem splitL_len (s : List UInt8) : (splitL s).1.length ≤ s.length + 1 := by
  have hw : (wordsL s).length ≤ s.length + 1 := wordsF_len _ _
  unfold splitL
  have : ∀ (l : List (Nat × Nat)) (out : List (List UInt8)), (splitW s l out).1.length ≤ out.length + l.length := by
    intro l
    induction l with
    | nil => intro out; rw [splitW]; simp
    | cons a r ih =>
      intro out
      rw [splitW]
      split
      · simp
      · have := ih (out ++ [valT s a])
        rw [List.length_append, List.length_singleton] at this
        rw [List.length_cons]; omega
  have := this (wordsL s) []
  simp at this
  omega
theorem take_w {x : Sp} {S : List (List UInt8)} (h : x.w.length ≤ 30001) (o v : List UInt8) (hv : v.length ≤ 30000) : (takeL x S o v).2.1.w.length ≤ 30001 := by
  unfold takeL
  split
  · exact h
  · split
    · split
      · exact h
      split
      · exact h
      split
      · exact h
      · have := splitL_len v
        show (splitL v).1.length ≤ 30001
        omega
    · split
      · exact h
      · rw [setF_w]; exact h
theorem takes_w {x : Sp} {S : List (List UInt8)} (h : x.w.length ≤ 30001) (l : List (List UInt8 × List UInt8)) (hl : ∀ p ∈ l, p.2.length ≤ 30000) : (takesL x S l).2.1.w.length ≤ 30001 := by
  induction l generalizing x S with
  | nil => exact h
  | cons p r ih =>
    have h1 := take_w (S := S) h p.1 p.2 (hl p (List.mem_cons_self ..))
    rw [takesL]
    split
    · exact h1
    · exact ih h1 (fun q hq => hl q (List.mem_cons_of_mem _ hq))
theorem st0 : StOK sp0 [] 0 := ⟨List.Pairwise.nil, fun a ha => (by cases ha), Nat.le_refl _, Nat.le_refl _⟩
theorem takes0 (l : List (List UInt8 × List UInt8)) : StOK (takesL sp0 [] l).2.1 (takesL sp0 [] l).2.2 l.length := by
  have := takes_ok st0 l
  rwa [Nat.zero_add] at this
theorem pair_mem : ∀ (ts : List (List UInt8)) (p : List UInt8 × List UInt8), p ∈ pairL ts → p.1 ∈ ts ∧ p.2 ∈ ts
  | a :: b :: r, p, h => by
    rw [pairL] at h
    rcases List.mem_cons.1 h with rfl | h
    · exact ⟨List.mem_cons_self .., List.mem_cons_of_mem _ (List.mem_cons_self ..)⟩
    · have := pair_mem r p h
      exact ⟨List.mem_cons_of_mem _ (List.mem_cons_of_mem _ this.1), List.mem_cons_of_mem _ (List.mem_cons_of_mem _ this.2)⟩
  | [], p, h => by rw [pairL] at h; cases h; all_goals simp
  | [a], p, h => by simp [pairL] at h
theorem pairsOf_mem {l : List (List UInt8)} {p : List UInt8 × List UInt8} (h : p ∈ pairsOf l) : p.1 ∈ l ∧ p.2 ∈ l := by
  have := pair_mem _ _ h
  exact ⟨List.mem_of_mem_drop (List.mem_of_mem_take this.1), List.mem_of_mem_drop (List.mem_of_mem_take this.2)⟩
theorem pairsOf_len (l : List (List UInt8)) : (pairsOf l).length ≤ l.length := by
  unfold pairsOf
  rw [pair_len, List.length_take, List.length_drop]
  omega
end Go.Proofs.YtadaeecokkokjaaGreat.Spc
