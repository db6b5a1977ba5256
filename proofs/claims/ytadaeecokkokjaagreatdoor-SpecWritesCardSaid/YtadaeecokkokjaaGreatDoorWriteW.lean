/-
  The walk of layer 20's Write. Conditions: a right name and a right spec of at most 20 actions and words, texts of at most 60 bytes; the library's variable MaxLen holds some number.
-/
import Derived.Test.YtadaeecokkokjaaGreatDoorLineW
import Derived.Test.YtadaeecokkokjaaGreatDoorRegA
set_option linter.unusedSimpArgs false
set_option linter.unusedVariables false
namespace Go.Proofs.YtadaeecokkokjaaGreatDoor.Spc
open Go.ChangeShapes Go.WideShapes Go.Deep Go.RowKit Cls Md Mc Pa Li Pat Quo
set_option linter.unusedSimpArgs false
set_option linter.unusedVariables false
set_option maxRecDepth 100000
/-- The line's first words, behind k actions. -/
def ws1 (x : Sp) (k : Nat) : List (List UInt8) := cmpl :: (x.a.take k).flatMap fun a => [[45, 65], actNm a.toNat]
theorem ws1_snoc (x : Sp) (k : Nat) (a : Int) (h : x.a[k]? = some a) : ws1 x (k + 1) = ws1 x k ++ [[45, 65], actNm a.toNat] := by
  unfold ws1
  rw [List.take_add_one, h, List.flatMap_append]
  rfl
theorem ws1_len (x : Sp) (k : Nat) : (ws1 x k).length ≤ 1 + 2 * x.a.length := by
  have h : ∀ l : List Int, (l.flatMap fun a => [([45, 65] : List UInt8), actNm a.toNat]).length = 2 * l.length := by
    intro l
    induction l with
    | nil => rfl
    | cons a r ih => rw [List.flatMap_cons, List.length_append, ih]; simp; omega
  unfold ws1
  rw [List.length_cons, h, List.length_take]
  omega
def ws2 (x : Sp) : List (List UInt8) := ws1 x x.a.length ++ if x.w = [] then [] else [[45, 87], shortL (lineL x.w)]
/-- The options with a text, and how they are told. -/
def opt4 (x : Sp) : List (List UInt8 × List UInt8) := [([45, 71], x.g), ([45, 88], x.x), ([45, 80], x.p), ([45, 83], x.s)]
def ws3 (x : Sp) (k : Nat) : List (List UInt8) := ws2 x ++ ((opt4 x).take k).flatMap fun p => if p.2 = [] then [] else [p.1, shortL p.2]
theorem ws3_snoc (x : Sp) (k : Nat) (p : List UInt8 × List UInt8) (h : (opt4 x)[k]? = some p) : ws3 x (k + 1) = ws3 x k ++ if p.2 = [] then [] else [p.1, shortL p.2] := by
  unfold ws3
  rw [List.take_add_one, h, List.flatMap_append, List.append_assoc]
  congr 1
  simp
theorem ws_write (n : List UInt8) (x : Sp) : joinB (ws3 x 4 ++ [n]) = writeL n x := by
  unfold writeL
  congr 1
  unfold ws3 ws2 ws1 wordsOf opt4 optW
  rw [List.take_length]
  have h1 : ∀ l : List Int, (l.flatMap fun a => [(([45, 65] : List UInt8), ([45, 65] : List UInt8)), (actNm a.toNat, actNm a.toNat)]).map (·.1) = l.flatMap fun a => [[45, 65], actNm a.toNat] := by
    intro l
    induction l with
    | nil => rfl
    | cons a r ih => rw [List.flatMap_cons, List.map_append, ih, List.flatMap_cons]; rfl
  simp only [List.map_cons, List.map_append, h1, List.take_succ_cons, List.take_zero, List.flatMap_cons, List.flatMap_nil, List.append_nil, List.cons_append, List.append_assoc]
  congr 1
  congr 1
  by_cases hw : x.w = [] <;> by_cases hg : x.g = [] <;> by_cases hx : x.x = [] <;> by_cases hp : x.p = [] <;> by_cases hs : x.s = [] <;> simp [hw, hg, hx, hp, hs]
theorem ws3_len (x : Sp) (k : Nat) : (ws3 x k).length ≤ 11 + 2 * x.a.length := by
  have h1 := ws1_len x x.a.length
  have h2 : (ws2 x).length ≤ 3 + 2 * x.a.length := by
    unfold ws2
    rw [List.length_append]
    split <;> simp <;> omega
  have h3 : ∀ l : List (List UInt8 × List UInt8), (l.flatMap fun p => if p.2 = [] then [] else [p.1, shortL p.2]).length ≤ 2 * l.length := by
    intro l
    induction l with
    | nil => exact Nat.le_refl _
    | cons a r ih =>
      rw [List.flatMap_cons, List.length_append, List.length_cons]
      have : (if a.2 = [] then ([] : List (List UInt8)) else [a.1, shortL a.2]).length ≤ 2 := by split <;> simp
      omega
  have h4 := h3 ((opt4 x).take k)
  have h5 : ((opt4 x).take k).length ≤ 4 := by rw [List.length_take]; exact Nat.min_le_right _ _
  unfold ws3
  rw [List.length_append]
  omega
theorem opt_cells (x : Sp) {k : Nat} {p : List UInt8 × List UInt8} (h : (opt4 x)[k]? = some p) :
    ([.string (B [45, 71]), .string (B x.g), .string (B [45, 88]), .string (B x.x), .string (B [45, 80]), .string (B x.p), .string (B [45, 83]), .string (B x.s)] : List Value)[k * 2]? = some (.string (B p.1)) ∧ ([.string (B [45, 71]), .string (B x.g), .string (B [45, 88]), .string (B x.x), .string (B [45, 80]), .string (B x.p), .string (B [45, 83]), .string (B x.s)] : List Value)[k * 2 + 1]? = some (.string (B p.2)) := by
  have hk : k < 4 := (List.getElem?_eq_some_iff.1 h).1
  have : k = 0 ∨ k = 1 ∨ k = 2 ∨ k = 3 := by omega
  rcases this with rfl | rfl | rfl | rfl <;> (obtain rfl := Option.some.inj h; exact ⟨rfl, rfl⟩)
theorem opt_short {x : Sp} (h1 : x.g.length ≤ 60) (h2 : x.x.length ≤ 60) (h3 : x.p.length ≤ 60) (h4 : x.s.length ≤ 60) {k : Nat} {p : List UInt8 × List UInt8} (h : (opt4 x)[k]? = some p) : p.2.length ≤ 60 := by
  have hm := List.mem_of_getElem? h
  unfold opt4 at hm
  simp only [List.mem_cons, List.not_mem_nil, or_false] at hm
  rcases hm with rfl | rfl | rfl | rfl <;> assumption
theorem act_is {x : Sp} (h : risesB 0 x.a = true) {k : Nat} {a : Int} (hk : x.a[k]? = some a) : a = (a.toNat : Int) ∧ a.toNat ≤ 7 := by
  have := (rises_known h).1 a (List.mem_of_getElem? hk)
  omega
/-- What holds in Write: the box of the spec, the words so far. -/
structure WrI (w : World) (cs : List Value) (o : Value) (ts : List (List UInt8)) (W : World) : Prop where
  bx : BoxN W w.heap.size cs
  own : Own W (w.heap.size + 1) 1 o ts.length (ts.flatMap strC)
  be : Below w.heap.size w W
section
variable {w W W' : World} {cs : List Value} {o v' : Value} {ts : List (List UInt8)}
theorem WrI.below (h : WrI w cs o ts W) (hb : Below W.heap.size W W') : WrI w cs o ts W' := ⟨h.bx.below hb, h.own.below hb, below_then h.be hb⟩
theorem WrI.app (news : List (List UInt8)) (h : WrI w cs o ts W) (ho : Own W' (w.heap.size + 1) 1 v' (ts.length + news.length) (ts.flatMap strC ++ news.flatMap strC)) (hk : Keeps (fun k => o.ownBlock = some k ∧ w.heap.size + 1 ≤ k) W W') : WrI w cs v' (ts ++ news) W' :=
  ⟨h.bx.keeps hk (fun q => by have := q.2; omega), by rw [List.length_append, List.flatMap_append]; exact ho, below_keeps h.be hk (fun k q => by have := q.2; omega)⟩
theorem WrI.start (hx : BoxN W w.heap.size cs) (hb : Below w.heap.size w W) : WrI w cs (.slice (some ⟨W.heap.size, 0, none⟩) 1 1) [cmpl] (W.alloc (.cells #[.string (B cmpl)] 9)) :=
  ⟨hx.below (below_alloc (Below.refl _ _) _), own_new W _ hx.lt [.string (B cmpl)] _ rfl (by omega), below_alloc hb _⟩
end
theorem write_bad (n : List UInt8) (va vw : Value) (x : Sp) (w : World) (hn : n.length ≤ 100) (ha : Sl w numC 1 va x.a) (hw : Sl w strC 1 vw x.w) (hla : x.a.length ≤ 1073741824) (hlw : x.w.length ≤ 1073741824) (hc : chk20 n x ≠ 0) :
    Calls Tryz.prog 7 #[.string (B n), spV va vw x] w fun e w' => e = .returned (.tuple #[.string (B []), .int .i64 (chk20 n x)]) ∧ Below w.heap.size w w' := by
  have HCK := Lib.hid fun W (hb : Below w.heap.size w W) => check20_any n va vw x W (by omega) (ha.below hb) (hw.below hb) hla hlw
  obtain ⟨Aa, ca, rfl, -⟩ := ha
  obtain ⟨Aw, cw, rfl, -⟩ := hw
  generalize chk20 n x = z at *
  have hz : (z != 0) = true := by simpa using hc
  clear hc
  go_enter Tryz.func7, Tryz.ntmps7
  go_wp2_with (go_at_call 13; refine (HCK.out _ (below_alloc (Below.refl _ _) _)).mono ?_; rintro e w2 ⟨rfl, hb2⟩; have HB2 := Lib.hid (below_then (below_alloc (Below.refl w.heap.size w) _) hb2); clear hb2)
  go_ret2
  exact ⟨rfl, HB2.out⟩
set_option maxHeartbeats 4000000 in
theorem write_ok (n : List UInt8) (va vw : Value) (x : Sp) (w : World) (hn : n.length ≤ 100) (ha : Sl w numC 1 va x.a) (hw : Sl w strC 1 vw x.w) (hl : lightB x = true) (hm : MaxL w) (hc : chk20 n x = 0) :
    Calls Tryz.prog 7 #[.string (B n), spV va vw x] w fun e w' => e = .returned (.tuple #[.string (B (writeL n x)), .int .i64 0]) ∧ Below w.heap.size w w' := by
  obtain ⟨i0, hi0, hz00, hz01, hz02⟩ := info_parts info_str
  have hla : x.a.length ≤ 20 ∧ x.w.length ≤ 20 ∧ x.g.length ≤ 60 ∧ x.x.length ≤ 60 ∧ x.p.length ≤ 60 ∧ x.s.length ≤ 60 ∧ ∀ t ∈ x.w, t.length ≤ 60 := by
    unfold lightB shortB at hl
    simp only [Bool.and_eq_true, decide_eq_true_eq, List.all_eq_true] at hl
    obtain ⟨⟨⟨⟨⟨⟨h1, h2⟩, h3⟩, h4⟩, h5⟩, h6⟩, h7⟩ := hl
    exact ⟨h1, h2, h3, h4, h5, h6, h7⟩
  have hr : risesB 0 x.a = true := by
    have hg : goodB x = true := by
      cases h : goodB x
      · unfold chk20 at hc
        rw [h] at hc
        split at hc <;> simp at hc
      · rfl
    unfold goodB at hg
    simp only [Bool.and_eq_true] at hg
    exact hg.1.1.1
  have HCK := Lib.hid fun W (hb : Below w.heap.size w W) => check20_any n va vw x W (by omega) (ha.below hb) (hw.below hb) (by omega) (by omega)
  rw [hc] at HCK
  have HLN := Lib.hid fun W (hb : Below w.heap.size w W) => line_any x.w vw W (hw.below hb) (hm.below hb) (by omega) (fun t ht => by have := hla.2.2.2.2.2.2 t ht; omega)
  have HSH := Lib.hid fun (t : List UInt8) (ht : t.length ≤ 20000) W (hb : Below w.heap.size w W) => shortest_any t W (hm.below hb) (by omega)
  have hlen : (lineL x.w).length ≤ 20000 := by
    have h1 := lineL_len x.w 60 hla.2.2.2.2.2.2
    have h2 : x.w.length * (4 * 60 + 5) ≤ 20 * 245 := Nat.mul_le_mul hla.2.1 (by omega)
    omega
  have HLL := Lib.hid hlen
  have HWL := Lib.hid (write_len n x hn hla.1 hla.2.1 hla.2.2.1 hla.2.2.2.1 hla.2.2.2.2.1 hla.2.2.2.2.2.1 hla.2.2.2.2.2.2 (lineL_len x.w 60 hla.2.2.2.2.2.2))
  have HLA := Lib.hid hla
  have HACT := Lib.hid fun (k : Nat) (a : Int) (hk : x.a[k]? = some a) => act_is hr hk
  have hl1 := hla.1
  have hl2 := hla.2.1
  clear hla hr hl hlen
  obtain ⟨Aa, ca, rfl, -, -, -, hA1⟩ := ha
  obtain ⟨Aw, cw, rfl, -, -, -, hA2⟩ := hw
  have HA1 := Lib.hid hA1
  clear hA1 hA2 hm hc
  go_enter Tryz.func7, Tryz.ntmps7
  go_wp2_with (go_at_call 13; refine (HCK.out _ (below_alloc (Below.refl _ _) _)).mono ?_; rintro e w2 ⟨rfl, hb2⟩; have HB2 := Lib.hid (below_then (below_alloc (Below.refl w.heap.size w) _) hb2); have HX2 := Lib.hid ((BoxN.new w [.slice Aa x.a.length ca, .slice Aw x.w.length cw, .string (B x.g), .string (B x.x), .string (B x.p), .string (B x.s)] 25).below hb2); obtain ⟨⟨c0, c1, c2, c3, c4, c5⟩, -⟩ := box6 HX2.out; haveI : Old w2 w.heap.size := ⟨HX2.out.lt⟩; clear hb2)
  have HI := Lib.hid (WrI.start HX2.out HB2.out)
  clear c0 c1 c2 c3 c4 c5
  go_loopw [7, 22] (fun o1 i wr => ∃ (k : Nat) (o : Value) (W1 : World), k ≤ x.a.length ∧ o = o1 ∧ W1 = wr ∧ i = .int .i64 k ∧ Hid (WrI w [.slice Aa x.a.length ca, .slice Aw x.w.length cw, .string (B x.g), .string (B x.x), .string (B x.p), .string (B x.s)] o (ws1 x k) W1)) (fun _ i _ => x.a.length - (intOf i).toNat)
  case atStart => exact ⟨0, _, _, by omega, rfl, rfl, rfl, HI⟩
  case round =>
    clear HI HX2 HB2
    obtain ⟨k, o, wr, hk, rfl, rfl, rfl, HI⟩ := hrel
    by_cases hlt : k < x.a.length
    · obtain ⟨b, off, rfl, hb, hcl⟩ := HA1.out (by omega)
      obtain ⟨a, ha⟩ := get_some hlt
      have hwz := HI.out.be.size
      have e0 : wr.cell? ⟨b, off + k, none⟩ = some (.int .i64 a) := by
        have := (HI.out.be.cell (p := ⟨b, off + k * 1 + 0, none⟩) hb).trans (hcl k _ ha 0 _ rfl)
        simpa using this
      obtain ⟨ea, ha7⟩ := HACT.out k a ha
      have HSN := Lib.hid (ws1_snoc x k a ha)
      obtain ⟨m, rfl⟩ : ∃ m : Nat, a = m := ⟨_, ea⟩
      have HAC := Lib.hid fun W => action_any m ha7 W
      have hwl := ws1_len x k
      haveI : Old wr b := ⟨Nat.lt_of_lt_of_le hb hwz⟩
      have k0 : (0 : Int) ≤ (k : Int) := by omega
      have k1 : (k : Int) < (x.a.length : Int) := by omega
      clear hcl ha ea
      rw [show (m : Int).toNat = m from rfl] at HSN
      generalize actNm m = q at *
      go_wp2_with (first
        | (go_at_call 14; refine (HAC.out _).mono ?_; rintro e w3 ⟨rfl, hb3⟩; have HI3 := Lib.hid (HI.out.below hb3); have hwz3 := HI3.out.be.size; clear hb3)
        | ((at_builtin; refine wpList_append_src _ rfl (.tmp 26) (.tmp 29) _ rfl (w.heap.size + 1) 9 i0 _ 1 16 Tryz.underlying23 hi0 hz00 hz01 hz02 rfl (by decide) _ (ws1 x k).length ((ws1 x k).flatMap strC) rfl (HI3.out.own.below (below_alloc (Below.refl _ _) _)) _ 2 [.string (B [45, 65]), .string (B q)] rfl rfl (Src.one _ _ _ _) (by simp [Value.oneCell']) (by unfold maxLen; omega) (by omega) (by first | (simp; done) | omega | (simp; omega)) ?_; intro v1 w1 hown1 hg1 hat1 hty1; have HTY1 := Lib.hid hty1; clear hty1); have HI4 := Lib.hid ((HI3.out.below (below_alloc (Below.refl _ _) _)).app [[45, 65], q] hown1 hg1); clear hown1 hg1 hat1))
      go_roundw
      case rel => exact ⟨k + 1, v1, _, by omega, rfl, rfl, by go_num, by rw [HSN.out]; exact HI4⟩
      case measure => simp [intOf]; omega
    · have hk' : k = x.a.length := by omega
      have k1 : ¬ (k : Int) < (x.a.length : Int) := by omega
      have HK := Lib.hid hk'
      clear hk' hlt
      obtain ⟨⟨c0, c1, c2, c3, c4, c5⟩, -⟩ := box6 HI.out.bx
      haveI : Old wr w.heap.size := ⟨HI.out.bx.lt⟩
      have hwz := HI.out.be.size
      have hw1 := ws1_len x x.a.length
      go_upto_if 35 with fail
      go_cut [7] from 8 to 77 (fun o1 W => ∃ (o : Value) (W1 : World), o = o1 ∧ W1 = W ∧ Hid (WrI w [.slice Aa x.a.length ca, .slice Aw x.w.length cw, .string (B x.g), .string (B x.x), .string (B x.p), .string (B x.s)] o (ws2 x) W1))
      case first =>
        by_cases h0 : x.w = []
        · have q0 : ¬ (0 : Int) < (x.w.length : Int) := by rw [h0]; simp
          have HW2 := Lib.hid (show ws2 x = ws1 x k by unfold ws2; rw [if_pos h0, List.append_nil, HK.out])
          clear h0
          go_wp2
          go_meet
          exact ⟨_, _, rfl, rfl, by rw [HW2.out]; exact HI⟩
        · have q0 : (0 : Int) < (x.w.length : Int) := by have := List.length_pos_iff.2 h0; omega
          have HW2 := Lib.hid (show ws2 x = ws1 x k ++ [[45, 87], shortL (lineL x.w)] by unfold ws2; rw [if_neg h0, HK.out])
          have HS2 := Lib.hid (HSH.out (lineL x.w) HLL.out)
          have HLN2 := Lib.hid (HLN.out wr HI.out.be)
          clear h0
          rw [← HK.out] at hw1
          generalize shortL (lineL x.w) = q at *
          generalize lineL x.w = ln at *
          go_wp2_with (first
            | (go_at_call 16; refine HLN2.out.mono ?_; rintro e w3 ⟨rfl, hb3⟩; have HI3 := Lib.hid (HI.out.below hb3); clear hb3)
            | (go_at_call 15; refine (HS2.out _ HI3.out.be).mono ?_; rintro e w4 ⟨rfl, hb4⟩; have HI4 := Lib.hid (HI3.out.below hb4); have hwz4 := HI4.out.be.size; clear hb4)
            | ((at_builtin; refine wpList_append_src _ rfl (.tmp 36) (.tmp 41) _ rfl (w.heap.size + 1) 9 i0 _ 1 16 Tryz.underlying23 hi0 hz00 hz01 hz02 rfl (by decide) _ (ws1 x k).length ((ws1 x k).flatMap strC) rfl (HI4.out.own.below (below_alloc (Below.refl _ _) _)) _ 2 [.string (B [45, 87]), .string (B q)] rfl rfl (Src.one _ _ _ _) (by simp [Value.oneCell']) (by unfold maxLen; omega) (by omega) (by first | (simp; done) | omega | (simp; omega)) ?_; intro v1 w1 hown1 hg1 hat1 hty1; have HTY1 := Lib.hid hty1; clear hty1); have HI5 := Lib.hid ((HI4.out.below (below_alloc (Below.refl _ _) _)).app [[45, 87], q] hown1 hg1); clear hown1 hg1 hat1))
          go_meet
          exact ⟨_, _, rfl, rfl, by rw [HW2.out]; exact HI5⟩
      case rest =>
      clear HI c0 c1 c2 c3 c4 c5 hwz k1 hw1
      obtain ⟨o, wr, rfl, rfl, HI⟩ := hcut
      obtain ⟨⟨c0, c1, c2, c3, c4, c5⟩, -⟩ := box6 HI.out.bx
      haveI : Old wr w.heap.size := ⟨HI.out.bx.lt⟩
      go_wp2
      have HF := Lib.hid (BoxN.new wr [.string (B [45, 71]), .string (B x.g), .string (B [45, 88]), .string (B x.x), .string (B [45, 80]), .string (B x.p), .string (B [45, 83]), .string (B x.s)] (41))
      have HNE := Lib.hid (show o.ownBlock ≠ some wr.heap.size from fun e => by have := HI.out.own.lt _ e; omega)
      have HI2 := Lib.hid (HI.out.below (below_alloc (Below.refl _ _) (.cells #[.string (B [45, 71]), .string (B x.g), .string (B [45, 88]), .string (B x.x), .string (B [45, 80]), .string (B x.p), .string (B [45, 83]), .string (B x.s)] 41)))
      clear c0 c1 c2 c3 c4 c5 HI
      generalize wr.heap.size = fb at *
      generalize wr.alloc _ = W at *
      go_loopw [7, 57] (fun o1 i wr => ∃ (k : Nat) (o : Value) (W1 : World), k ≤ 4 ∧ o = o1 ∧ W1 = wr ∧ i = .int .i64 k ∧ Hid (WrI w [.slice Aa x.a.length ca, .slice Aw x.w.length cw, .string (B x.g), .string (B x.x), .string (B x.p), .string (B x.s)] o (ws3 x k) W1) ∧ Hid (BoxN W1 fb [.string (B [45, 71]), .string (B x.g), .string (B [45, 88]), .string (B x.x), .string (B [45, 80]), .string (B x.p), .string (B [45, 83]), .string (B x.s)]) ∧ Hid (o.ownBlock ≠ some fb)) (fun _ i _ => 4 - (intOf i).toNat)
      case atStart => exact ⟨0, _, _, by omega, rfl, rfl, rfl, by rw [show ws3 x 0 = ws2 x by unfold ws3; simp]; exact HI2, HF, HNE⟩
      case round =>
        clear HI2 HF HNE
        obtain ⟨k, o, W, hk, rfl, rfl, rfl, HI, HF, HNE⟩ := hrel
        by_cases hlt : k < 4
        · obtain ⟨pr, hp⟩ : ∃ pr, (opt4 x)[k]? = some pr := ⟨_, List.getElem?_eq_getElem (show k < (opt4 x).length from hlt)⟩
          have k0 : (0 : Int) ≤ (k : Int) := by omega
          have k1 : (k : Int) < 4 := by omega
          have e0 : W.cell? ⟨fb, k * 2, none⟩ = some (.string (B pr.1)) := HF.out.c _ _ (opt_cells x hp).1
          have e1 : W.cell? ⟨fb, k * 2 + 1, none⟩ = some (.string (B pr.2)) := HF.out.c _ _ (opt_cells x hp).2
          have HS3 := Lib.hid (ws3_snoc x k pr hp)
          have h20 : pr.2.length ≤ 60 := opt_short HLA.out.2.2.1 HLA.out.2.2.2.1 HLA.out.2.2.2.2.1 HLA.out.2.2.2.2.2.1 hp
          have HSQ := Lib.hid (HSH.out pr.2 (by omega))
          have hwz := HI.out.be.size
          haveI : Old W fb := ⟨HF.out.lt⟩
          have hw3 := ws3_len x k
          clear hp
          obtain ⟨q1, q2⟩ := pr
          dsimp only at *
          by_cases h0 : q2 = []
          · have q0 : (q2 == []) = true := by simpa using h0
            rw [if_pos h0, List.append_nil] at HS3
            clear h0
            go_wp2
            go_roundw
            case rel => exact ⟨k + 1, o, _, by omega, rfl, rfl, by go_num, by rw [HS3.out]; exact Lib.hid (HI.out.below (below_alloc (Below.refl _ _) _)), Lib.hid (HF.out.below (below_alloc (Below.refl _ _) _)), HNE⟩
            case measure => simp [intOf]; omega
          · have q0 : (q2 == []) = false := by simpa using h0
            rw [if_neg h0] at HS3
            clear h0
            generalize shortL q2 = q at *
            go_wp2
            have HT := Lib.hid (BoxN.new W [.string (B q1), .string (B q2)] 41)
            have HI := Lib.hid (HI.out.below (below_alloc (Below.refl _ _) (.cells #[.string (B q1), .string (B q2)] 41)))
            have HF := Lib.hid (HF.out.below (below_alloc (Below.refl _ _) (.cells #[.string (B q1), .string (B q2)] 41)))
            generalize W.heap.size = tb at *
            generalize W.alloc _ = W at *
            refine wp_region_keyed (fun X => X.cell? ⟨tb, 0, none⟩ = some (.string (B q1)) ∧ X.cell? ⟨tb, 1, none⟩ = some (.string (B q2))) [7] (by kernel_rfl) ?_
            have HI := Lib.hid (HI.out.below (below_drew (Below.refl _ _)))
            have HF := Lib.hid (HF.out.below (below_drew (Below.refl _ _)))
            have HT := Lib.hid (HT.out.below (below_drew (Below.refl _ _)))
            generalize World.drew _ = D at *
            refine wpAnyK_take2 (i := 0) (some 64) (v := ?v0_1z26) rfl rfl (by kernel_rfl) (by kernel_rfl) (by kernel_rfl) (by kernel_rfl) (fun _ _ _ h => h) (Or.inl ⟨by rfl, ?y0_1z26⟩) (fun _ => ⟨HT.out.c 0 _ rfl, HT.out.c 1 _ rfl⟩) ?r0_1z26
            case y0_1z26 =>
              intro w hSw
              go_simp
              try with_reducible rfl
            try simp only [Act.put, List.setIfInBounds_toArray, List.set_cons_zero, List.set_cons_succ]
            refine wpAnyK_take2 (i := 1) (some 65) (v := ?v1_2z26) rfl rfl (by kernel_rfl) (by kernel_rfl) (by kernel_rfl) (by kernel_rfl) (fun _ _ _ h => h) (Or.inl ⟨by rfl, ?y1_2z26⟩) (fun _ => ⟨HT.out.c 0 _ rfl, HT.out.c 1 _ rfl⟩) ?r1_2z26
            case y1_2z26 =>
              intro w hSw
              go_simp
              try with_reducible rfl
            try simp only [Act.put, List.setIfInBounds_toArray, List.set_cons_zero, List.set_cons_succ]
            refine wpAnyK_load2 (i := 2) [6, 7, 8] (some 66) (v := ?v2_3z26) rfl rfl (by kernel_rfl) (by kernel_rfl) (by kernel_rfl) (by kernel_rfl) (by kernel_rfl) (fun _ _ _ h => h) (Or.inl ⟨by rfl, ?y2_3z26⟩) (fun _ => ⟨HT.out.c 0 _ rfl, HT.out.c 1 _ rfl⟩) ?r2_3z26
            case y2_3z26 =>
              intro w hSw
              (try dsimp only at hSw)
              go_split_ands
              go_simp
              try with_reducible rfl
            try simp only [Act.put, List.setIfInBounds_toArray, List.set_cons_zero, List.set_cons_succ]
            refine wpAnyK_take2 (i := 3) (some 67) (v := ?v3_4z26) rfl rfl (by kernel_rfl) (by kernel_rfl) (by kernel_rfl) (by kernel_rfl) (fun _ _ _ h => h) (Or.inl ⟨by rfl, ?y3_4z26⟩) (fun _ => ⟨HT.out.c 0 _ rfl, HT.out.c 1 _ rfl⟩) ?r3_4z26
            case y3_4z26 =>
              intro w hSw
              go_simp
              try with_reducible rfl
            try simp only [Act.put, List.setIfInBounds_toArray, List.set_cons_zero, List.set_cons_succ]
            refine wpAnyK_load2 (i := 4) [5, 6, 7, 8] (some 68) (v := ?v4_5z26) rfl rfl (by kernel_rfl) (by kernel_rfl) (by kernel_rfl) (by kernel_rfl) (by kernel_rfl) (fun _ _ _ h => h) (Or.inl ⟨by rfl, ?y4_5z26⟩) (fun _ => ⟨HT.out.c 0 _ rfl, HT.out.c 1 _ rfl⟩) ?r4_5z26
            case y4_5z26 =>
              intro w hSw
              (try dsimp only at hSw)
              go_split_ands
              go_simp
              try with_reducible rfl
            try simp only [Act.put, List.setIfInBounds_toArray, List.set_cons_zero, List.set_cons_succ]
            refine wpAnyK_ready (rs := [5]) (by kernel_rfl) (by simp) ?_
            refine AllReadyK.cons (i := 5) rfl (fun K hK => ?_) ?_
            · go_simp
              refine (HSQ.out D HI.out.be).mono ?_
              rintro e w3 ⟨rfl, hb3⟩
              dsimp only
              have HI := Lib.hid (HI.out.below hb3)
              have HF := Lib.hid (HF.out.below hb3)
              have HT := Lib.hid (HT.out.below hb3)
              clear hb3
              obtain ⟨D, rfl⟩ : ∃ D, D = w3 := ⟨_, rfl⟩
              refine hK.out _ _ (fun _ => ⟨HT.out.c 0 _ rfl, HT.out.c 1 _ rfl⟩) ?_
              clear hK K
              try simp only [Act.put, List.setIfInBounds_toArray, List.set_cons_zero, List.set_cons_succ]
              refine wpAnyK_ready (rs := [6]) (by kernel_rfl) (by simp) ?_
              refine AllReadyK.cons (i := 6) rfl (fun K hK => ?_) ?_
              · go_simp
                have HSRC := Lib.hid (Src.one D [.string (B q1), .string (B q)] 9 2)
                have HI := Lib.hid (HI.out.below (below_alloc (Below.refl _ _) (.cells #[.string (B q1), .string (B q)] 9)))
                have HF := Lib.hid (HF.out.below (below_alloc (Below.refl _ _) (.cells #[.string (B q1), .string (B q)] 9)))
                have HT := Lib.hid (HT.out.below (below_alloc (Below.refl _ _) (.cells #[.string (B q1), .string (B q)] 9)))
                have hwz2 := HI.out.be.size
                have hfl := HF.out.lt
                have hbl := HI.out.bx.lt
                generalize D.heap.size = sb at *
                generalize D.alloc (.cells #[.string (B q1), .string (B q)] 9) = D at *
                refine hK.out _ _ (fun _ => ⟨HT.out.c 0 _ rfl, HT.out.c 1 _ rfl⟩) ?_
                clear hK K
                try simp only [Act.put, List.setIfInBounds_toArray, List.set_cons_zero, List.set_cons_succ]
                refine wpAnyK_ready (rs := [7]) (by kernel_rfl) (by simp) ?_
                refine AllReadyK.cons (i := 7) rfl (fun K hK => ?_) ?_
                · (refine step_append_src _ rfl (.tmp 64) (.tmp 70) _ rfl (w.heap.size + 1) 9 i0 _ 1 16 Tryz.underlying23 hi0 hz00 hz01 hz02 rfl (by decide) _ (ws3 x k).length ((ws3 x k).flatMap strC) rfl HI.out.own _ 2 [.string (B q1), .string (B q)] rfl rfl HSRC.out (by simp [Value.oneCell']) (by unfold maxLen; omega) (by omega) (by first | (simp; done) | omega | (simp; omega)) ?_; intro v1 w1 hown1 hg1 hat1 hty1; have HTY1 := Lib.hid hty1; clear hty1)
                  have HI4 := Lib.hid (HI.out.app [q1, q] hown1 hg1)
                  have HF := Lib.hid (HF.out.keeps hg1 (fun q => HNE.out q.1))
                  have HNE2 : Hid (v1.ownBlock ≠ some fb) := Lib.hid (fun e => by
                    rcases hat1 with q | q
                    · exact HNE.out (q.symm.trans e)
                    · have := q _ e; omega)
                  clear hown1 hg1 hat1
                  refine hK.out _ _ (fun h => Bool.noConfusion ((show unl _ _ = false by kernel_rfl).symm.trans h)) ?_
                  clear hK K
                  try simp only [Act.put, List.setIfInBounds_toArray, List.set_cons_zero, List.set_cons_succ]
                  refine wpAnyK_take2 (i := 8) (some 7) (v := ?v8_6z26) rfl rfl (by kernel_rfl) (by kernel_rfl) (by kernel_rfl) (by kernel_rfl) (fun _ _ _ h => h) (Or.inl ⟨by rfl, ?y8_6z26⟩) (fun h => Bool.noConfusion ((show unl _ _ = false by kernel_rfl).symm.trans h)) ?r8_6z26
                  case y8_6z26 =>
                    intro w hSw
                    go_simp
                    try with_reducible rfl
                  try simp only [Act.put, List.setIfInBounds_toArray, List.set_cons_zero, List.set_cons_succ]
                  refine wpAnyK_done (by kernel_rfl) ?_ _
                  go_wp2
                  go_roundw
                  case rel => exact ⟨k + 1, v1, _, by omega, rfl, rfl, by go_num, by rw [HS3.out]; exact HI4, HF, HNE2⟩
                  case measure => simp [intOf]; omega
                exact AllReadyK.nil
              exact AllReadyK.nil
            exact AllReadyK.nil
        · have hk' : k = 4 := by omega
          subst hk'
          clear hlt hk
          have hw3 := ws3_len x 4
          have hwz := HI.out.be.size
          have HJ := Lib.hid fun W (o : Value) (ho : Own W (w.heap.size + 1) 1 o (ws3 x 4 ++ [n]).length ((ws3 x 4 ++ [n]).flatMap strC)) => strJoin_b W _ o (ws3 x 4 ++ [n]) [32] ho (by rw [List.length_append]; simp; omega) (by rw [← joinB_is, ws_write]; have := HWL.out; omega)
          have HLJ := Lib.hid (show Lib.join (ws3 x 4 ++ [n]) [32] = writeL n x by rw [← joinB_is, ws_write])
          rw [HLJ.out] at HJ
          go_wp2_with (first
            | ((at_builtin; refine wpList_append_src _ rfl (.tmp 73) (.tmp 75) _ rfl (w.heap.size + 1) 9 i0 _ 1 16 Tryz.underlying23 hi0 hz00 hz01 hz02 rfl (by decide) _ (ws3 x 4).length ((ws3 x 4).flatMap strC) rfl (HI.out.own.below (below_alloc (Below.refl _ _) _)) _ 1 [.string (B n)] rfl rfl (Src.one _ _ _ _) (by simp [Value.oneCell']) (by unfold maxLen; omega) (by omega) (by first | (simp; done) | omega | (simp; omega)) ?_; intro v1 w1 hown1 hg1 hat1 hty1; have HTY1 := Lib.hid hty1; clear hty1); have HI4 := Lib.hid ((HI.out.below (below_alloc (Below.refl _ _) _)).app [n] hown1 hg1); clear hown1 hg1 hat1)
            | (go_at_call 17; refine (HJ.out _ _ HI4.out.own).mono ?_; rintro e w5 ⟨rfl, hb5⟩; have HB5 := Lib.hid (below_then HI4.out.be hb5); clear hb5))
          go_ret2
          exact ⟨rfl, HB5.out⟩
end Go.Proofs.YtadaeecokkokjaaGreatDoor.Spc
