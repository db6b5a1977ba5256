/-
  The walks of layer 6's reference (modes), on: a byte comes to a stack. Conditions: stacks of at most 2^30 modes.
-/
import Derived.Test.YtadlaaddpobhbaaDoorMod3
namespace Go.Proofs.YtadlaaddpobhbaaDoor.Md
set_option linter.unusedSimpArgs false
set_option linter.unusedVariables false
open Go.ChangeShapes Go.WideShapes Go.Deep Go.RowKit Cls
set_option maxRecDepth 100000
theorem StR.letters {w : World} {s : List UInt8} {vp : Value} {b : Bool} {x : St} (h : StR w (.agg #[.string (B s), vp, .bool b]) x) : s = lets x.l := by
  obtain ⟨vp', e, _, _⟩ := h
  simp only [Value.agg.injEq, Array.mk.injEq, List.cons.injEq, and_true] at e
  obtain ⟨e1, _, _⟩ := e
  injection e1 with e1
  exact B_inj e1
theorem lets_last (c : UInt8) (p : Nat) (r : List (UInt8 × Nat)) (h : r.length < (lets ((c, p) :: r)).length) : (lets ((c, p) :: r))[r.length] = c := by
  have e : (lets ((c, p) :: r))[r.length]? = some c := by
    rw [lets_cons, List.getElem?_append_right (by rw [lets_len]; omega), lets_len]
    simp
  rw [List.getElem?_eq_getElem h] at e
  exact Option.some.inj e
theorem lets_next (c d : UInt8) (p q : Nat) (r : List (UInt8 × Nat)) (h : r.length < (lets ((c, p) :: (d, q) :: r)).length) : (lets ((c, p) :: (d, q) :: r))[r.length] = d := by
  have e : (lets ((c, p) :: (d, q) :: r))[r.length]? = some d := by
    rw [lets_cons, List.getElem?_append_left (by rw [lets_len]; simp), lets_cons, List.getElem?_append_right (by rw [lets_len]; omega), lets_len]
    simp
  rw [List.getElem?_eq_getElem h] at e
  exact Option.some.inj e
set_option maxHeartbeats 2000000 in
theorem step_L40 {p0 q0 : Nat} {d : UInt8} {r : List (UInt8 × Nat)} {f : Bool} {p : Nat} {v : Value} {w : World} (h : StR w v ⟨(76, p0) :: (d, q0) :: r, f⟩) (hlx : (⟨(76, p0) :: (d, q0) :: r, f⟩ : St).l.length ≤ 1073741824) : Calls Tryd.prog 33 #[v, .int .u8 40, .int .i64 p] w (StP w (step ⟨(76, p0) :: (d, q0) :: r, f⟩ 40 p)) := by
  have hlen : (lets ((76, p0) :: (d, q0) :: r)).length = r.length + 2 := by rw [lets_len]; rfl
  have hg1 : ∀ h : r.length + 1 < (lets ((76, p0) :: (d, q0) :: r)).length, (lets ((76, p0) :: (d, q0) :: r))[r.length + 1] = 76 := lets_last _ p0 ((d, q0) :: r)
  have hg2 : ∀ h : r.length < (lets ((76, p0) :: (d, q0) :: r)).length, (lets ((76, p0) :: (d, q0) :: r))[r.length] = d := lets_next _ _ _ _ _
  have hll : r.length + 2 ≤ 1073741824 := by have h9 := hlx; simp at h9; omega
  obtain ⟨A, cp, rfl, hc0, hd0, hs, ht⟩ := h.form
  have HR0 := Lib.hid h
  clear h hs ht
  dsimp only at HR0 ⊢
  generalize lets ((76, p0) :: (d, q0) :: r) = ls at *
  generalize ((76, p0) :: (d, q0) :: r : List (UInt8 × Nat)).length = n at HR0 hc0 ⊢
  go_enter Tryd.func33, Tryd.ntmps33
  go_wp2_with (first
    | (go_at_call 57; (refine (mark_any HR1.out _).mono ?_); intro e w2 h2; obtain ⟨s2, A2, n2, c2, f2, rfl, hc2, hd2, hr2, hb2⟩ := h2.out; have HF2 := Lib.hid (HF1.out.below hb2); have HR2 := Lib.hid hr2; clear hr2 hb2 h2; (try clear b0 b1 b2 r0 r1 r2 p0 p1 p2 q0 q1 q2); obtain ⟨⟨b0, b1, b2⟩, ⟨r0, r1, r2⟩, ⟨p0, p1, p2⟩, ⟨q0, q1, q2⟩⟩ := HF2.out.facts)
    | (go_at_call 58; (refine (turn_x (HR0.out.below (Fr.new w (.string (B ls)) (.slice A n cp) (.bool f) (.string (B [])) (.slice none 0 0) (.bool false)).be) (by simp) hlx).mono ?_); intro e w1 h1; obtain ⟨s1, A1, n1, c1, f1, rfl, hc1, hd1, hr1, hb1⟩ := h1.out; have HF1 := Lib.hid ((Fr.new w (.string (B ls)) (.slice A n cp) (.bool f) (.string (B [])) (.slice none 0 0) (.bool false)).below hb1); have HR1 := Lib.hid hr1; clear hr1 hb1 h1; (try clear b0 b1 b2 r0 r1 r2 p0 p1 p2 q0 q1 q2); obtain ⟨⟨b0, b1, b2⟩, ⟨r0, r1, r2⟩, ⟨p0, p1, p2⟩, ⟨q0, q1, q2⟩⟩ := HF1.out.facts))
  refine bodyPost_ret (v := .agg #[.string (B s2), .slice A2 n2 c2, .bool f2]) (by simp [results, Tryd.results33, go_sem, b0, b1, b2, r0, r1, r2]) rfl ?_
  exact ⟨_, rfl, StR.as (HR2.out.setRes HF2.out _ _ _) (by rfl), (HF2.out.setRes _ _ _).be⟩
set_option maxHeartbeats 2000000 in
theorem step_L36 {p0 q0 : Nat} {d : UInt8} {r : List (UInt8 × Nat)} {f : Bool} {p : Nat} {v : Value} {w : World} (h : StR w v ⟨(76, p0) :: (d, q0) :: r, f⟩) (hlx : (⟨(76, p0) :: (d, q0) :: r, f⟩ : St).l.length ≤ 1073741824) : Calls Tryd.prog 33 #[v, .int .u8 36, .int .i64 p] w (StP w (step ⟨(76, p0) :: (d, q0) :: r, f⟩ 36 p)) := by
  have hlen : (lets ((76, p0) :: (d, q0) :: r)).length = r.length + 2 := by rw [lets_len]; rfl
  have hg1 : ∀ h : r.length + 1 < (lets ((76, p0) :: (d, q0) :: r)).length, (lets ((76, p0) :: (d, q0) :: r))[r.length + 1] = 76 := lets_last _ p0 ((d, q0) :: r)
  have hg2 : ∀ h : r.length < (lets ((76, p0) :: (d, q0) :: r)).length, (lets ((76, p0) :: (d, q0) :: r))[r.length] = d := lets_next _ _ _ _ _
  have hll : r.length + 2 ≤ 1073741824 := by have h9 := hlx; simp at h9; omega
  obtain ⟨A, cp, rfl, hc0, hd0, hs, ht⟩ := h.form
  have HR0 := Lib.hid h
  clear h hs ht
  dsimp only at HR0 ⊢
  generalize lets ((76, p0) :: (d, q0) :: r) = ls at *
  generalize ((76, p0) :: (d, q0) :: r : List (UInt8 × Nat)).length = n at HR0 hc0 ⊢
  go_enter Tryd.func33, Tryd.ntmps33
  go_wp2_with (first
    | (go_at_call 59; (refine (pop_x (HR0.out.below (Fr.new w (.string (B ls)) (.slice A n cp) (.bool f) (.string (B [])) (.slice none 0 0) (.bool false)).be) (by simp) hlx).mono ?_); intro e w1 h1; obtain ⟨s1, A1, n1, c1, f1, rfl, hc1, hd1, hr1, hb1⟩ := h1.out; have HF1 := Lib.hid ((Fr.new w (.string (B ls)) (.slice A n cp) (.bool f) (.string (B [])) (.slice none 0 0) (.bool false)).below hb1); have HR1 := Lib.hid hr1; clear hr1 hb1 h1; (try clear b0 b1 b2 r0 r1 r2 p0 p1 p2 q0 q1 q2); obtain ⟨⟨b0, b1, b2⟩, ⟨r0, r1, r2⟩, ⟨p0, p1, p2⟩, ⟨q0, q1, q2⟩⟩ := HF1.out.facts))
  refine bodyPost_ret (v := .agg #[.string (B s1), .slice A1 n1 c1, .bool f1]) (by simp [results, Tryd.results33, go_sem, b0, b1, b2, r0, r1, r2]) rfl ?_
  exact ⟨_, rfl, StR.as ((HR1.out.setBox HF1.out _ _ _).setRes (HF1.out.setBox _ _ _) _ _ _) (by rfl), ((HF1.out.setBox _ _ _).setRes _ _ _).be⟩
set_option maxHeartbeats 2000000 in
theorem step_L123 {p0 q0 : Nat} {d : UInt8} {r : List (UInt8 × Nat)} {f : Bool} {p : Nat} {v : Value} {w : World} (h : StR w v ⟨(76, p0) :: (d, q0) :: r, f⟩) (hlx : (⟨(76, p0) :: (d, q0) :: r, f⟩ : St).l.length ≤ 1073741824) : Calls Tryd.prog 33 #[v, .int .u8 123, .int .i64 p] w (StP w (step ⟨(76, p0) :: (d, q0) :: r, f⟩ 123 p)) := by
  have hlen : (lets ((76, p0) :: (d, q0) :: r)).length = r.length + 2 := by rw [lets_len]; rfl
  have hg1 : ∀ h : r.length + 1 < (lets ((76, p0) :: (d, q0) :: r)).length, (lets ((76, p0) :: (d, q0) :: r))[r.length + 1] = 76 := lets_last _ p0 ((d, q0) :: r)
  have hg2 : ∀ h : r.length < (lets ((76, p0) :: (d, q0) :: r)).length, (lets ((76, p0) :: (d, q0) :: r))[r.length] = d := lets_next _ _ _ _ _
  have hll : r.length + 2 ≤ 1073741824 := by have h9 := hlx; simp at h9; omega
  obtain ⟨A, cp, rfl, hc0, hd0, hs, ht⟩ := h.form
  have HR0 := Lib.hid h
  clear h hs ht
  dsimp only at HR0 ⊢
  generalize lets ((76, p0) :: (d, q0) :: r) = ls at *
  generalize ((76, p0) :: (d, q0) :: r : List (UInt8 × Nat)).length = n at HR0 hc0 ⊢
  cases h68 : ((d.toNat : Int) == 68) <;> cases h73 : ((d.toNat : Int) == 73)
  all_goals
    go_enter Tryd.func33, Tryd.ntmps33
    go_wp2_with (first
      | (go_at_call 58; (refine (turn_x (HR0.out.below (Fr.new w (.string (B ls)) (.slice A n cp) (.bool f) (.string (B [])) (.slice none 0 0) (.bool false)).be) (by simp) hlx).mono ?_); intro e w1 h1; obtain ⟨s1, A1, n1, c1, f1, rfl, hc1, hd1, hr1, hb1⟩ := h1.out; have HF1 := Lib.hid ((Fr.new w (.string (B ls)) (.slice A n cp) (.bool f) (.string (B [])) (.slice none 0 0) (.bool false)).below hb1); have HR1 := Lib.hid hr1; clear hr1 hb1 h1; (try clear b0 b1 b2 r0 r1 r2 p0 p1 p2 q0 q1 q2); obtain ⟨⟨b0, b1, b2⟩, ⟨r0, r1, r2⟩, ⟨p0, p1, p2⟩, ⟨q0, q1, q2⟩⟩ := HF1.out.facts))
    refine bodyPost_ret (v := .agg #[.string (B s1), .slice A1 n1 c1, .bool f1]) (by simp [results, Tryd.results33, go_sem, b0, b1, b2, r0, r1, r2]) rfl ?_
    exact ⟨_, rfl, StR.as (HR1.out.setRes HF1.out _ _ _) (by unfold step; simp [St.top, topL, St.under, *]), (HF1.out.setRes _ _ _).be⟩
set_option maxHeartbeats 2000000 in
theorem step_Lelse {p0 q0 : Nat} {d : UInt8} {r : List (UInt8 × Nat)} {f : Bool} (u : UInt8) (e40 : ((u.toNat : Int) == 40) = false) (e123 : ((u.toNat : Int) == 123) = false) (e36 : ((u.toNat : Int) == 36) = false) {p : Nat} {v : Value} {w : World} (h : StR w v ⟨(76, p0) :: (d, q0) :: r, f⟩) (hlx : (⟨(76, p0) :: (d, q0) :: r, f⟩ : St).l.length ≤ 1073741824) : Calls Tryd.prog 33 #[v, .int .u8 u.toNat, .int .i64 p] w (StP w (step ⟨(76, p0) :: (d, q0) :: r, f⟩ u.toNat p)) := by
  have hlen : (lets ((76, p0) :: (d, q0) :: r)).length = r.length + 2 := by rw [lets_len]; rfl
  have hg1 : ∀ h : r.length + 1 < (lets ((76, p0) :: (d, q0) :: r)).length, (lets ((76, p0) :: (d, q0) :: r))[r.length + 1] = 76 := lets_last _ p0 ((d, q0) :: r)
  have hg2 : ∀ h : r.length < (lets ((76, p0) :: (d, q0) :: r)).length, (lets ((76, p0) :: (d, q0) :: r))[r.length] = d := lets_next _ _ _ _ _
  have hll : r.length + 2 ≤ 1073741824 := by have h9 := hlx; simp at h9; omega
  obtain ⟨A, cp, rfl, hc0, hd0, hs, ht⟩ := h.form
  have HR0 := Lib.hid h
  clear h hs ht
  dsimp only at HR0 ⊢
  generalize lets ((76, p0) :: (d, q0) :: r) = ls at *
  generalize ((76, p0) :: (d, q0) :: r : List (UInt8 × Nat)).length = n at HR0 hc0 ⊢
  have hlq : (⟨(d, q0) :: r, f⟩ : St).l.length ≤ 1073741824 := by simp; omega
  have hl1 : ((d, q0) :: r).length ≤ 1073741824 := hlq
  have hnq : (⟨(d, q0) :: r, f⟩ : St).l ≠ [] := by simp
  have hlen1 : (lets ((d, q0) :: r)).length = r.length + 1 := by rw [lets_len]; rfl
  have hg3 : ∀ h : r.length < (lets ((d, q0) :: r)).length, (lets ((d, q0) :: r))[r.length] = d := lets_last _ q0 r
  generalize hq : lets ((d, q0) :: r) = ls1 at *
  have HQ := Lib.hid hq
  clear hq
  go_enter Tryd.func33, Tryd.ntmps33
  go_wp2_with (first
    | (go_at_call 60; (refine (plain_any (HR1.out.setBox HF1.out _ _ _) hlq hnq ⟨u, rfl⟩).mono ?_); intro e w2 h2; obtain ⟨s2, A2, n2, c2, f2, rfl, hc2, hd2, hr2, hb2⟩ := h2.out; have HF2 := Lib.hid ((HF1.out.setBox _ _ _).below hb2); have HR2 := Lib.hid hr2; clear hr2 hb2 h2; (try clear b0 b1 b2 r0 r1 r2 p0 p1 p2 q0 q1 q2); obtain ⟨⟨b0, b1, b2⟩, ⟨r0, r1, r2⟩, ⟨p0, p1, p2⟩, ⟨q0, q1, q2⟩⟩ := HF2.out.facts)
    | (go_at_call 59; (refine (pop_any (HR0.out.below (Fr.new w (.string (B ls)) (.slice A n cp) (.bool f) (.string (B [])) (.slice none 0 0) (.bool false)).be) hl1).mono ?_); intro e w1 h1; obtain ⟨s1, A1, n1, c1, f1, rfl, hc1, hd1, hr1, hb1⟩ := h1.out; have HF1 := Lib.hid ((Fr.new w (.string (B ls)) (.slice A n cp) (.bool f) (.string (B [])) (.slice none 0 0) (.bool false)).below hb1); have HR1 := Lib.hid hr1; have hs1 := StR.letters hr1; dsimp only at hs1; rw [HQ.out] at hs1; subst hs1; clear hr1 hb1 h1; (try clear b0 b1 b2 r0 r1 r2 p0 p1 p2 q0 q1 q2); obtain ⟨⟨b0, b1, b2⟩, ⟨r0, r1, r2⟩, ⟨p0, p1, p2⟩, ⟨q0, q1, q2⟩⟩ := HF1.out.facts))
  refine bodyPost_ret (v := .agg #[.string (B s2), .slice A2 n2 c2, .bool f2]) (by simp [results, Tryd.results33, go_sem, b0, b1, b2, r0, r1, r2]) rfl ?_
  exact ⟨_, rfl, StR.as (HR2.out.setRes HF2.out _ _ _) (by unfold step; simp only [e40, e123, e36, Bool.false_eq_true, if_false]; rfl), (HF2.out.setRes _ _ _).be⟩
set_option maxHeartbeats 2000000 in
theorem step_O40 {p0 : Nat} {r : List (UInt8 × Nat)} {f : Bool} {p : Nat} {v : Value} {w : World} (h : StR w v ⟨(79, p0) :: r, f⟩) (hlx : (⟨(79, p0) :: r, f⟩ : St).l.length ≤ 1073741824) : Calls Tryd.prog 33 #[v, .int .u8 40, .int .i64 p] w (StP w (step ⟨(79, p0) :: r, f⟩ 40 p)) := by
  have hlen : (lets ((79, p0) :: r)).length = r.length + 1 := by rw [lets_len]; rfl
  have hg1 : ∀ h : r.length < (lets ((79, p0) :: r)).length, (lets ((79, p0) :: r))[r.length] = 79 := lets_last _ p0 r
  have hll : r.length + 1 ≤ 1073741824 := by have h9 := hlx; simp at h9; omega
  obtain ⟨A, cp, rfl, hc0, hd0, hs, ht⟩ := h.form
  have HR0 := Lib.hid h
  clear h hs ht
  dsimp only at HR0 ⊢
  generalize lets ((79, p0) :: r) = ls at *
  generalize ((79, p0) :: r : List (UInt8 × Nat)).length = n at HR0 hc0 ⊢
  go_enter Tryd.func33, Tryd.ntmps33
  go_wp2_with (first
    | (go_at_call 57; (refine (mark_any HR1.out _).mono ?_); intro e w2 h2; obtain ⟨s2, A2, n2, c2, f2, rfl, hc2, hd2, hr2, hb2⟩ := h2.out; have HF2 := Lib.hid (HF1.out.below hb2); have HR2 := Lib.hid hr2; clear hr2 hb2 h2; (try clear b0 b1 b2 r0 r1 r2 p0 p1 p2 q0 q1 q2); obtain ⟨⟨b0, b1, b2⟩, ⟨r0, r1, r2⟩, ⟨p0, p1, p2⟩, ⟨q0, q1, q2⟩⟩ := HF2.out.facts)
    | (go_at_call 58; (refine (turn_x (HR0.out.below (Fr.new w (.string (B ls)) (.slice A n cp) (.bool f) (.string (B [])) (.slice none 0 0) (.bool false)).be) (by simp) hlx).mono ?_); intro e w1 h1; obtain ⟨s1, A1, n1, c1, f1, rfl, hc1, hd1, hr1, hb1⟩ := h1.out; have HF1 := Lib.hid ((Fr.new w (.string (B ls)) (.slice A n cp) (.bool f) (.string (B [])) (.slice none 0 0) (.bool false)).below hb1); have HR1 := Lib.hid hr1; clear hr1 hb1 h1; (try clear b0 b1 b2 r0 r1 r2 p0 p1 p2 q0 q1 q2); obtain ⟨⟨b0, b1, b2⟩, ⟨r0, r1, r2⟩, ⟨p0, p1, p2⟩, ⟨q0, q1, q2⟩⟩ := HF1.out.facts))
  refine bodyPost_ret (v := .agg #[.string (B s2), .slice A2 n2 c2, .bool f2]) (by simp [results, Tryd.results33, go_sem, b0, b1, b2, r0, r1, r2]) rfl ?_
  exact ⟨_, rfl, StR.as (HR2.out.setRes HF2.out _ _ _) (by rfl), (HF2.out.setRes _ _ _).be⟩
set_option maxHeartbeats 2000000 in
theorem step_Oelse {p0 : Nat} {r : List (UInt8 × Nat)} {f : Bool} (u : UInt8) (e40 : ((u.toNat : Int) == 40) = false) {p : Nat} {v : Value} {w : World} (h : StR w v ⟨(79, p0) :: r, f⟩) (hlx : (⟨(79, p0) :: r, f⟩ : St).l.length ≤ 1073741824) : Calls Tryd.prog 33 #[v, .int .u8 u.toNat, .int .i64 p] w (StP w (step ⟨(79, p0) :: r, f⟩ u.toNat p)) := by
  have hlen : (lets ((79, p0) :: r)).length = r.length + 1 := by rw [lets_len]; rfl
  have hg1 : ∀ h : r.length < (lets ((79, p0) :: r)).length, (lets ((79, p0) :: r))[r.length] = 79 := lets_last _ p0 r
  have hll : r.length + 1 ≤ 1073741824 := by have h9 := hlx; simp at h9; omega
  obtain ⟨A, cp, rfl, hc0, hd0, hs, ht⟩ := h.form
  have HR0 := Lib.hid h
  clear h hs ht
  dsimp only at HR0 ⊢
  generalize lets ((79, p0) :: r) = ls at *
  generalize ((79, p0) :: r : List (UInt8 × Nat)).length = n at HR0 hc0 ⊢
  have hl1 : r.length ≤ 1073741824 := by omega
  have hlq : (⟨(67, p0) :: r, f⟩ : St).l.length ≤ 1073741824 := by simp; omega
  have hnq : (⟨(67, p0) :: r, f⟩ : St).l ≠ [] := by simp
  go_enter Tryd.func33, Tryd.ntmps33
  go_wp2_with (first
    | (go_at_call 60; (refine (plain_any (HR1.out.setBox HF1.out _ _ _) hlq hnq ⟨u, rfl⟩).mono ?_); intro e w2 h2; obtain ⟨s2, A2, n2, c2, f2, rfl, hc2, hd2, hr2, hb2⟩ := h2.out; have HF2 := Lib.hid ((HF1.out.setBox _ _ _).below hb2); have HR2 := Lib.hid hr2; clear hr2 hb2 h2; (try clear b0 b1 b2 r0 r1 r2 p0 p1 p2 q0 q1 q2); obtain ⟨⟨b0, b1, b2⟩, ⟨r0, r1, r2⟩, ⟨p0, p1, p2⟩, ⟨q0, q1, q2⟩⟩ := HF2.out.facts)
    | (go_at_call 58; (refine (turn_any (d := 67) (HR0.out.below (Fr.new w (.string (B ls)) (.slice A n cp) (.bool f) (.string (B [])) (.slice none 0 0) (.bool false)).be) hl1).mono ?_); intro e w1 h1; obtain ⟨s1, A1, n1, c1, f1, rfl, hc1, hd1, hr1, hb1⟩ := h1.out; have HF1 := Lib.hid ((Fr.new w (.string (B ls)) (.slice A n cp) (.bool f) (.string (B [])) (.slice none 0 0) (.bool false)).below hb1); have HR1 := Lib.hid hr1; clear hr1 hb1 h1; (try clear b0 b1 b2 r0 r1 r2 p0 p1 p2 q0 q1 q2); obtain ⟨⟨b0, b1, b2⟩, ⟨r0, r1, r2⟩, ⟨p0, p1, p2⟩, ⟨q0, q1, q2⟩⟩ := HF1.out.facts))
  refine bodyPost_ret (v := .agg #[.string (B s2), .slice A2 n2 c2, .bool f2]) (by simp [results, Tryd.results33, go_sem, b0, b1, b2, r0, r1, r2]) rfl ?_
  exact ⟨_, rfl, StR.as (HR2.out.setRes HF2.out _ _ _) (by unfold step; simp only [St.top, topL, e40, Bool.false_eq_true, if_false]; rfl), (HF2.out.setRes _ _ _).be⟩
set_option maxHeartbeats 2000000 in
theorem step_E41 {p0 : Nat} {r : List (UInt8 × Nat)} {f : Bool} {p : Nat} {v : Value} {w : World} (h : StR w v ⟨(69, p0) :: r, f⟩) (hlx : (⟨(69, p0) :: r, f⟩ : St).l.length ≤ 1073741824) : Calls Tryd.prog 33 #[v, .int .u8 41, .int .i64 p] w (StP w (step ⟨(69, p0) :: r, f⟩ 41 p)) := by
  have hlen : (lets ((69, p0) :: r)).length = r.length + 1 := by rw [lets_len]; rfl
  have hg1 : ∀ h : r.length < (lets ((69, p0) :: r)).length, (lets ((69, p0) :: r))[r.length] = 69 := lets_last _ p0 r
  have hll : r.length + 1 ≤ 1073741824 := by have h9 := hlx; simp at h9; omega
  obtain ⟨A, cp, rfl, hc0, hd0, hs, ht⟩ := h.form
  have HR0 := Lib.hid h
  clear h hs ht
  dsimp only at HR0 ⊢
  generalize lets ((69, p0) :: r) = ls at *
  generalize ((69, p0) :: r : List (UInt8 × Nat)).length = n at HR0 hc0 ⊢
  go_enter Tryd.func33, Tryd.ntmps33
  go_wp2_with (first
    | (go_at_call 59; (refine (pop_x (HR0.out.below (Fr.new w (.string (B ls)) (.slice A n cp) (.bool f) (.string (B [])) (.slice none 0 0) (.bool false)).be) (by simp) hlx).mono ?_); intro e w1 h1; obtain ⟨s1, A1, n1, c1, f1, rfl, hc1, hd1, hr1, hb1⟩ := h1.out; have HF1 := Lib.hid ((Fr.new w (.string (B ls)) (.slice A n cp) (.bool f) (.string (B [])) (.slice none 0 0) (.bool false)).below hb1); have HR1 := Lib.hid hr1; clear hr1 hb1 h1; (try clear b0 b1 b2 r0 r1 r2 p0 p1 p2 q0 q1 q2); obtain ⟨⟨b0, b1, b2⟩, ⟨r0, r1, r2⟩, ⟨p0, p1, p2⟩, ⟨q0, q1, q2⟩⟩ := HF1.out.facts))
  refine bodyPost_ret (v := .agg #[.string (B s1), .slice A1 n1 c1, .bool f1]) (by simp [results, Tryd.results33, go_sem, b0, b1, b2, r0, r1, r2]) rfl ?_
  exact ⟨_, rfl, StR.as (HR1.out.setRes HF1.out _ _ _) (by rfl), (HF1.out.setRes _ _ _).be⟩
set_option maxHeartbeats 2000000 in
theorem step_Eelse {p0 : Nat} {r : List (UInt8 × Nat)} {f : Bool} (u : UInt8) (e41 : ((u.toNat : Int) == 41) = false) {p : Nat} {v : Value} {w : World} (h : StR w v ⟨(69, p0) :: r, f⟩) (hlx : (⟨(69, p0) :: r, f⟩ : St).l.length ≤ 1073741824) : Calls Tryd.prog 33 #[v, .int .u8 u.toNat, .int .i64 p] w (StP w (step ⟨(69, p0) :: r, f⟩ u.toNat p)) := by
  have hlen : (lets ((69, p0) :: r)).length = r.length + 1 := by rw [lets_len]; rfl
  have hg1 : ∀ h : r.length < (lets ((69, p0) :: r)).length, (lets ((69, p0) :: r))[r.length] = 69 := lets_last _ p0 r
  have hll : r.length + 1 ≤ 1073741824 := by have h9 := hlx; simp at h9; omega
  obtain ⟨A, cp, rfl, hc0, hd0, hs, ht⟩ := h.form
  have HR0 := Lib.hid h
  clear h hs ht
  dsimp only at HR0 ⊢
  generalize lets ((69, p0) :: r) = ls at *
  generalize ((69, p0) :: r : List (UInt8 × Nat)).length = n at HR0 hc0 ⊢
  have hl1 : r.length ≤ 1073741824 := by omega
  have hlq : (⟨(65, p0) :: r, f⟩ : St).l.length ≤ 1073741824 := by simp; omega
  have hnq : (⟨(65, p0) :: r, f⟩ : St).l ≠ [] := by simp
  go_enter Tryd.func33, Tryd.ntmps33
  go_wp2_with (first
    | (go_at_call 60; (refine (plain_any (HR1.out.setBox HF1.out _ _ _) hlq hnq ⟨u, rfl⟩).mono ?_); intro e w2 h2; obtain ⟨s2, A2, n2, c2, f2, rfl, hc2, hd2, hr2, hb2⟩ := h2.out; have HF2 := Lib.hid ((HF1.out.setBox _ _ _).below hb2); have HR2 := Lib.hid hr2; clear hr2 hb2 h2; (try clear b0 b1 b2 r0 r1 r2 p0 p1 p2 q0 q1 q2); obtain ⟨⟨b0, b1, b2⟩, ⟨r0, r1, r2⟩, ⟨p0, p1, p2⟩, ⟨q0, q1, q2⟩⟩ := HF2.out.facts)
    | (go_at_call 58; (refine (turn_any (d := 65) (HR0.out.below (Fr.new w (.string (B ls)) (.slice A n cp) (.bool f) (.string (B [])) (.slice none 0 0) (.bool false)).be) hl1).mono ?_); intro e w1 h1; obtain ⟨s1, A1, n1, c1, f1, rfl, hc1, hd1, hr1, hb1⟩ := h1.out; have HF1 := Lib.hid ((Fr.new w (.string (B ls)) (.slice A n cp) (.bool f) (.string (B [])) (.slice none 0 0) (.bool false)).below hb1); have HR1 := Lib.hid hr1; clear hr1 hb1 h1; (try clear b0 b1 b2 r0 r1 r2 p0 p1 p2 q0 q1 q2); obtain ⟨⟨b0, b1, b2⟩, ⟨r0, r1, r2⟩, ⟨p0, p1, p2⟩, ⟨q0, q1, q2⟩⟩ := HF1.out.facts))
  refine bodyPost_ret (v := .agg #[.string (B s2), .slice A2 n2 c2, .bool f2]) (by simp [results, Tryd.results33, go_sem, b0, b1, b2, r0, r1, r2]) rfl ?_
  exact ⟨_, rfl, StR.as (HR2.out.setRes HF2.out _ _ _) (by unfold step; simp only [St.top, topL, e41, Bool.false_eq_true, if_false]; rfl), (HF2.out.setRes _ _ _).be⟩
set_option maxHeartbeats 2000000 in
theorem step_any {c : UInt8} {p0 : Nat} {r : List (UInt8 × Nat)} {f : Bool} (u : UInt8) (n76 : c ≠ 76) (n79 : c ≠ 79) (n69 : c ≠ 69) {p : Nat} {v : Value} {w : World} (h : StR w v ⟨(c, p0) :: r, f⟩) (hlx : (⟨(c, p0) :: r, f⟩ : St).l.length ≤ 1073741824) : Calls Tryd.prog 33 #[v, .int .u8 u.toNat, .int .i64 p] w (StP w (step ⟨(c, p0) :: r, f⟩ u.toNat p)) := by
  have hlen : (lets ((c, p0) :: r)).length = r.length + 1 := by rw [lets_len]; rfl
  have hg1 : ∀ h : r.length < (lets ((c, p0) :: r)).length, (lets ((c, p0) :: r))[r.length] = c := lets_last _ p0 r
  have hll : r.length + 1 ≤ 1073741824 := by have h9 := hlx; simp at h9; omega
  obtain ⟨A, cp, rfl, hc0, hd0, hs, ht⟩ := h.form
  have HR0 := Lib.hid h
  clear h hs ht
  dsimp only at HR0 ⊢
  generalize lets ((c, p0) :: r) = ls at *
  generalize ((c, p0) :: r : List (UInt8 × Nat)).length = n at HR0 hc0 ⊢
  have HST := Lib.hid (show step ⟨(c, p0) :: r, f⟩ u.toNat p = plain ⟨(c, p0) :: r, f⟩ c.toNat u.toNat p from by unfold step; rw [if_neg (show ¬ (⟨(c, p0) :: r, f⟩ : St).top = 76 from n76), if_neg (show ¬ (⟨(c, p0) :: r, f⟩ : St).top = 79 from n79), if_neg (show ¬ (⟨(c, p0) :: r, f⟩ : St).top = 69 from n69)]; rfl)
  have m76 := Pat.not_b (n := 76) rfl n76
  have m79 := Pat.not_b (n := 79) rfl n79
  have m69 := Pat.not_b (n := 69) rfl n69
  go_enter Tryd.func33, Tryd.ntmps33
  go_wp2_with (first
    | (go_at_call 60; (refine (plain_any (HR0.out.below (Fr.new w (.string (B ls)) (.slice A n cp) (.bool f) (.string (B [])) (.slice none 0 0) (.bool false)).be) hlx (by simp) ⟨u, rfl⟩).mono ?_); intro e w1 h1; obtain ⟨s1, A1, n1, c1, f1, rfl, hc1, hd1, hr1, hb1⟩ := h1.out; have HF1 := Lib.hid ((Fr.new w (.string (B ls)) (.slice A n cp) (.bool f) (.string (B [])) (.slice none 0 0) (.bool false)).below hb1); have HR1 := Lib.hid hr1; clear hr1 hb1 h1; (try clear b0 b1 b2 r0 r1 r2 p0 p1 p2 q0 q1 q2); obtain ⟨⟨b0, b1, b2⟩, ⟨r0, r1, r2⟩, ⟨p0, p1, p2⟩, ⟨q0, q1, q2⟩⟩ := HF1.out.facts))
  refine bodyPost_ret (v := .agg #[.string (B s1), .slice A1 n1 c1, .bool f1]) (by simp [results, Tryd.results33, go_sem, b0, b1, b2, r0, r1, r2]) rfl ?_
  exact ⟨_, rfl, StR.as (HR1.out.setRes HF1.out _ _ _) (by rw [HST.out]), (HF1.out.setRes _ _ _).be⟩
theorem refStep_any {x : St} (hw : WF x) (u : UInt8) {p : Nat} {v : Value} {w : World} (h : StR w v x) (hl : x.l.length ≤ 1073741824) : Calls Tryd.prog 33 #[v, .int .u8 u.toNat, .int .i64 p] w (StP w (step x u.toNat p)) := by
  obtain ⟨l, f⟩ := x
  by_cases h76 : (⟨l, f⟩ : St).top = 76
  · obtain ⟨c, p0, d, q0, r, e, _, _, _⟩ := hw.form (by rw [h76]; decide)
    dsimp only at e
    subst e
    have hc : c = 76 := h76
    subst hc
    by_cases e40 : (u.toNat : Int) = 40
    · rw [e40]; exact step_L40 h hl
    by_cases e123 : (u.toNat : Int) = 123
    · rw [e123]; exact step_L123 h hl
    by_cases e36 : (u.toNat : Int) = 36
    · rw [e36]; exact step_L36 h hl
    exact step_Lelse u (by simpa using e40) (by simpa using e123) (by simpa using e36) h hl
  cases l with
  | nil => exact hw.elim
  | cons a r =>
    obtain ⟨c, p0⟩ := a
    have h76' : c ≠ 76 := h76
    by_cases h79 : c = 79
    · subst h79
      by_cases e40 : (u.toNat : Int) = 40
      · rw [e40]; exact step_O40 h hl
      exact step_Oelse u (by simpa using e40) h hl
    by_cases h69 : c = 69
    · subst h69
      by_cases e41 : (u.toNat : Int) = 41
      · rw [e41]; exact step_E41 h hl
      exact step_Eelse u (by simpa using e41) h hl
    exact step_any u h76' h79 h69 h hl
end Go.Proofs.YtadlaaddpobhbaaDoor.Md
