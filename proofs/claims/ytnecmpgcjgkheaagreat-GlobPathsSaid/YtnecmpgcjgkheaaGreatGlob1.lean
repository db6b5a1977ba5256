/-
  The walk of layer 27 (glob): Parts. Conditions: patterns of at most 2^20 bytes.
-/
import Derived.Test.YtnecmpgcjgkheaaGreatPat4
import Derived.Test.YtnecmpgcjgkheaaGreatPat22
import Derived.Test.YtnecmpgcjgkheaaGreatPat19
import Derived.Lib.SlicesCompact
import Derived.Test.YtnecmpgcjgkheaaGreatFil4
set_option linter.unusedSimpArgs false
set_option linter.unusedVariables false
namespace Go.Proofs.YtnecmpgcjgkheaaGreat.Glob
open Go.ChangeShapes Go.WideShapes Go.Deep Go.RowKit Fil Pat
/-- The components of a pattern. -/
def partsG : List UInt8 → List (List UInt8)
  | [] => [[]]
  | [c] => if c = 47 then [[], []] else [[c]]
  | c :: d :: r => if c = 92 then (if d = 47 then [] :: partsG r else pre [c, d] (partsG r)) else if c = 47 then [] :: partsG (d :: r) else pre [c] (partsG (d :: r))
theorem partsG_ne : ∀ s, partsG s ≠ []
  | [] => by simp [partsG]
  | [c] => by unfold partsG; split <;> simp
  | c :: d :: r => by
    have h1 := partsG_ne r
    have h2 := partsG_ne (d :: r)
    unfold partsG
    split
    · split
      · simp
      · intro e; rw [← List.length_eq_zero_iff, pre_len] at e; exact h1 (List.length_eq_zero_iff.1 e)
    · split
      · simp
      · intro e; rw [← List.length_eq_zero_iff, pre_len] at e; exact h2 (List.length_eq_zero_iff.1 e)
theorem pre_pre (a b : List UInt8) (ps : List (List UInt8)) : pre a (pre b ps) = pre (a ++ b) ps := by cases ps <;> simp [pre]
/-- The four steps of the walk over a pattern. -/
theorem pg_esc {p h : List UInt8} {i : Nat} {d : UInt8} (h1 : p[i]? = some 92) (h2 : p[i + 1]? = some d) (h3 : d ≠ 47) : pre h (partsG (p.drop i)) = pre (h ++ [92, d]) (partsG (p.drop (i + 2))) := by
  obtain ⟨l1, e1⟩ := List.getElem?_eq_some_iff.1 h1
  obtain ⟨l2, e2⟩ := List.getElem?_eq_some_iff.1 h2
  rw [List.drop_eq_getElem_cons l1, List.drop_eq_getElem_cons l2, e1, e2, partsG, if_pos rfl, if_neg h3, pre_pre]
theorem pg_esc47 {p h : List UInt8} {i : Nat} (h1 : p[i]? = some 92) (h2 : p[i + 1]? = some 47) : pre h (partsG (p.drop i)) = h :: pre [] (partsG (p.drop (i + 2))) := by
  obtain ⟨l1, e1⟩ := List.getElem?_eq_some_iff.1 h1
  obtain ⟨l2, e2⟩ := List.getElem?_eq_some_iff.1 h2
  rw [List.drop_eq_getElem_cons l1, List.drop_eq_getElem_cons l2, e1, e2, partsG, if_pos rfl, if_pos rfl, pre_nil]
  simp [pre]
theorem pg_47 {p h : List UInt8} {i : Nat} (h1 : p[i]? = some 47) : pre h (partsG (p.drop i)) = h :: pre [] (partsG (p.drop (i + 1))) := by
  obtain ⟨l1, e1⟩ := List.getElem?_eq_some_iff.1 h1
  rw [List.drop_eq_getElem_cons l1, e1, pre_nil]
  cases hd : p.drop (i + 1) with
  | nil => simp [partsG, pre]
  | cons d r => rw [partsG, if_neg (by decide), if_pos rfl]; simp [pre]
theorem pg_byte {p h : List UInt8} {i : Nat} {c : UInt8} (h1 : p[i]? = some c) (h2 : c ≠ 47) (h3 : c = 92 → p[i + 1]? = none) : pre h (partsG (p.drop i)) = pre (h ++ [c]) (partsG (p.drop (i + 1))) := by
  obtain ⟨l1, e1⟩ := List.getElem?_eq_some_iff.1 h1
  rw [List.drop_eq_getElem_cons l1, e1]
  cases hd : p.drop (i + 1) with
  | nil => rw [show partsG [c] = [[c]] by unfold partsG; rw [if_neg h2]]; simp [pre, partsG]
  | cons d r =>
    have h4 : c ≠ 92 := fun e => by
      have := h3 e
      rw [List.getElem?_eq_none_iff] at this
      rw [List.drop_eq_nil_of_le this] at hd
      cases hd
    rw [partsG, if_neg h4, if_neg h2, pre_pre]
theorem pg_end {p h : List UInt8} {i : Nat} (hi : p.length ≤ i) : pre h (partsG (p.drop i)) = [h] := by
  rw [List.drop_eq_nil_of_le hi]; simp [partsG, pre]
theorem partsG_len : ∀ s, (partsG s).length ≤ s.length + 1 ∧ ∀ q ∈ partsG s, q.length ≤ s.length
  | [] => by simp [partsG]
  | [c] => by unfold partsG; split <;> simp
  | c :: d :: r => by
    obtain ⟨h1, h2⟩ := partsG_len r
    obtain ⟨h3, h4⟩ := partsG_len (d :: r)
    have hp : ∀ (w : List UInt8) (ps : List (List UInt8)) (n : Nat), (∀ q ∈ ps, q.length ≤ n) → ∀ q ∈ pre w ps, q.length ≤ w.length + n := by
      intro w ps n hh q hq
      cases ps with
      | nil => cases hq
      | cons a b =>
        simp only [pre, List.mem_cons] at hq
        rcases hq with rfl | hq
        · rw [List.length_append]; have := hh a (by simp); omega
        · have := hh q (by simp [hq]); omega
    unfold partsG
    split
    · split
      · refine ⟨by simp; omega, fun q hq => ?_⟩
        rcases List.mem_cons.1 hq with rfl | hq
        · simp
        · have := h2 q hq; simp; omega
      · refine ⟨by rw [pre_len]; simp; omega, fun q hq => ?_⟩
        have := hp _ _ _ h2 q hq
        simp at this ⊢; omega
    · split
      · refine ⟨by simp at h3 ⊢; omega, fun q hq => ?_⟩
        rcases List.mem_cons.1 hq with rfl | hq
        · simp
        · have := h4 q hq; simp at this ⊢; omega
      · refine ⟨by rw [pre_len]; simp at h3 ⊢; omega, fun q hq => ?_⟩
        have := hp _ _ _ h4 q hq
        simp at this ⊢; omega
/-- The kind of a text; 0: there is none, or it is no path. -/
def kindP (x : List Fl) (p : List UInt8) : Int := if pathB p = true then kindL x p else 0
/-- May a name be told by a component? -/
def mayG (part a : List UInt8) : Bool := (!(a.head? == some 46) || part.head? == some 46) && gm (parse part) a
/-- The names to which a component leads from a directory. -/
def nameG (x : List Fl) (dir part : List UInt8) : List (List UInt8) := if litB (parse part) = true then [litT (parse part)] else (liL x dir).filter (mayG part)
/-- What components lead to, from a text and a directory on. -/
def walkG (x : List Fl) : List (List UInt8) → List UInt8 → List UInt8 → List (List UInt8)
  | [], _, _ => []
  | p :: ps, text, dir => if p = [] then (if ps = [] then [text] else walkG x ps (text ++ [47]) dir) else
    (nameG x dir p).flatMap fun a => if kindP x (cleanL dir a) = 0 then [] else if ps = [] then [text ++ a] else if kindP x (cleanL dir a) = 1 then walkG x ps (text ++ a ++ [47]) (cleanL dir a) else []
def globG (x : List Fl) (dir p : List UInt8) : List (List UInt8) := if p = [] ∨ pathB dir = false then [] else walkG x (partsG p) [] (if (partsG p).head? = some [] then [47] else dir)
/-- All of that, rising. -/
def pathsG (x : List Fl) (dir p : List UInt8) : List (List UInt8) := (globG x dir p).foldl putL []
end Go.Proofs.YtnecmpgcjgkheaaGreat.Glob
namespace Go.Proofs.YtnecmpgcjgkheaaGreat.Glob
open Go.ChangeShapes Go.WideShapes Go.Deep Go.RowKit Fil Pat
set_option maxRecDepth 100000
/-- Two rows of one's own: components, and the bytes of the next one. -/
structure Two (W : World) (b0 : Nat) (ov hv : Value) (xs : List (List UInt8)) (t : List UInt8) : Prop where
  o : Own W b0 1 ov xs.length (xs.flatMap strC)
  h : Own W b0 1 hv t.length (t.flatMap bytC)
  d : ∀ k, ov.ownBlock = some k → hv.ownBlock ≠ some k
section
variable {W W' : World} {b0 : Nat} {ov hv v' : Value} {xs : List (List UInt8)} {t : List UInt8}
theorem Two.below (h : Two W b0 ov hv xs t) (hb : Below W.heap.size W W') : Two W' b0 ov hv xs t := ⟨h.o.below hb, h.h.below hb, h.d⟩
theorem Two.appO (u : List UInt8) (h : Two W b0 ov hv xs t) (ho : Own W' b0 1 v' (xs.length + 1) (xs.flatMap strC ++ strC u)) (hk : Keeps (fun k => ov.ownBlock = some k ∧ b0 ≤ k) W W') : Two W' b0 v' (.slice none 0 0) (xs ++ [u]) [] :=
  ⟨by simpa [List.flatMap_append] using ho, Own.nil _ _ _, fun k _ e => by cases e⟩
theorem Two.appH (u : List UInt8) (h : Two W b0 ov hv xs t) (ho : Own W' b0 1 v' (t.length + u.length) (t.flatMap bytC ++ u.flatMap bytC)) (hk : Keeps (fun k => hv.ownBlock = some k ∧ b0 ≤ k) W W')
    (hat : v'.ownBlock = hv.ownBlock ∨ ∀ k, v'.ownBlock = some k → W.heap.size ≤ k) : Two W' b0 ov v' xs (t ++ u) :=
  ⟨h.o.keeps hk (fun k e _ hf => h.d k e hf.1), by simpa [List.flatMap_append] using ho, fun k e1 e2 => by
    rcases hat with e | e
    · exact h.d k e1 (e ▸ e2)
    · have := e k e2; have := h.o.lt k e1; omega⟩
end
set_option maxHeartbeats 6400000 in
theorem globParts_any (p : List UInt8) (w : World) (hp : p.length ≤ 1048576) : Calls Tryz.prog 23 #[.string (B p)] w (StrP (partsG p) w) := by
  obtain ⟨i0, hi0, hz00, hz01, hz02⟩ := info_parts info_str
  obtain ⟨i1, hi1, hz10, hz11, hz12⟩ := info_parts info_byt
  go_enter Tryz.func23, Tryz.ntmps23
  go_wp2
  go_step3
  go_wp2
  go_step3
  go_wp2
  go_loopw [3, 4, 5] (fun o h i w' => ∃ (ov hv : Value) (xs : List (List UInt8)) (t : List UInt8) (k : Nat), ov = o ∧ hv = h ∧ i = .int .i64 k ∧ k ≤ p.length ∧ xs.length ≤ k ∧ t.length ≤ k ∧ Hid (partsG p = xs ++ pre t (partsG (p.drop k))) ∧ Hid (Two w' w.heap.size ov hv xs t) ∧ Hid (Below w.heap.size w w')) (fun _ _ i _ => p.length - (intOf i).toNat)
  case atStart => exact ⟨_, _, [], [], 0, rfl, rfl, rfl, by omega, by simp, by simp, by show _ = _; rw [pre_nil]; rfl, ⟨Own.nil _ _ _, Own.nil _ _ _, fun k e => by cases e⟩, Below.refl _ _⟩
  case round =>
    obtain ⟨ov, hv, xs, t, k, rfl, rfl, rfl, hk, hxl, htl, HP, HT, HB⟩ := hrel
    have hbs := HB.out.size
    by_cases hlt : k < p.length
    rotate_left
    · have HE := Lib.hid (show partsG p = xs ++ [t] by rw [HP.out, pg_end (by omega)])
      have d0 := no hlt
      have hcv := conv_bytes HT.out.h rfl
      clear hlt
      go_wp2_with ((at_builtin; refine wpList_append_src _ rfl (.tmp 50) (.tmp 53) _ rfl w.heap.size 9 i0 _ 1 16 Tryz.underlying26 hi0 hz00 hz01 hz02 rfl (by decide) _ xs.length (xs.flatMap strC) rfl (HT.out.o.below (by (repeat (first | exact Below.refl _ _ | assumption | with_reducible refine below_alloc ?_ _ | with_reducible refine below_grow ?_ _ | with_reducible refine below_drewN ?_ _ | with_reducible refine below_drew ?_ | with_reducible refine below_setCell ?_ (by first | (dsimp only; omega) | (simp; done) | (simp; omega)) _)))) _ 1 (strC t) rfl rfl (Src.one _ _ _ _) (by simp [strC, Value.oneCell']) (by unfold maxLen; omega) (by omega) (by first | (simp; done) | omega | (simp; omega)) ?_; intro v2 w2 hown2 hg2 hat2 hty2; have HTY2 := Lib.hid hty2; clear hty2); have HO2 := Lib.hid hown2; have HB2 := Lib.hid (below_keeps (below_then HB.out (below_alloc (Below.refl _ _) _)) hg2 (fun k hk => hk.2)); clear hown2 hg2 hat2)
      go_ret
      exact ⟨v2, rfl, by rw [HE.out]; simpa [List.flatMap_append] using HO2.out, HB2.out⟩
    have k0 : (0 : Int) ≤ (k : Int) := by omega
    have k1 : (k : Int) < (p.length : Int) := by omega
    have HG := Lib.hid (List.getElem?_eq_getElem hlt)
    by_cases c1 : p[k] = 92 ∧ k + 1 < p.length
    · obtain ⟨c1, hl2⟩ := c1
      have e1 := is_b (n := 92) rfl c1
      have k2 : (0 : Int) ≤ (k : Int) + 1 := by omega
      have k3 : (k : Int) + 1 < (p.length : Int) := by omega
      have HG2 := Lib.hid (List.getElem?_eq_getElem hl2)
      have HC1 := Lib.hid c1
      clear c1
      by_cases c2 : p[k + 1] = 47
      · have e2 := is_b (n := 47) rfl c2
        have e3 := not_b (n := 92) (k := 92) rfl (show ¬ p[k + 1] = 92 by rw [c2]; decide)
        have HP2 := Lib.hid (show partsG p = (xs ++ [t]) ++ pre [] (partsG (p.drop (k + 1 + 1))) by rw [HP.out, pg_esc47 (HC1.out ▸ HG.out) (c2 ▸ HG2.out)]; simp)
        have hcv := conv_bytes HT.out.h rfl
        clear c2
        go_wp2_with ((at_builtin; refine wpList_append_src _ rfl (.tmp 39) (.tmp 42) _ rfl w.heap.size 9 i0 _ 1 16 Tryz.underlying26 hi0 hz00 hz01 hz02 rfl (by decide) _ xs.length (xs.flatMap strC) rfl (HT.out.o.below (by (repeat (first | exact Below.refl _ _ | assumption | with_reducible refine below_alloc ?_ _ | with_reducible refine below_grow ?_ _ | with_reducible refine below_drewN ?_ _ | with_reducible refine below_drew ?_ | with_reducible refine below_setCell ?_ (by first | (dsimp only; omega) | (simp; done) | (simp; omega)) _)))) _ 1 (strC t) rfl rfl (Src.one _ _ _ _) (by simp [strC, Value.oneCell']) (by unfold maxLen; omega) (by omega) (by first | (simp; done) | omega | (simp; omega)) ?_; intro v2 w2 hown2 hg2 hat2 hty2; have HTY2 := Lib.hid hty2; clear hty2); have HT2 := Lib.hid ((HT.out.below (below_alloc (Below.refl _ _) _)).appO t hown2 hg2); have HB2 := Lib.hid (below_keeps (below_then HB.out (below_alloc (Below.refl _ _) _)) hg2 (fun k hk => hk.2)); clear hown2 hg2 hat2)
        go_roundw
        case rel => exact ⟨v2, _, xs ++ [t], [], k + 1 + 1, rfl, rfl, by go_num, by omega, by simp; omega, by simp, HP2.out, HT2.out, HB2.out⟩
        case measure => simp [intOf]; omega
      · have e2 := not_b (n := 47) rfl c2
        have HP2 := Lib.hid (show partsG p = xs ++ pre (t ++ [92, p[k + 1]]) (partsG (p.drop (k + 1 + 1))) by rw [HP.out, pg_esc (HC1.out ▸ HG.out) HG2.out c2])
        clear c2
        go_wp2_with ((at_builtin; refine wpList_append_src _ rfl (.tmp 29) (.tmp 33) _ rfl w.heap.size 5 i1 _ 1 1 Tryz.underlying76 hi1 hz10 hz11 hz12 rfl (by decide) _ t.length (t.flatMap bytC) rfl (HT.out.h.below (by (repeat (first | exact Below.refl _ _ | assumption | with_reducible refine below_alloc ?_ _ | with_reducible refine below_grow ?_ _ | with_reducible refine below_drewN ?_ _ | with_reducible refine below_drew ?_ | with_reducible refine below_setCell ?_ (by first | (dsimp only; omega) | (simp; done) | (simp; omega)) _)))) _ 2 [.int .u8 92, .int .u8 p[k + 1].toNat] rfl rfl (Src.one _ _ _ _) (by simp [Value.oneCell']) (by unfold maxLen; omega) (by omega) (by first | (simp; done) | omega | (simp; omega)) ?_; intro v2 w2 hown2 hg2 hat2 hty2; have HTY2 := Lib.hid hty2; clear hty2); have HT2 := Lib.hid ((HT.out.below (below_alloc (Below.refl _ _) _)).appH (W' := w2) [92, p[k + 1]] hown2 hg2 hat2); have HB2 := Lib.hid (below_keeps (below_then HB.out (below_alloc (Below.refl _ _) _)) hg2 (fun k hk => hk.2)); clear hown2 hg2 hat2)
        go_roundw
        case rel => exact ⟨ov, v2, xs, t ++ [92, p[k + 1]], k + 1 + 1, rfl, rfl, by go_num, by omega, by omega, by simp; omega, HP2.out, HT2.out, HB2.out⟩
        case measure => simp [intOf]; omega
    · by_cases c2 : p[k] = 47
      · have e1 := not_b (n := 92) (k := 92) rfl (show ¬ p[k] = 92 by rw [c2]; decide)
        have e2 := is_b (n := 47) rfl c2
        have HP2 := Lib.hid (show partsG p = (xs ++ [t]) ++ pre [] (partsG (p.drop (k + 1))) by rw [HP.out, pg_47 (c2 ▸ HG.out)]; simp)
        have hcv := conv_bytes HT.out.h rfl
        clear c1 c2
        go_wp2_with ((at_builtin; refine wpList_append_src _ rfl (.tmp 39) (.tmp 42) _ rfl w.heap.size 9 i0 _ 1 16 Tryz.underlying26 hi0 hz00 hz01 hz02 rfl (by decide) _ xs.length (xs.flatMap strC) rfl (HT.out.o.below (by (repeat (first | exact Below.refl _ _ | assumption | with_reducible refine below_alloc ?_ _ | with_reducible refine below_grow ?_ _ | with_reducible refine below_drewN ?_ _ | with_reducible refine below_drew ?_ | with_reducible refine below_setCell ?_ (by first | (dsimp only; omega) | (simp; done) | (simp; omega)) _)))) _ 1 (strC t) rfl rfl (Src.one _ _ _ _) (by simp [strC, Value.oneCell']) (by unfold maxLen; omega) (by omega) (by first | (simp; done) | omega | (simp; omega)) ?_; intro v2 w2 hown2 hg2 hat2 hty2; have HTY2 := Lib.hid hty2; clear hty2); have HT2 := Lib.hid ((HT.out.below (below_alloc (Below.refl _ _) _)).appO t hown2 hg2); have HB2 := Lib.hid (below_keeps (below_then HB.out (below_alloc (Below.refl _ _) _)) hg2 (fun k hk => hk.2)); clear hown2 hg2 hat2)
        go_roundw
        case rel => exact ⟨v2, _, xs ++ [t], [], k + 1, rfl, rfl, by go_num, by omega, by simp; omega, by simp, HP2.out, HT2.out, HB2.out⟩
        case measure => simp [intOf]; omega
      · have e2 := not_b (n := 47) rfl c2
        have HP2 := Lib.hid (show partsG p = xs ++ pre (t ++ [p[k]]) (partsG (p.drop (k + 1))) by rw [HP.out, pg_byte HG.out c2 (fun e => List.getElem?_eq_none_iff.2 (Nat.le_of_not_lt fun q => c1 ⟨e, q⟩))])
        by_cases c3 : p[k] = 92
        · have e1 := is_b (n := 92) rfl c3
          have d1 := no (show ¬ (k : Int) + 1 < (p.length : Int) by have : p.length ≤ k + 1 := Nat.le_of_not_lt fun q => c1 ⟨c3, q⟩; omega)
          clear c1 c2 c3
          go_wp2_with ((at_builtin; refine wpList_append_src _ rfl (.tmp 44) (.tmp 48) _ rfl w.heap.size 5 i1 _ 1 1 Tryz.underlying76 hi1 hz10 hz11 hz12 rfl (by decide) _ t.length (t.flatMap bytC) rfl (HT.out.h.below (by (repeat (first | exact Below.refl _ _ | assumption | with_reducible refine below_alloc ?_ _ | with_reducible refine below_grow ?_ _ | with_reducible refine below_drewN ?_ _ | with_reducible refine below_drew ?_ | with_reducible refine below_setCell ?_ (by first | (dsimp only; omega) | (simp; done) | (simp; omega)) _)))) _ 1 (bytC p[k]) rfl rfl (Src.one _ _ _ _) (by simp [bytC, Value.oneCell']) (by unfold maxLen; omega) (by omega) (by first | (simp; done) | omega | (simp; omega)) ?_; intro v2 w2 hown2 hg2 hat2 hty2; have HTY2 := Lib.hid hty2; clear hty2); have HT2 := Lib.hid ((HT.out.below (below_alloc (Below.refl _ _) _)).appH (W' := w2) [p[k]] hown2 hg2 hat2); have HB2 := Lib.hid (below_keeps (below_then HB.out (below_alloc (Below.refl _ _) _)) hg2 (fun k hk => hk.2)); clear hown2 hg2 hat2)
          go_roundw
          case rel => exact ⟨ov, v2, xs, t ++ [p[k]], k + 1, rfl, rfl, by go_num, by omega, by omega, by simp; omega, HP2.out, HT2.out, HB2.out⟩
          case measure => simp [intOf]; omega
        · have e1 := not_b (n := 92) rfl c3
          clear c1 c2 c3
          go_wp2_with ((at_builtin; refine wpList_append_src _ rfl (.tmp 44) (.tmp 48) _ rfl w.heap.size 5 i1 _ 1 1 Tryz.underlying76 hi1 hz10 hz11 hz12 rfl (by decide) _ t.length (t.flatMap bytC) rfl (HT.out.h.below (by (repeat (first | exact Below.refl _ _ | assumption | with_reducible refine below_alloc ?_ _ | with_reducible refine below_grow ?_ _ | with_reducible refine below_drewN ?_ _ | with_reducible refine below_drew ?_ | with_reducible refine below_setCell ?_ (by first | (dsimp only; omega) | (simp; done) | (simp; omega)) _)))) _ 1 (bytC p[k]) rfl rfl (Src.one _ _ _ _) (by simp [bytC, Value.oneCell']) (by unfold maxLen; omega) (by omega) (by first | (simp; done) | omega | (simp; omega)) ?_; intro v2 w2 hown2 hg2 hat2 hty2; have HTY2 := Lib.hid hty2; clear hty2); have HT2 := Lib.hid ((HT.out.below (below_alloc (Below.refl _ _) _)).appH (W' := w2) [p[k]] hown2 hg2 hat2); have HB2 := Lib.hid (below_keeps (below_then HB.out (below_alloc (Below.refl _ _) _)) hg2 (fun k hk => hk.2)); clear hown2 hg2 hat2)
          go_roundw
          case rel => exact ⟨ov, v2, xs, t ++ [p[k]], k + 1, rfl, rfl, by go_num, by omega, by omega, by simp; omega, HP2.out, HT2.out, HB2.out⟩
          case measure => simp [intOf]; omega
end Go.Proofs.YtnecmpgcjgkheaaGreat.Glob
