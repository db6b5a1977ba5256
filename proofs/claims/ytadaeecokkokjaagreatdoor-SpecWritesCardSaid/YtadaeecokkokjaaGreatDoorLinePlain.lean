/-
  What a line of shortest forms splits into (layer 17), plainly. No program in sight.
-/
import Derived.Test.YtadaeecokkokjaaGreatDoorSplitA
import Derived.Test.YtadaeecokkokjaaGreatDoorWordPlain2
set_option linter.unusedSimpArgs false
set_option linter.unusedVariables false
namespace Go.Proofs.YtadaeecokkokjaaGreatDoor.Quo
open Cls Md Mc Pa Li Lx
set_option linter.unusedSimpArgs false
set_option linter.unusedVariables false
/-- A text that is one word, with the value v, whatever blank stands behind. -/
structure GoodW (w v : List UInt8) : Prop where
  head : ∃ c t, w = c :: t ∧ c ≠ 35 ∧ blankB c = false
  fin : endFrom first 0 w = w.length ∧ ∀ r, endFrom first 0 (w ++ 32 :: r) = w.length
  top : closL (run w).l = []
  val : valueL w = (v, true)
/-- Texts with blanks between them. -/
def joinB : List (List UInt8) → List UInt8
  | [] => []
  | [w] => w
  | w :: r => w ++ 32 :: joinB r
theorem joinB_cons (w q : List UInt8) (r : List (List UInt8)) : joinB (w :: q :: r) = w ++ 32 :: joinB (q :: r) := rfl
theorem sub_mid (pre w tl : List UInt8) : subT (pre ++ (w ++ tl)) pre.length (pre.length + w.length) = w := by
  unfold subT
  rw [List.drop_take, List.drop_left, show pre.length + w.length - pre.length = w.length by omega, List.take_left]
theorem wend_mid {pre w tl : List UInt8} (h : endFrom first 0 (w ++ tl) = w.length) : wendN (pre ++ (w ++ tl)) pre.length = pre.length + w.length := by
  unfold wendN
  rw [List.drop_left, h]
theorem GoodW.pos {w v : List UInt8} (h : GoodW w v) : 0 < w.length := by
  obtain ⟨c, t, rfl, _⟩ := h.head
  simp
theorem GoodW.chk {w v pre tl : List UInt8} (h : GoodW w v) (ht : tl = [] ∨ ∃ r, tl = 32 :: r) : chkN (pre ++ (w ++ tl)) pre.length (pre.length + w.length) = 0 := by
  obtain ⟨c, t, rfl, h1, h2⟩ := h.head
  unfold chkN
  rw [sub_mid, if_neg (by simp), if_neg (by simpa using h1), if_neg ?_, if_neg (by rw [h.top]; simp), if_neg (by rw [h.val]; simp)]
  rintro ⟨h3, h4⟩
  rcases ht with rfl | ⟨r, rfl⟩
  · simp at h3
  · refine h4 ?_
    rw [List.getD_eq_getElem?_getD, ← List.append_assoc, List.getElem?_append_right (by simp), List.length_append, Nat.sub_self]
    show clsB 32 = 1
    decide
theorem GoodW.valT {w v pre tl : List UInt8} (h : GoodW w v) : Quo.valT (pre ++ (w ++ tl)) (pre.length, pre.length + w.length) = v := by
  unfold Quo.valT
  rw [sub_mid, h.val]
theorem blank_head0 {c : UInt8} {t : List UInt8} (h : blankB c = false) : spanN blankB (c :: t) = 0 := by
  unfold spanN
  rw [List.takeWhile_cons, h]
  rfl
theorem blank_cons {c : UInt8} {t : List UInt8} (h : blankB c = true) : spanN blankB (c :: t) = spanN blankB t + 1 := by
  unfold spanN
  rw [List.takeWhile_cons, h]
  rfl
theorem joinB_head {w v : List UInt8} (h : GoodW w v) (r : List (List UInt8)) : ∃ c t, joinB (w :: r) = c :: t ∧ blankB c = false := by
  obtain ⟨c, t, rfl, _, h2⟩ := h.head
  cases r with
  | nil => exact ⟨c, t, rfl, h2⟩
  | cons q r => exact ⟨c, _, rfl, h2⟩
theorem split_words : ∀ (ws : List (List UInt8 × List UInt8)) (hg : ∀ p ∈ ws, GoodW p.1 p.2) (pre : List UInt8) (f : Nat) (out : List (List UInt8)), ws.length < f →
    splitW (pre ++ joinB (ws.map (·.1))) (wordsF (pre ++ joinB (ws.map (·.1))) f pre.length) out = (out ++ ws.map (·.2), 0, 0) := by
  intro ws
  induction ws with
  | nil =>
    intro _ pre f out hf
    obtain ⟨f', rfl⟩ : ∃ f', f = f' + 1 := ⟨f - 1, by omega⟩
    rw [wordsF, if_neg (by simp [joinB])]
    simp [splitW]
  | cons p r ih =>
    intro hg pre f out hf
    obtain ⟨w, v⟩ := p
    have hw := hg (w, v) (List.mem_cons_self ..)
    have hpos := hw.pos
    dsimp only at hw hpos
    obtain ⟨f', rfl⟩ : ∃ f', f = f' + 1 := ⟨f - 1, by omega⟩
    simp only [List.length_cons] at hf
    cases r with
    | nil =>
      have e : pre ++ joinB (([(w, v)] : List (List UInt8 × List UInt8)).map (·.1)) = pre ++ (w ++ []) := by simp [joinB]
      have he : wendN (pre ++ (w ++ [])) pre.length = pre.length + w.length := wend_mid (by rw [List.append_nil]; exact hw.fin.1)
      obtain ⟨f2, rfl⟩ : ∃ f2, f' = f2 + 1 := ⟨f' - 1, by simp at hf; omega⟩
      rw [e, wordsF, if_pos (by simp; omega), he, if_neg (by omega), splitW]
      rw [if_neg (by rw [hw.chk (.inl rfl)]; simp), hw.valT, wordsF, if_neg (by simp)]
      simp [splitW]
    | cons q r =>
      obtain ⟨w2, v2⟩ := q
      have hq := hg (w2, v2) (by simp)
      obtain ⟨c2, t2, hj, hb⟩ := joinB_head hq (r.map (·.1))
      have e : pre ++ joinB (((w, v) :: (w2, v2) :: r).map (·.1)) = pre ++ (w ++ 32 :: joinB (((w2, v2) :: r).map (·.1))) := rfl
      have e2 : pre ++ (w ++ 32 :: joinB (((w2, v2) :: r).map (·.1))) = (pre ++ w ++ [32]) ++ joinB (((w2, v2) :: r).map (·.1)) := by simp
      have he : wendN (pre ++ (w ++ 32 :: joinB (((w2, v2) :: r).map (·.1)))) pre.length = pre.length + w.length := wend_mid (hw.fin.2 _)
      have hdr : (pre ++ (w ++ 32 :: joinB (((w2, v2) :: r).map (·.1)))).drop (pre.length + w.length) = 32 :: joinB (((w2, v2) :: r).map (·.1)) := by
        rw [← List.append_assoc, ← List.length_append, List.drop_left]
      have hsp : spanN blankB (32 :: joinB (((w2, v2) :: r).map (·.1))) = 1 := by
        have h0 : spanN blankB (joinB (((w2, v2) :: r).map (·.1))) = 0 := by
          show spanN blankB (joinB (w2 :: r.map (·.1))) = 0
          rw [hj]; exact blank_head0 hb
        rw [blank_cons (by decide), h0]
      rw [e, wordsF, if_pos (by simp; omega), he, if_neg (by omega), hdr, hsp, splitW]
      rw [if_neg (by rw [hw.chk (.inr ⟨_, rfl⟩)]; simp), hw.valT]
      have := ih (fun p hp => hg p (List.mem_cons_of_mem _ hp)) (pre ++ w ++ [32]) f' (out ++ [v]) (by omega)
      have el : (pre ++ w ++ [32]).length = pre.length + w.length + 1 := by simp; omega
      rw [← e2, el] at this
      rw [this]
      simp
theorem len_join : ∀ (ws : List (List UInt8 × List UInt8)) (hg : ∀ p ∈ ws, GoodW p.1 p.2), ws.length ≤ (joinB (ws.map (·.1))).length
  | [], _ => Nat.zero_le _
  | [p], hg => by have := (hg p (by simp)).pos; simp [joinB]; omega
  | p :: q :: r, hg => by
    have := len_join (q :: r) (fun x hx => hg x (List.mem_cons_of_mem _ hx))
    have e : joinB ((p :: q :: r).map (·.1)) = p.1 ++ 32 :: joinB ((q :: r).map (·.1)) := rfl
    rw [e]
    simp only [List.length_append, List.length_cons] at *
    omega
/-- A line of words splits into their values. -/
theorem split_line (ws : List (List UInt8 × List UInt8)) (hg : ∀ p ∈ ws, GoodW p.1 p.2) : splitL (joinB (ws.map (·.1))) = (ws.map (·.2), 0, 0) := by
  have h0 : spanN blankB ((joinB (ws.map (·.1))).drop 0) = 0 := by
    rw [List.drop_zero]
    cases ws with
    | nil => rfl
    | cons p r =>
      obtain ⟨c, t, hj, hb⟩ := joinB_head (hg p (List.mem_cons_self ..)) (r.map (·.1))
      show spanN blankB (joinB (p.1 :: r.map (·.1))) = 0
      rw [hj]; exact blank_head0 hb
  have hl := len_join ws hg
  unfold splitL wordsL
  rw [h0]
  have := split_words ws hg [] ((joinB (ws.map (·.1))).length + 1) [] (by omega)
  simpa using this
theorem stop_blank {y : St} (h : Is y [84]) (i : Nat) (r : List UInt8) : endFrom y i (32 :: r) = i := by
  obtain ⟨q, f, rfl⟩ := is_T h
  rw [endFrom, if_pos (by rfl)]
theorem good_enc (s : List UInt8) (st : Int) : GoodW (encL s st true) s := by
  have hl := leads_enc s st first rfl 0
  constructor
  · obtain ⟨c, t, e, h⟩ := head_enc s st
    refine ⟨c, t, e, ?_⟩
    rcases h with (rfl | rfl) | ⟨rfl, _⟩ | ⟨h, _⟩
    · exact ⟨by decide, by decide⟩
    · exact ⟨by decide, by decide⟩
    · exact ⟨by decide, by decide⟩
    · obtain ⟨_, h35, h32, h9, _⟩ := safe_no c h
      refine ⟨h35, ?_⟩
      have := byte_all (P := fun b => !(safeB b) || !(blankB b)) (by decide +kernel) c
      rw [h] at this
      simpa using this
  · constructor
    · have := endN_enc s st [] (fun y _ i => rfl)
      rw [List.append_nil] at this
      exact this
    · intro r
      exact endN_enc s st (32 :: r) (fun y hy i => stop_blank hy i r)
  · have hr := hl.2
    obtain ⟨q, f, e⟩ := is_T hr
    have : run (encL s st true) = ⟨[(84, q)], f⟩ := e
    rw [this]
    rfl
  · exact value_enc s st true
theorem short_is (s : List UInt8) : ∃ st : Int, shortL s = encL s st true := by
  unfold shortL shorter
  repeat' split
  all_goals first | exact ⟨0, rfl⟩ | exact ⟨4, rfl⟩ | exact ⟨5, rfl⟩
theorem good_short (s : List UInt8) : GoodW (shortL s) s := by
  obtain ⟨st, e⟩ := short_is s
  rw [e]
  exact good_enc s st
theorem short_len (s : List UInt8) : (shortL s).length ≤ 4 * s.length + 4 := by
  obtain ⟨st, e⟩ := short_is s
  rw [e]
  exact Nat.le_trans (enc_len s st true) (by omega)
/-- The line of texts. -/
def lineL (l : List (List UInt8)) : List UInt8 := joinB (l.map shortL)
theorem split_lineL (l : List (List UInt8)) : splitL (lineL l) = (l, 0, 0) := by
  have := split_line (l.map fun s => (shortL s, s)) (fun p hp => by
    obtain ⟨s, _, rfl⟩ := List.mem_map.1 hp
    exact good_short s)
  rw [List.map_map, List.map_map] at this
  unfold lineL
  have e1 : ((fun x : List UInt8 × List UInt8 => x.1) ∘ fun s => (shortL s, s)) = shortL := rfl
  have e2 : ((fun x : List UInt8 × List UInt8 => x.2) ∘ fun s : List UInt8 => (shortL s, s)) = id := rfl
  rw [e1, e2, List.map_id] at this
  exact this
end Go.Proofs.YtadaeecokkokjaaGreatDoor.Quo
