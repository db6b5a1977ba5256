/-
  Patterns of paths, plainly: what a pattern leads to is there; what a star leads to. No program in sight.
-/
import Derived.Test.YtnecmpgcjgkheaaGlob8
set_option linter.unusedSimpArgs false
set_option linter.unusedVariables false
namespace Go.Proofs.Ytnecmpgcjgkheaa.Glob
open Go.ChangeShapes Go.WideShapes Go.Deep Go.RowKit Fil Pat
theorem clean_self {dir : List UInt8} (hd : pathB dir = true) : cleanL dir [] = dir := by
  rw [clean_step hd (by simp)]
  show txt (nms dir) = dir
  exact (nms_ok hd).1
theorem clean_root {dir more : List UInt8} (hm : more.head? ≠ some 47) : cleanL dir (47 :: more) = cleanL [47] more := by
  have e : namesL dir (47 :: more) = namesL [47] more := by
    unfold namesL
    rw [startL_yes (by rfl), startL_no hm]
    show (partsL (47 :: more)).foldl _ _ = (partsL (47 :: (47 :: more))).foldl _ _
    rw [partsL_hd 47 (47 :: more), if_pos rfl]
    rfl
  unfold cleanL
  rw [e]
/-- A text and a directory in the midst of a walk: what stands behind the text is cleaned from the directory on. -/
structure MidW (x : List Fl) (dir text dirw : List UInt8) : Prop where
  p : pathB dirw = true
  k : text ≠ [] → kindP x dirw ≠ 0
  e : ∀ more, more.head? ≠ some 47 → cleanL dir (text ++ more) = cleanL dirw more
theorem name_47 {x : List Fl} (hx : RowF x) {dir p a : List UInt8} (hp : p ≠ []) (h47 : (47 : UInt8) ∉ p) (h : a ∈ nameG x dir p) : (47 : UInt8) ∉ a ∧ a ≠ [] := by
  unfold nameG at h
  split at h
  · rename_i hl
    obtain rfl := List.mem_singleton.1 h
    exact ⟨fun e => h47 (lit_mem e), lit_ne hp hl⟩
  · have := (li_path hx (List.mem_filter.1 h).1).1
    exact ⟨(name_no this).1, (name_no this).2.1⟩
theorem head_47 {a : List UInt8} (h : (47 : UInt8) ∉ a) : a.head? ≠ some 47 := fun e => by
  cases a with
  | nil => cases e
  | cons c r => injection e with e; exact h (by rw [e]; simp)
theorem walk_real {x : List Fl} (hx : RowF x) (dir : List UInt8) : ∀ (ps : List (List UInt8)) (text dirw : List UInt8), MidW x dir text dirw → (∀ q ∈ ps, (47 : UInt8) ∉ q) → (text = [] → ps.head? ≠ some []) → ∀ a ∈ walkG x ps text dirw, kindP x (cleanL dir a) ≠ 0
  | [], _, _, _, _, _, a, ha => by simp [walkG] at ha
  | p :: ps, text, dirw, h, hq, hh, a, ha => by
    rw [walkG] at ha
    have hq' : ∀ q ∈ ps, (47 : UInt8) ∉ q := fun q hq2 => hq q (by simp [hq2])
    by_cases hp : p = []
    · rw [if_pos hp] at ha
      have ht : text ≠ [] := fun e => hh e (by rw [hp]; rfl)
      by_cases hs : ps = []
      · rw [if_pos hs] at ha
        obtain rfl := List.mem_singleton.1 ha
        have := h.e [] (by simp)
        rw [List.append_nil] at this
        rw [this, clean_self h.p]
        exact h.k ht
      · rw [if_neg hs] at ha
        refine walk_real hx dir ps _ dirw ⟨h.p, fun _ => h.k ht, fun more hm => ?_⟩ hq' (fun e => by simp at e) a ha
        have := h.e [] (by simp)
        rw [List.append_nil, clean_self h.p] at this
        rw [List.append_assoc]
        show cleanL dir (text ++ 47 :: more) = _
        rw [clean_more ht hm, this]
    · rw [if_neg hp] at ha
      obtain ⟨b, hb, ha⟩ := List.mem_flatMap.1 ha
      obtain ⟨hb47, hbn⟩ := name_47 hx hp (hq p (by simp)) hb
      have he := h.e b (head_47 hb47)
      by_cases h0 : kindP x (cleanL dirw b) = 0
      · rw [if_pos h0] at ha; cases ha
      · rw [if_neg h0] at ha
        by_cases hs : ps = []
        · rw [if_pos hs] at ha
          obtain rfl := List.mem_singleton.1 ha
          rw [he]; exact h0
        · rw [if_neg hs] at ha
          split at ha
          · refine walk_real hx dir ps _ _ ⟨(kindP_kd hx h0).1, fun _ => h0, fun more hm => ?_⟩ hq' (fun e => by simp at e) a ha
            rw [List.append_assoc]
            show cleanL dir ((text ++ b) ++ 47 :: more) = _
            rw [clean_more (by simp [hbn]) hm, he]
          · cases ha
/-- Whatever a pattern leads to is there. -/
theorem paths_real {x : List Fl} (hx : RowF x) {dir p a : List UInt8} (h : a ∈ pathsG x dir p) : kindP x (cleanL dir a) ≠ 0 := by
  rw [pathsG_mem] at h
  unfold globG at h
  split at h
  · cases h
  · rename_i hc
    have hp : p ≠ [] := fun e => hc (.inl e)
    have hd : pathB dir = true := by
      cases e : pathB dir with
      | true => rfl
      | false => exact absurd (.inr e) hc
    have hno := partsG_no p
    have hne := partsG_ne p
    cases hps : partsG p with
    | nil => exact absurd hps hne
    | cons q qs =>
      rw [hps] at h hno
      by_cases hq : q = []
      · subst hq
        rw [List.head?_cons, if_pos rfl, walkG, if_pos rfl, if_neg (fun e => by subst e; exact hp (parts_empty hps))] at h
        have hk : kindP x [47] ≠ 0 := by
          rw [show kindP x [47] = 1 from rfl]
          decide
        exact walk_real hx dir qs [47] [47] ⟨by decide +kernel, fun _ => hk, fun more hm => by rw [List.singleton_append]; exact clean_root hm⟩ (fun q hq => hno q (by simp [hq])) (fun e => by cases e) a h
      · rw [List.head?_cons, if_neg (by simpa using hq)] at h
        exact walk_real hx dir (q :: qs) [] dir ⟨hd, fun e => absurd rfl e, fun more _ => rfl⟩ hno (fun _ => by simpa using hq) a h
theorem ends_all {p : List UInt8 → Bool} (h : p [] = true) : ∀ s, ends p s = true
  | [] => by simpa [ends] using h
  | c :: r => by rw [ends, ends_all h r, Bool.or_true]
theorem gm_star (a : List UInt8) : gm (parse [42]) a = true := by
  rw [show parse [42] = [.many] from rfl, gm_many]
  exact ends_all (by rw [gm_nil]; rfl) a
theorem gm_dot (a : List UInt8) : gm (parse [46, 42]) a = (a.head? == some 46) := by
  rw [show parse [46, 42] = [.byte 46, .many] from rfl]
  cases a with
  | nil => rfl
  | cons c r =>
    rw [gm, gm_many, ends_all (by rw [gm_nil]; rfl)]
    · simp [takes, Bool.beq_comm]
    · intro e; cases e
theorem glob_one {x : List Fl} (hx : RowF x) {dir p : List UInt8} (hd : pathB dir = true) (hp : p ≠ []) (hps : partsG p = [p]) (hl : litB (parse p) = false) : pathsG x dir p = (liL x dir).filter (mayG p) := by
  refine rise_eq (pathsG_rise _ _ _) ((li_rise x dir).sublist List.filter_sublist) fun a => ?_
  rw [pathsG_mem]
  unfold globG
  rw [if_neg (by simp [hp, hd]), hps, List.head?_cons, if_neg (by simpa using hp), walkG, if_neg hp]
  have hn : nameG x dir p = (liL x dir).filter (mayG p) := by unfold nameG; rw [if_neg (by simp [hl])]
  rw [hn]
  constructor
  · intro h
    obtain ⟨b, hb, h⟩ := List.mem_flatMap.1 h
    have h0 := (li_path hx (List.mem_filter.1 hb).1).2.2.2.2
    rw [if_neg h0, if_pos rfl] at h
    rw [List.mem_singleton.1 h]
    exact hb
  · intro h
    refine List.mem_flatMap.2 ⟨a, h, ?_⟩
    have h0 := (li_path hx (List.mem_filter.1 h).1).2.2.2.2
    rw [if_neg h0, if_pos rfl]
    simp
theorem paths_star {x : List Fl} (hx : RowF x) {dir : List UInt8} (hd : pathB dir = true) : pathsG x dir [42] = (liL x dir).filter fun a => !(a.head? == some 46) := by
  rw [glob_one hx hd (by simp) rfl (by decide +kernel)]
  refine List.filter_congr fun a _ => ?_
  unfold mayG
  rw [gm_star, Bool.and_true]
  cases a.head? == some 46 <;> rfl
theorem paths_dot {x : List Fl} (hx : RowF x) {dir : List UInt8} (hd : pathB dir = true) : pathsG x dir [46, 42] = (liL x dir).filter fun a => a.head? == some 46 := by
  rw [glob_one hx hd (by simp) rfl (by decide +kernel)]
  refine List.filter_congr fun a _ => ?_
  unfold mayG
  rw [gm_dot]
  cases a.head? == some 46 <;> rfl
/-- What awake tells. -/
theorem aw_glob : pathsG [⟨[47, 97], 1⟩, ⟨[47, 97, 47, 120, 46, 99], 2⟩, ⟨[47, 97, 47, 121, 46, 99], 2⟩, ⟨[47, 97, 47, 122, 46, 104], 2⟩] [47] [97, 47, 42, 46, 99] = [[97, 47, 120, 46, 99], [97, 47, 121, 46, 99]] := by decide +kernel
end Go.Proofs.Ytnecmpgcjgkheaa.Glob
