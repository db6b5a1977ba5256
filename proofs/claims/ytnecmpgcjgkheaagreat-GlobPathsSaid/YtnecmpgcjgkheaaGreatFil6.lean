/-
  The walks of layer 18 (files): the reference's Dir and Name, files.Part. Conditions: texts of at most 2^30 bytes; the library's variable MaxLen holds some number.
-/
import Derived.Test.YtnecmpgcjgkheaaGreatFil2
import Derived.Test.YtnecmpgcjgkheaaGreatFil4
import Derived.Lib.LastIndexByte
set_option linter.unusedSimpArgs false
set_option linter.unusedVariables false
namespace Go.Proofs.YtnecmpgcjgkheaaGreat.Fil
open Go.ChangeShapes Go.WideShapes Go.Deep Go.RowKit Pat
set_option maxRecDepth 100000
/-- The last stroke at or below a place, or 0. -/
def downTo (s : List UInt8) : Nat → Nat
  | 0 => 0
  | n + 1 => if s[n + 1]? = some 47 then n + 1 else downTo s n
theorem downTo_spec (s : List UInt8) : ∀ n, (∀ j, downTo s n < j → j ≤ n → s[j]? ≠ some 47) ∧ (0 < downTo s n → s[downTo s n]? = some 47)
  | 0 => ⟨fun j h1 h2 => by simp [downTo] at h1; omega, fun h => by simp [downTo] at h⟩
  | n + 1 => by
    obtain ⟨h1, h2⟩ := downTo_spec s n
    unfold downTo
    split
    · rename_i h
      exact ⟨fun j a b => by omega, fun _ => h⟩
    · rename_i h
      refine ⟨fun j a b => ?_, h2⟩
      by_cases e : j = n + 1
      · rw [e]; exact h
      · exact h1 j a (by omega)
/-- A path's directory. -/
def dirL (s : List UInt8) : List UInt8 := if downTo s (s.length - 1) = 0 then [47] else s.take (downTo s (s.length - 1))
/-- A path's last name. -/
def lastN (s : List UInt8) : List UInt8 := (partsL s).getLastD []
theorem lastN_of {s : List UInt8} {i : Nat} (h : s[i]? = some 47) (hn : ∀ j, i < j → s[j]? ≠ some 47) : lastN s = s.drop (i + 1) := by
  obtain ⟨h1, h2⟩ := List.getElem?_eq_some_iff.1 h
  have e : s = s.take i ++ 47 :: s.drop (i + 1) := by
    conv => lhs; rw [← List.take_append_drop i s, List.drop_eq_getElem_cons h1, h2]
  have h3 : partsL (s.drop (i + 1)) = [s.drop (i + 1)] := partsL_one fun hm => by
    obtain ⟨k, hk⟩ := List.mem_iff_getElem?.1 hm
    rw [List.getElem?_drop] at hk
    exact hn (i + 1 + k) (by omega) hk
  unfold lastN
  conv => lhs; rw [e]
  rw [partsL_snoc, h3]
  simp
set_option maxHeartbeats 1600000 in
theorem refDir_any (s : List UInt8) (w : World) (hs : s.length ≤ 1073741824) : Calls Tryz.prog 38 #[.string (B s)] w fun e w' => e = .returned (.string (B (dirL s))) ∧ w = w' := by
  by_cases n0 : s = []
  · subst n0
    go_enter Tryz.func38, Tryz.ntmps38
    go_wp2_with fail
    go_loopw [3] (fun i w' => i = .int .i64 (-1) ∧ w = w') (fun i _ => 0)
    case atStart => exact ⟨by go_num, rfl⟩
    case round =>
      obtain ⟨rfl, rfl⟩ := hrel
      go_wp2_with fail
      go_ret
      exact ⟨rfl, rfl⟩
  have hl : 0 < s.length := List.length_pos_iff.2 n0
  obtain ⟨m, hm⟩ : ∃ m : Nat, s.length = m + 1 := ⟨s.length - 1, by omega⟩
  have HD := Lib.hid (show dirL s = if downTo s m = 0 then [47] else s.take (downTo s m) by unfold dirL; rw [hm]; rfl)
  have hi : IntKind.i64.wrap ((s.length : Int) - 1) = (m : Int) := by rw [IntWalk.i64_in _ (by omega)]; omega
  have hi2 : (s.length : Int) - 1 = (m : Int) := by omega
  generalize dirL s = res at *
  clear n0
  go_enter Tryz.func38, Tryz.ntmps38
  go_wp2_with fail
  go_loopw [3] (fun i w' => ∃ k : Nat, k ≤ m ∧ i = .int .i64 k ∧ w = w' ∧ Hid (downTo s m = downTo s k)) (fun i _ => (intOf i).toNat)
  case atStart => exact ⟨m, by omega, by first | rfl | (rw [hi2]), rfl, rfl⟩
  case round =>
    obtain ⟨k, hk, rfl, rfl, HT⟩ := hrel
    rcases Nat.eq_zero_or_pos k with hk0 | hk0
    · subst hk0
      have HR : Hid (res = [47]) := by show _ = _; rw [HD.out, HT.out]; rfl
      go_wp2_with fail
      go_ret
      exact ⟨by rw [HR.out]; rfl, rfl⟩
    · have k0 : (0 : Int) ≤ (k : Int) := by omega
      have k1 : (k : Int) < (s.length : Int) := by omega
      have k2 : k < s.length := by omega
      have k4 : (0 : Int) < (k : Int) := by omega
      have k5 : IntKind.i64.wrap ((k : Int) - 1) = (k : Int) - 1 := IntWalk.i64_in _ (by omega)
      have hdn : downTo s k = if s[k]? = some 47 then k else downTo s (k - 1) := by
        obtain ⟨j, rfl⟩ : ∃ j, k = j + 1 := ⟨k - 1, by omega⟩
        rfl
      rw [List.getElem?_eq_getElem k2] at hdn
      by_cases c1 : s[k] = 47
      · have e1 := Pat.is_nb (n := 47) rfl c1
        have HR : Hid (res = s.take k) := by show _ = _; rw [HD.out, HT.out, hdn, c1, if_pos rfl, if_neg (by omega)]
        have d1 := no (show ¬ (k : Int) ≤ 0 by omega)
        have d2 : (k : Int) ≤ (s.length : Int) := by omega
        clear c1 hdn
        go_wp2_with fail
        go_ret
        exact ⟨by rw [HR.out]; rfl, rfl⟩
      · have e1 := Pat.not_nb (n := 47) rfl c1
        have HR := Lib.hid (show downTo s m = downTo s (k - 1) by rw [HT.out, hdn, if_neg (by simpa using c1)])
        clear c1 hdn
        go_wp2_with fail
        go_roundw
        case rel =>
          refine ⟨_, _, _, _, _, _, _, _, _, _, _, ?_, rfl⟩
          exact ⟨k - 1, by omega, by rw [show (k : Int) - 1 = ((k - 1 : Nat) : Int) by omega], by trivial, HR.out⟩
        case measure => simp [intOf]; omega
theorem refName_any (s : List UInt8) (w : World) (hs : s.length ≤ 1073741824) : Calls Tryz.prog 49 #[.string (B s)] w fun e w' => e = .returned (.string (B (lastN s))) ∧ Below w.heap.size w w' := by
  have HPT := Lib.hid fun W => refParts_any s W hs
  have hpl := partsL_len s
  have hne := partsL_ne s
  obtain ⟨n, hn⟩ : ∃ n, (partsL s).length = n + 1 := ⟨(partsL s).length - 1, by have := List.length_pos_iff.2 hne; omega⟩
  obtain ⟨x, hx⟩ := get_some (show n < (partsL s).length by omega)
  have HL : Hid (lastN s = x) := by
    show _ = _
    unfold lastN
    rw [List.getLastD_eq_getLast?, List.getLast?_eq_getElem?, hn, Nat.add_sub_cancel, hx]
    rfl
  generalize lastN s = r at *
  generalize partsL s = ps at *
  clear hne
  have q1 : IntKind.i64.wrap ((ps.length : Int) - 1) = (n : Int) := by rw [IntWalk.i64_in _ (by omega)]; omega
  have q2 : (ps.length : Int) - 1 = (n : Int) := by omega
  have q3 : (n : Int) < (ps.length : Int) := by omega
  have q4 : (0 : Int) ≤ (n : Int) := by omega
  go_enter Tryz.func49, Tryz.ntmps49
  go_wp2_with (go_at_call 28; refine (HPT.out _).mono ?_; rintro e w1 ⟨v1, rfl, ho, hb⟩; have HBW := Lib.hid hb; obtain ⟨g, off, cc, rfl, -⟩ := ho.form' (by omega); obtain ⟨e0, hg⟩ := own_str ho hx; haveI : Old w1 g := ⟨hg⟩; clear ho hb)
  go_ret
  exact ⟨by rw [HL.out]; rfl, HBW.out⟩
theorem last_c (s : List UInt8) (w : World) (hs : s.length ≤ 1073741824) : Calls Tryz.prog 47 #[.string (B s), .int .u8 47] w fun e w' => e = .returned (.int .i64 (Lib.lastIndexByte (B s) 47)) ∧ w = w' :=
  (Tryz.strings_LastIndexByte (B s) 47 (by rw [B_size]; omega) w).mono fun e w' ⟨he, hw⟩ => ⟨he, hw.symm⟩
theorem last_spec {s : List UInt8} (h : s.head? = some 47) : ∃ i : Nat, Lib.lastIndexByte (B s) 47 = i ∧ s[i]? = some 47 ∧ (∀ j, i < j → s[j]? ≠ some 47) ∧ i = downTo s (s.length - 1) := by
  have hb : ∀ j, j < s.length → ((((B s).data[j]!).toNat : Int) = 47 ↔ s[j]? = some 47) := fun j hj => by
    rw [List.getElem?_eq_getElem hj, getElem!_pos (B s).data j (by simpa [B] using hj)]
    have e : (B s).data[j]'(by simpa [B] using hj) = s[j] := by simp [B]
    rw [e]
    constructor
    · intro h
      rw [show s[j] = 47 from UInt8.toNat_inj.1 (by have : ((47 : UInt8).toNat) = 47 := rfl; omega)]
    · intro h
      rw [Option.some.inj h]
      rfl
  have hz : (B s).size = s.length := B_size s
  have h0 : s[0]? = some 47 := by cases s with
    | nil => cases h
    | cons c r => simpa using h
  have hpos : 0 < s.length := (List.getElem?_eq_some_iff.1 h0).1
  rcases Lib.lastIndexByte_spec (B s) 47 with ⟨_, hn⟩ | ⟨i, hi, he, hc, hn⟩
  · exact absurd ((hb 0 hpos).2 h0) (hn 0 (by omega))
  · rw [hz] at hi
    have hi2 := (hb i hi).1 hc
    have hn2 : ∀ j, i < j → s[j]? ≠ some 47 := fun j hj hs => by
      have hjl := (List.getElem?_eq_some_iff.1 hs).1
      exact hn j hj (by omega) ((hb j hjl).2 hs)
    refine ⟨i, he, hi2, hn2, ?_⟩
    obtain ⟨d1, d2⟩ := downTo_spec s (s.length - 1)
    rcases Nat.lt_trichotomy i (downTo s (s.length - 1)) with q | q | q
    · exact absurd (d2 (by omega)) (hn2 _ q)
    · exact q
    · exact absurd hi2 (d1 i q (by omega))
theorem path_head {s : List UInt8} (h : pathB s = true) : s.head? = some 47 := by
  unfold pathB at h
  rw [Bool.or_eq_true, Bool.and_eq_true] at h
  rcases h with h | h
  · rw [beq_iff_eq] at h; rw [h]; rfl
  · exact (beq_iff_eq.1 h.1)
def partV (s : List UInt8) : Value := if pathB s = true then .tuple #[.string (B (dirL s)), .string (B (lastN s))] else .tuple #[.string (B []), .string (B [])]
set_option maxHeartbeats 1600000 in
theorem part_any (s : List UInt8) (w : World) (hm : MaxL w) (hs : s.length ≤ 1073741824) : Calls Tryz.prog 27 #[.string (B s)] w fun e w' => e = .returned (partV s) ∧ Below w.heap.size w w' := by
  have HIP := Lib.hid (isPath_any s w hm hs)
  have HPV := Lib.hid (show partV s = if pathB s = true then .tuple #[.string (B (dirL s)), .string (B (lastN s))] else .tuple #[.string (B []), .string (B [])] from rfl)
  have HLC := Lib.hid fun w => last_c s w hs
  clear hm
  cases hp : pathB s with
  | false =>
    rw [hp] at HIP
    rw [hp, if_neg (by simp)] at HPV
    clear hp
    go_enter Tryz.func27, Tryz.ntmps27
    go_wp2_with (go_at_call 24; refine HIP.out.mono ?_; rintro e w1 ⟨rfl, hb⟩; have HBW := Lib.hid hb; clear hb)
    go_ret2
    exact ⟨by rw [HPV.out]; rfl, HBW.out⟩
  | true =>
    obtain ⟨i, h1, h2, h3, h4⟩ := last_spec (path_head hp)
    have hln := lastN_of h2 h3
    have hil := (List.getElem?_eq_some_iff.1 h2).1
    rw [hp] at HIP
    rw [hp, if_pos rfl] at HPV
    rw [h1] at HLC
    have HDL := Lib.hid (show dirL s = if i = 0 then [47] else s.take i by unfold dirL; rw [← h4])
    have HLN := Lib.hid hln
    have HH := Lib.hid (path_head hp)
    clear hp h1 h2 h3 h4 hln
    rcases Nat.eq_zero_or_pos i with hi | hi
    · subst hi
      have HD2 : Hid (dirL s = s.take 1) := by
        show _ = _
        rw [HDL.out, if_pos rfl]
        have := HH.out
        cases s with
        | nil => cases this
        | cons c r => simp at this; subst this; rfl
      have p1 : (1 : Int) ≤ (s.length : Int) := by omega
      go_enter Tryz.func27, Tryz.ntmps27
      go_wp2_with (first | (go_at_call 24; refine HIP.out.mono ?_; rintro e w1 ⟨rfl, hb⟩; have HBW := Lib.hid hb; clear hb) | (go_at_call 47; refine (HLC.out _).mono ?_; rintro e w' ⟨rfl, rfl⟩))
      (refine wp_region_grow (by kernel_rfl) (by kernel_rfl) ?_; (repeat (go_big_quiet_step (fail))); refine wpQuiet_nil ?_; intro _ hw'; obtain ⟨gq, hw''⟩ := hw'; subst hw'')
      go_wp2
      go_ret2
      exact ⟨by rw [HPV.out, HD2.out, HLN.out, Nat.zero_add, List.drop_one]; rfl, below_grow HBW.out _⟩
    · have HD2 : Hid (dirL s = s.take i) := by show _ = _; rw [HDL.out, if_neg (by omega)]
      have p0 : max (i : Int) 1 = (i : Int) := by omega
      have p1 : (i : Int) ≤ (s.length : Int) := by omega
      have p2 : (0 : Int) ≤ (i : Int) := by omega
      have p3 : (i : Int) + 1 ≤ (s.length : Int) := by omega
      have p4 : IntKind.i64.wrap ((i : Int) + 1) = (i : Int) + 1 := IntWalk.i64_in _ (by omega)
      have p5 : (0 : Int) ≤ (i : Int) + 1 := by omega
      have p6 : ((i : Int) + 1).toNat = i + 1 := by omega
      go_enter Tryz.func27, Tryz.ntmps27
      go_wp2_with (first | (go_at_call 24; refine HIP.out.mono ?_; rintro e w1 ⟨rfl, hb⟩; have HBW := Lib.hid hb; clear hb) | (go_at_call 47; refine (HLC.out _).mono ?_; rintro e w' ⟨rfl, rfl⟩))
      (refine wp_region_grow (by kernel_rfl) (by kernel_rfl) ?_; (repeat (go_big_quiet_step (fail))); refine wpQuiet_nil ?_; intro _ hw'; obtain ⟨gq, hw''⟩ := hw'; subst hw'')
      go_wp2
      go_ret2
      exact ⟨by rw [HPV.out, HD2.out, HLN.out]; rfl, below_grow HBW.out _⟩
end Go.Proofs.YtnecmpgcjgkheaaGreat.Fil
