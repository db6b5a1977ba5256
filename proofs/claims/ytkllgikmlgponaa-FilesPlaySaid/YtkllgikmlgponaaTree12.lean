/-
  Trees of files, on: the walk of List. Conditions: paths of at most 2^30 bytes; at most 2^20 files; the library's variable MaxLen holds some number.
-/
import Derived.Test.YtkllgikmlgponaaTree11
namespace Go.Proofs.Ytkllgikmlgponaa.Fil
open Go.ChangeShapes Go.WideShapes Go.Deep Go.RowKit Pat
set_option maxRecDepth 100000
/-- What List answers. -/
def liN (x : List Fl) (p : List UInt8) : Int := if pathB p = true then (if kindL x p = 0 then 3 else if kindL x p = 1 then 0 else 11) else 10
def liL (x : List Fl) (p : List UInt8) : List (List UInt8) := if liN x p = 0 then namesR x p else []
def ListP (x : List Fl) (p : List UInt8) (w : World) (e : Ending) (w' : World) : Prop := ∃ v, e = .returned (.tuple #[v, .int .i64 (liN x p)]) ∧ Own w' w.heap.size 1 v (liL x p).length ((liL x p).flatMap strC) ∧ Below w.heap.size w w'
theorem ListP.no {x : List Fl} {p : List UInt8} {w w' : World} {n : Int} (h : liN x p = n) (hn : n ≠ 0) (hb : Below w.heap.size w w') : ListP x p w (.returned (.tuple #[.slice none 0 0, .int .i64 n])) w' := by
  refine ⟨_, by rw [h], ?_, hb⟩
  unfold liL
  rw [if_neg (by rw [h]; exact hn)]
  exact Own.nil _ _ _
set_option maxHeartbeats 3200000 in
theorem list_any (w : World) (b0 tb : Nat) (x : List Fl) (nb : List (List UInt8) → Nat) (mp : List (List UInt8) → Option Nat) (p : List UInt8) (h : TreeAt w b0 tb x nb mp) (hm : MaxL w) (hl : p.length ≤ 1073741824) (hx : x.length ≤ 1048576) :
    Calls Try.prog 40 #[.pointer (some ⟨tb, 0, none⟩), .string (B p)] w (ListP x p w) := by
  have HIP := Lib.hid (isPath_any p w hm hl)
  have hmn : liN x p = if pathB p = true then (if kindL x p = 0 then 3 else if kindL x p = 1 then 0 else 11) else 10 := rfl
  cases hp : pathB p with
  | false =>
    rw [hp] at HIP
    rw [hp, if_neg (by simp)] at hmn
    have HMN := Lib.hid hmn
    clear h hm hp hmn
    go_enter Try.func40, Try.ntmps40
    go_wp2_with (go_at_call 27; refine HIP.out.mono ?_; rintro e w1 ⟨rfl, hb⟩; have HB := Lib.hid hb; clear hb)
    go_ret2
    exact ListP.no HMN.out (by decide) HB.out
  | true =>
    rw [hp] at HIP
    rw [hp, if_pos rfl] at hmn
    have HF := Lib.hid fun W (hW : Below w.heap.size w W) => find_any W b0 tb x nb mp p (h.below hW) (hm.below hW) hp hl
    have hkk := kd_kind h.ok hp
    unfold nodeV at HF
    cases hk : kd x (nms p) with
    | none =>
      rw [hk] at HF hkk
      rw [if_pos (by rw [hkk]; rfl)] at hmn
      have HMN := Lib.hid hmn
      simp only [Option.isSome_none, Bool.false_eq_true, if_false] at HF
      unfold ptrV at HF
      clear h hm hkk hk hp hmn
      go_enter Try.func40, Try.ntmps40
      go_wp2_with (first | (go_at_call 27; refine HIP.out.mono ?_; rintro e w1 ⟨rfl, hb⟩; have HB := Lib.hid hb; clear hb) | (go_at_call 64; refine (HF.out _ HB.out).mono ?_; rintro e w2 ⟨rfl, hb⟩; have HB2 := Lib.hid (below_then HB.out hb); clear hb))
      go_ret2
      exact ListP.no HMN.out (by decide) HB2.out
    | some kk =>
      rw [hk] at HF hkk
      have hpos := kd_pos h.ok hk
      simp only [Option.getD_some] at hkk
      rw [if_neg (by rw [hkk]; omega)] at hmn
      simp only [Option.isSome_some, if_true] at HF
      unfold ptrV at HF
      have HN := Lib.hid fun W (hW : Below w.heap.size w W) => (h.below hW).n (nms p) kk hk
      by_cases q1 : kk = 1
      · subst q1
        rw [if_pos hkk] at hmn
        have HMN := Lib.hid hmn
        have HNN := Lib.hid fun W (hW : Below w.heap.size w W) => names_node W b0 tb x nb mp (nms p) (h.below hW) (by rw [hk]; rfl) (by omega)
        have HEQ := Lib.hid fun ss h1 h2 => namesR_eq (ss := ss) h.ok hp h1 h2
        clear h hm hkk hk hp hmn hpos
        go_enter Try.func40, Try.ntmps40
        go_wp2_with (first
          | (go_at_call 27; refine HIP.out.mono ?_; rintro e w1 ⟨rfl, hb⟩; have HB := Lib.hid hb; clear hb)
          | (go_at_call 64; refine (HF.out _ HB.out).mono ?_; rintro e w2 ⟨rfl, hb⟩; have HB2 := Lib.hid (below_then HB.out hb); obtain ⟨n1, n2, n3, n4, n5, n6⟩ := HN.out _ HB2.out; haveI : Old w2 (nb (nms p)) := ⟨n2⟩; clear hb n1 n3 n5 n6)
          | (go_at_call 65; refine (HNN.out _ HB2.out).mono ?_; rintro e w3 ⟨v3, ss, rfl, ho3, hb3, hr3, hm3⟩; have HO3 := Lib.hid (ho3.mono HB2.out.size : Own w3 w.heap.size 1 v3 _ _); have HB3 := Lib.hid (below_then HB2.out hb3); have HE := Lib.hid (HEQ.out ss hr3 hm3); clear ho3 hb3 hr3 hm3))
        go_ret2
        refine ⟨_, by rw [HMN.out]; rfl, ?_, HB3.out⟩
        unfold liL
        rw [if_pos HMN.out, ← HE.out]
        exact HO3.out
      · rw [if_neg (by rw [hkk]; exact q1)] at hmn
        have HMN := Lib.hid hmn
        have q2 : (kk != 1) = true := by simpa using q1
        clear h hm hkk hk hp hmn hpos q1
        go_enter Try.func40, Try.ntmps40
        go_wp2_with (first
          | (go_at_call 27; refine HIP.out.mono ?_; rintro e w1 ⟨rfl, hb⟩; have HB := Lib.hid hb; clear hb)
          | (go_at_call 64; refine (HF.out _ HB.out).mono ?_; rintro e w2 ⟨rfl, hb⟩; have HB2 := Lib.hid (below_then HB.out hb); obtain ⟨n1, n2, n3, n4, n5, n6⟩ := HN.out _ HB2.out; haveI : Old w2 (nb (nms p)) := ⟨n2⟩; clear hb n1 n3 n5 n6))
        go_ret2
        exact ListP.no HMN.out (by decide) HB2.out
end Go.Proofs.Ytkllgikmlgponaa.Fil
