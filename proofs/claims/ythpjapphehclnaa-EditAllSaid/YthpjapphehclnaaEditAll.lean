/-
  The walk of edit.All: edits one behind the other, as a plain function of lists. Conditions: the text at most 2^62 - 1 bytes.
-/
import Derived.Test.YthpjapphehclnaaEdit6
import Derived.Test.YthpjapphehclnaaSl
namespace Go.Proofs.Ythpjapphehclnaa
open Go.ChangeShapes Go.WideShapes Go.ChangeAt Go.RowKit
/-- An edit. -/
structure Ed where
  pos : Int
  del : List UInt8
  ins : List UInt8
def Ed.cells (e : Ed) : List Value := [.int .i64 e.pos, .string (B e.del), .string (B e.ins)]
def Ed.Ok (e : Ed) : Prop := -9223372036854775808 ≤ e.pos ∧ e.pos ≤ 9223372036854775807 ∧ e.del.length ≤ 9223372036854775807 ∧ e.ins.length ≤ 9223372036854775807
/-- All edits, one behind the other. -/
def runAll : List Ed → List UInt8 → Nat → List UInt8 × Nat × Int
  | [], s, k => (s, k, 0)
  | e :: l, s, k => if wrong s e.pos e.del e.ins = 0 then runAll l (does s e.pos e.del e.ins) (k + 1) else ([], k, wrong s e.pos e.del e.ins)
theorem does_le {s d i : List UInt8} {p : Int} (h : wrong s p d i = 0) : (does s p d i).length ≤ 1048576 := by
  obtain ⟨n, rfl, h1, _, h3⟩ := wrong_zero h
  simp [does]
  omega
def AllPost (s : List UInt8) (xs : List Ed) (w : World) (e : Ending) (w' : World) : Prop :=
  e = .returned (.tuple #[.string (B (runAll xs s 0).1), .int .i64 (runAll xs s 0).2.1, .int .i64 (runAll xs s 0).2.2]) ∧ Below w.heap.size w w'
set_option maxHeartbeats 1600000 in
theorem all_any (s : List UInt8) (xs : List Ed) (v : Value) (w : World) (hs : s.length ≤ 4611686018427387903) (hv : Sl w Ed.cells 3 v xs) (hok : ∀ x ∈ xs, x.Ok) :
    Calls Try.prog 20 #[.string (B s), v] w (AllPost s xs w) := by
  obtain ⟨A, c, rfl, hc1, hc2, hA⟩ := hv
  have HA := Lib.hid hA
  have HO := Lib.hid hok
  clear hA hok
  go_enter Try.func20, Try.ntmps20
  go_wp2
  go_loopg [0, 13] (xs.length + 1) (fun g u i w' => ∃ (t : List UInt8) (k : Nat), k ≤ xs.length ∧ g = xs.length + 1 - k ∧ u = .string (B t) ∧ i = .int .i64 k ∧ t.length ≤ 4611686018427387903 ∧ Hid (runAll xs s 0 = runAll (xs.drop k) t k) ∧ ∃ g : GrowOf w, w' = grow w g)
  case atStart => exact ⟨s, 0, by omega, rfl, rfl, rfl, hs, rfl, ⟨⟨w, Below.refl _ _⟩, rfl⟩⟩
  case round =>
    obtain ⟨t, k, hk, hg, rfl, rfl, ht, Hrun, g, rfl⟩ := hrel
    have Hg := Lib.hid hg
    clear hg
    by_cases hlt : k < xs.length
    · obtain ⟨b, off, rfl, hb, hc⟩ := HA.out (by omega)
      haveI : Old w b := ⟨hb⟩
      have hx := List.getElem?_eq_getElem hlt
      have hxm := HO.out _ (List.getElem_mem hlt)
      have hcons : xs.drop k = xs[k] :: xs.drop (k + 1) := List.drop_eq_getElem_cons hlt
      have e0 : w.cell? ⟨b, off + k * 3, none⟩ = some (.int .i64 xs[k].pos) := hc k _ hx 0 _ rfl
      have e1 : w.cell? ⟨b, off + k * 3 + 1, none⟩ = some (.string (B xs[k].del)) := hc k _ hx 1 _ rfl
      have e2 : w.cell? ⟨b, off + k * 3 + 2, none⟩ = some (.string (B xs[k].ins)) := hc k _ hx 2 _ rfl
      have Hrun2 := Hrun.out
      rw [hcons] at Hrun2
      clear hc hx hcons Hrun
      generalize xs[k] = x at *
      obtain ⟨pos, del, ins⟩ := x
      simp only [runAll] at Hrun2
      obtain ⟨_, _, hd, hi⟩ := hxm
      simp only at hd hi e0 e1 e2
      by_cases hz : wrong t pos del ins = 0
      · have HD := Lib.hid fun w => show Calls Try.prog 11 #[.string (B t), Edit pos del ins] w fun e w' => e = .returned (.tuple #[.string (B (does t pos del ins)), .int .i64 0]) ∧ Below w.heap.size w w' from
          (do_any t del ins pos w ht hd hi).mono fun e w' h => ⟨by rw [h.1, if_pos hz, hz], h.2⟩
        rw [if_pos hz] at Hrun2
        have hl := does_le hz
        have Hr := Lib.hid Hrun2
        clear hz Hrun2
        generalize does t pos del ins = t' at *
        go_wp2_with (go_at_call 11; refine (HD.out _).mono ?_; rintro e w' ⟨rfl, hb⟩; obtain ⟨g, rfl⟩ := to_grow hb; clear hb)
        go_roundg (xs.length - k)
        case measure => rw [Hg.out]; omega
        case rel => exact ⟨t', k + 1, by omega, by omega, rfl, by go_num, by omega, Hr.out, to_grow (by (repeat (first | exact Below.refl _ _ | assumption | with_reducible refine below_alloc ?_ _ | with_reducible refine below_grow ?_ _ | with_reducible refine below_drewN ?_ _ | with_reducible refine below_drew ?_ | with_reducible refine below_setCell ?_ (by first | (dsimp only; omega) | (simp; done) | (simp; omega)) _)))⟩
      · have HD := Lib.hid fun w => show Calls Try.prog 11 #[.string (B t), Edit pos del ins] w fun e w' => e = .returned (.tuple #[.string (B []), .int .i64 (wrong t pos del ins)]) ∧ Below w.heap.size w w' from
          (do_any t del ins pos w ht hd hi).mono fun e w' h => ⟨by rw [h.1, if_neg hz], h.2⟩
        rw [if_neg hz] at Hrun2
        have hz' : (wrong t pos del ins != 0) = true := by simpa using hz
        have Hr := Lib.hid Hrun2
        clear hz Hrun2
        generalize wrong t pos del ins = n at *
        go_wp2_with (go_at_call 11; refine (HD.out _).mono ?_; rintro e w' ⟨rfl, hb⟩; obtain ⟨g, rfl⟩ := to_grow hb; clear hb)
        go_ret3
        exact ⟨by rw [Hr.out]; rfl, by (repeat (first | exact Below.refl _ _ | assumption | with_reducible refine below_alloc ?_ _ | with_reducible refine below_grow ?_ _ | with_reducible refine below_drewN ?_ _ | with_reducible refine below_drew ?_ | with_reducible refine below_setCell ?_ (by first | (dsimp only; omega) | (simp; done) | (simp; omega)) _))⟩
    · have hk' : k = xs.length := by omega
      have Hr := Hrun.out
      rw [hk', List.drop_length] at Hr
      have HR := Lib.hid Hr
      have HK := Lib.hid hk'
      clear Hr Hrun hk'
      go_wp2
      go_ret3
      exact ⟨by rw [HR.out]; rfl, by (repeat (first | exact Below.refl _ _ | assumption | with_reducible refine below_alloc ?_ _ | with_reducible refine below_grow ?_ _ | with_reducible refine below_drewN ?_ _ | with_reducible refine below_drew ?_ | with_reducible refine below_setCell ?_ (by first | (dsimp only; omega) | (simp; done) | (simp; omega)) _))⟩
end Go.Proofs.Ythpjapphehclnaa
