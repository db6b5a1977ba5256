/-
  The walks of layer 1 (edit) and of its reference: what each Go function returns, as a plain function of lists of bytes. Conditions: the texts' lengths are at most 2^63 - 1.
-/
import Derived.Test.YthpjapphehclnaaProg
import Derived.Test.YthpjapphehclnaaBase
import Derived.Test.YthpjapphehclnaaEditPlain
namespace Go.Proofs.Ythpjapphehclnaa
open Go.RowKit
def DiffPost (a b : List UInt8) (w : World) (e : Ending) (w' : World) : Prop :=
   e = .returned (.agg #[.int .i64 (cp a b), .string (B ((a.drop (cp a b)).take (a.length - cp a b - cs (a.drop (cp a b)) (b.drop (cp a b))))), .string (B ((b.drop (cp a b)).take (b.length - cp a b - cs (a.drop (cp a b)) (b.drop (cp a b)))))]) ∧ Below w.heap.size w w'
set_option maxHeartbeats 800000 in
theorem diff_any (a b : List UInt8) (w : World) (ha : a.length ≤ 9223372036854775807) (hb : b.length ≤ 9223372036854775807) :
    Calls Try.prog 10 #[.string (B a), .string (B b)] w (DiffPost a b w) := by
  go_enter Try.func10, Try.ntmps10
  go_upto_block 0 with (fail)
  go_step3
  go_upto_block 0 with (fail)
  go_cut [5] (fun n w' => n = .int .i64 (cp a b) ∧ Drew (w.alloc (.cells #[.int .i64 0, .string (B []), .string (B [])] 24)) w')
  case first =>
    go_wp2
    go_loopw [5] (fun n w' => ∃ k : Nat, k ≤ cp a b ∧ n = .int .i64 k ∧ Drew (w.alloc (.cells #[.int .i64 0, .string (B []), .string (B [])] 24)) w') (fun n _ => a.length - (intOf n).toNat)
    case atStart => exact ⟨0, by omega, rfl, .refl _⟩
    case round =>
      obtain ⟨k, hk, rfl, m, rfl⟩ := hrel
      have hl := cp_le a b
      have Hgo := Lib.hid fun h1 h2 => cp_step a b k h1 h2 hk
      have Hfull := Lib.hid (cp_full a b k hk)
      by_cases h1 : k < a.length
      · by_cases h2 : k < b.length
        · by_cases h3 : a[k] = b[k]
          · have := (Hgo.out h1 h2).1 h3
            go_wp2
            go_quiet (fail)
            go_wp2
            go_roundw
            case rel => exact ⟨k + 1, this, by go_num, m + nq, rfl⟩
            case measure => simp [intOf]; omega
          · have h3' := byte_ne h3
            go_wp2
            go_quiet (fail)
            go_wp2
            go_meet
            exact ⟨by rw [(Hgo.out h1 h2).2 h3], Drew.more ⟨m, rfl⟩ _⟩
        · go_wp2
          go_quiet (fail)
          go_wp2
          go_meet
          exact ⟨by rw [Hfull.out (by omega)], Drew.more ⟨m, rfl⟩ _⟩
      · go_wp2
        go_quiet (fail)
        go_wp2
        go_meet
        exact ⟨by rw [Hfull.out (by omega)], Drew.more ⟨m, rfl⟩ _⟩
  case rest =>
    obtain ⟨rfl, m, rfl⟩ := hcut
    have hl := cp_le a b
    have hl1 := hl.1
    have hl2 := hl.2
    clear hl
    go_wp2
    go_quiet (fail)
    go_wp2
    go_step3
    obtain ⟨x, hx⟩ : ∃ x, a.drop (cp a b) = x := ⟨_, rfl⟩
    obtain ⟨y, hy⟩ : ∃ y, b.drop (cp a b) = y := ⟨_, rfl⟩
    have hxl : x.length = a.length - cp a b := by rw [← hx]; simp
    have hyl : y.length = b.length - cp a b := by rw [← hy]; simp
    obtain ⟨n, hn⟩ : ∃ n, cp a b = n := ⟨_, rfl⟩
    have bx : x.length ≤ 9223372036854775807 := by omega
    have by' : y.length ≤ 9223372036854775807 := by omega
    rw [hx, hy, hn]
    have HH := Lib.hid (And.intro hn (And.intro hx (And.intro hy (And.intro hxl hyl))))
    clear hxl hyl hl1 hl2 hn hx hy
    go_upto_block 2 with (fail)
    go_cut [6, 7] (fun p q w' => p = .string (B (x.take (x.length - cs x y))) ∧ q = .string (B (y.take (y.length - cs x y))) ∧ Drew (w.alloc (.cells #[.int .i64 0, .string (B []), .string (B [])] 24)) w')
    case first =>
      go_wp2
      go_loopg [6, 7] (x.length) (fun g u v w' => ∃ p q s, x = p ++ s ∧ y = q ++ s ∧ g = p.length ∧ u = .string (B p) ∧ v = .string (B q) ∧ Drew (w.alloc (.cells #[.int .i64 0, .string (B []), .string (B [])] 24)) w')
      case atStart => exact ⟨x, y, [], by simp, by simp, rfl, rfl, rfl, Drew.more ⟨m, rfl⟩ _⟩
      case round =>
        obtain ⟨p, q, s, h1, h2, hg, rfl, rfl, m, rfl⟩ := hrel
        have Hg := Lib.hid hg
        clear hg
        have bp : p.length ≤ 9223372036854775806 ∨ p.length = 9223372036854775807:= by rw [h1] at bx; simp at bx; omega
        have bq : q.length ≤ 9223372036854775807 := by rw [h2] at by'; simp at by'; omega
        have hcs : cs x y = s.length + cs p q := by rw [h1, h2, cs_more]
        have hend : cs p q = 0 → x.take (x.length - cs x y) = p ∧ y.take (y.length - cs x y) = q := by
          intro h0
          rw [hcs, h0, h1, h2]; simp
        have Hend := Lib.hid hend
        have HHH := Lib.hid (And.intro h1 (And.intro h2 hcs))
        clear h1 h2 hcs hend
        rcases List.eq_nil_or_concat p with rfl | ⟨p, c, rfl⟩
        · have := Hend.out (cs_nil_left _)
          go_wp2
          go_meet
          exact ⟨by rw [this.1], by rw [this.2], ⟨m, rfl⟩⟩
        · rcases List.eq_nil_or_concat q with rfl | ⟨q, d, rfl⟩
          · have := Hend.out (cs_nil_right _)
            go_wp2
            go_meet
            exact ⟨by rw [this.1], by rw [this.2], ⟨m, rfl⟩⟩
          · simp only [List.concat_eq_append, List.length_append, List.length_singleton] at *
            by_cases h3 : c = d
            · subst h3
              go_wp2
              go_quiet (fail)
              go_wp2
              go_quiet (fail)
              go_wp2
              go_roundg (p.length)
              case measure => rw [Hg.out]; simp
              case rel => exact ⟨p, q, c :: s, by simp [HHH.out.1], by simp [HHH.out.2.1], rfl, rfl, rfl, Drew.more (Drew.more ⟨m, rfl⟩ _) _⟩
            · have h3' := byte_neq h3
              have := Hend.out (by simp [cs_snoc, h3])
              go_wp2
              go_quiet (fail)
              go_wp2
              go_meet
              exact ⟨by rw [this.1], by rw [this.2], Drew.more ⟨m, rfl⟩ _⟩
    case rest =>
      obtain ⟨rfl, rfl, m, rfl⟩ := hcut
      go_wp2
      rw [Exit.noGoto_ret]
      obtain ⟨hn, hx, hy, hxl, hyl⟩ := HH.out
      exact bodyPost_ret (v := .agg #[.int .i64 n, .string (B (x.take (x.length - cs x y))), .string (B (y.take (y.length - cs x y)))]) (by simp [results, Try.results10, go_sem]) rfl ⟨by subst hn hx hy; simp, by
        refine ((Drew.below ((Below.refl _ _).alloc (Nat.le_refl _) _) ⟨m, rfl⟩).setCell ?_ _).setCell ?_ _ |>.setCell ?_ _ <;> simp⟩
def pre (t s : List UInt8) : Bool := s.take t.length == t
theorem pre_any (s t : List UInt8) (w : World) (_hs : s.length ≤ 9223372036854775807) (_ht : t.length ≤ 9223372036854775807) :
    Calls Try.prog 24 #[.string (B s), .string (B t)] w fun e w' => e = .returned (.bool (pre t s)) ∧ w = w' := by
  by_cases h : t.length ≤ s.length
  · go_enter Try.func24, Try.ntmps24
    go_wp2
    go_ret
    simp [pre]
  · have h' : pre t s = false := by
      simp only [pre, beq_eq_false_iff_ne]; intro e; have := congrArg List.length e; simp at this; omega
    go_enter Try.func24, Try.ntmps24
    go_wp2
    go_ret
    simp [h']
/-- What is wrong with an edit of a text, by its number. -/
def wrong (s : List UInt8) (at_ : Int) (d i : List UInt8) : Int :=
  if at_ < 0 ∨ (s.length : Int) < at_ ∨ pre d (s.drop at_.toNat) = false then 1 else if (1048576 : Int) - i.length < (s.length : Int) - d.length then 2 else 0
def Edit (at_ : Int) (d i : List UInt8) : Value := .agg #[.int .i64 at_, .string (B d), .string (B i)]
@[go_sem] theorem Edit_eq (n : Int) (d i : List UInt8) : Edit n d i = .agg #[.int .i64 n, .string (B d), .string (B i)] := rfl
def CheckPost (s : List UInt8) (at_ : Int) (d i : List UInt8) (w : World) (e : Ending) (w' : World) : Prop := e = .returned (.int .i64 (wrong s at_ d i)) ∧ Below w.heap.size w w'
theorem check_any (s d i : List UInt8) (at_ : Int) (w : World) (hs : s.length ≤ 9223372036854775807) (hd : d.length ≤ 9223372036854775807) (hi : i.length ≤ 9223372036854775807)  :
    Calls Try.prog 22 #[.string (B s), Edit at_ d i] w (CheckPost s at_ d i w) := by
  unfold Edit
  have hW : Below w.heap.size w w := Below.refl _ _
  by_cases h1 : at_ < 0
  · have hwr : wrong s at_ d i = 1 := by simp [wrong, h1]
    rw [show CheckPost s at_ d i w = fun e w' => e = .returned (.int .i64 1) ∧ Below w.heap.size w w' by funext e w'; simp [CheckPost, hwr]]
    clear hwr
    go_enter Try.func22, Try.ntmps22
    go_wp2
    go_quiet (fail)
    go_wp2
    go_ret
    exact ⟨rfl, Drew.below (hW.alloc (Nat.le_refl _) _) ⟨_, rfl⟩⟩
  · have h1' := no h1
    by_cases h2 : (s.length : Int) < at_
    · have hwr : wrong s at_ d i = 1 := by simp [wrong, h2]
      rw [show CheckPost s at_ d i w = fun e w' => e = .returned (.int .i64 1) ∧ Below w.heap.size w w' by funext e w'; simp [CheckPost, hwr]]
      clear hwr
      go_enter Try.func22, Try.ntmps22
      go_wp2
      go_quiet (fail)
      go_wp2
      go_ret
      exact ⟨rfl, Drew.below (hW.alloc (Nat.le_refl _) _) ⟨_, rfl⟩⟩
    · obtain ⟨at_, rfl⟩ := Int.eq_ofNat_of_zero_le (by omega : 0 ≤ at_)
      have h3 : at_ ≤ s.length := by omega
      have h2' : decide (s.length < at_) = false := no (by omega)
      rw [show CheckPost s at_ d i w = fun e w' => e = .returned (.int .i64 (wrong s at_ d i)) ∧ Below w.heap.size w w' from rfl]
      unfold wrong
      simp only [h1, h2, Int.toNat_natCast, false_or]
      by_cases h4 : pre d (s.drop at_) = true
      · by_cases h5 : (1048576 : Int) - i.length < (s.length : Int) - d.length
        · simp only [h4, h5, if_true, if_false, Bool.true_eq_false]
          go_enter Try.func22, Try.ntmps22
          go_wp2
          go_quiet ((go_at_call 24; exact quiet_same (pre_any _ _ _ (by simp; omega) hd)))
          go_wp2
          go_ret
          exact ⟨rfl, Drew.below (hW.alloc (Nat.le_refl _) _) ⟨_, rfl⟩⟩
        · simp only [h4, h5, if_false, Bool.true_eq_false]
          go_enter Try.func22, Try.ntmps22
          go_wp2
          go_quiet ((go_at_call 24; exact quiet_same (pre_any _ _ _ (by simp; omega) hd)))
          go_wp2
          go_ret
          exact ⟨rfl, Drew.below (hW.alloc (Nat.le_refl _) _) ⟨_, rfl⟩⟩
      · have h4' := Bool.eq_false_iff.2 h4
        simp only [h4', if_true]
        go_enter Try.func22, Try.ntmps22
        go_wp2
        go_quiet ((go_at_call 24; exact quiet_same (pre_any _ _ _ (by simp; omega) hd)))
        go_wp2
        go_ret
        exact ⟨rfl, Drew.below (hW.alloc (Nat.le_refl _) _) ⟨_, rfl⟩⟩
end Go.Proofs.Ythpjapphehclnaa
