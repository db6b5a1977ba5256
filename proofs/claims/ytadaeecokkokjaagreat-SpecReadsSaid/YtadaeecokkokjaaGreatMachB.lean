/-
  The walks of layers 6 and 17: the stack behind a text, its letters, the state behind a word. Conditions: texts of at most 2^29 bytes.
-/
import Derived.Test.YtadaeecokkokjaaGreatMachA
import Derived.Test.YtadaeecokkokjaaGreatModA
import Derived.Test.YtadaeecokkokjaaGreatAppStr
set_option linter.unusedSimpArgs false
set_option linter.unusedVariables false
namespace Go.Proofs.YtadaeecokkokjaaGreat.Mc
open Go.ChangeShapes Go.WideShapes Go.Deep Go.RowKit Cls Md
set_option maxRecDepth 100000
/-- A machine behind a text's beginning; nothing older was written. -/
structure RunM (w : World) (mb : Nat) (W : World) (x : St) (n : Nat) : Prop where
  ex : ∃ v, Mach W w.heap.size mb v x n
  be : Below w.heap.size w W
  ge : w.heap.size ≤ mb
theorem RunM.step {w W W' : World} {mb n' : Nat} {v v' : Value} {y : St} (hb : Below w.heap.size w W) (hg : w.heap.size ≤ mb) (hs : MStep w.heap.size mb W v W' v') (hm : Mach W' w.heap.size mb v' y n') : RunM w mb W' y n' :=
  ⟨⟨v', hm⟩, below_keeps hb hs.k (fun k q => by rcases q with q | q <;> omega), hg⟩
set_option maxHeartbeats 4000000 in
theorem mrun_any (s : List UInt8) (w : World) (hs : s.length ≤ 536870912) : Calls Tryz.prog 59 #[.string (B s)] w fun e w' => ∃ v', e = .returned (.tuple #[v', .bool (run s).f]) ∧ Own w' w.heap.size 2 v' (run s).l.length ((run s).l.reverse.flatMap frC) ∧ Below w.heap.size w w' := by
  have HN := Lib.hid (mnew_any w)
  have HRL := Lib.hid (run_len s)
  go_enter Tryz.func59, Tryz.ntmps59
  go_wp2_with (go_at_call 56; (refine HN.out.mono ?_); rintro e w1 ⟨mb, v1, rfl, hg1, hm1, hb1⟩; have HI := Lib.hid (show RunM w mb w1 (run (s.take 0)) 0 from ⟨⟨v1, hm1⟩, hb1, hg1⟩); clear hg1 hm1 hb1)
  go_loopw [5, 9] (fun _ i wr => ∃ k : Nat, k ≤ s.length ∧ i = .int .i64 k ∧ Hid (RunM w mb wr (run (s.take k)) k)) (fun _ i _ => s.length - (intOf i).toNat)
  case atStart => exact ⟨0, by omega, rfl, HI⟩
  case round =>
    clear HI HN
    obtain ⟨k, hk, rfl, HI⟩ := hrel
    by_cases hlt : k < s.length
    · have h0 : (0 : Int) ≤ (k : Int) := by omega
      have h1 : (k : Int) < (s.length : Int) := by omega
      obtain ⟨v2, hm2⟩ := HI.out.ex
      have hrl := run_len (s.take k)
      rw [List.length_take] at hrl
      have HST := Lib.hid (mfeed_any hm2 (wf_run (s.take k)) (by omega) (by omega) HI.out.be.size s[k])
      rw [← run_take hlt] at HST
      clear hm2 hrl
      go_wp2_with (go_at_call 58; (refine HST.out.mono ?_); rintro e w3 ⟨rfl, v3, hs3, hm3⟩; have HI3 := Lib.hid (RunM.step HI.out.be HI.out.ge hs3 hm3); clear hs3 hm3)
      go_roundw
      case rel => exact ⟨k + 1, by omega, by go_num, HI3⟩
      case measure => simp [intOf]; omega
    · have hk' : k = s.length := by omega
      subst hk'
      rw [List.take_length] at HI
      obtain ⟨v2, hm2⟩ := HI.out.ex
      have hl2 : (run s).l.length ≤ 1073741824 := by have := HRL.out; omega
      have HFS := Lib.hid (mframes_any hm2 hl2)
      have HFR := Lib.hid fun W (h : Below wr.heap.size wr W) => mfresh_any (hm2.below h) hl2
      clear hm2 hl2
      go_wp2_with (first
        | (go_at_call 89; (refine HFS.out.mono ?_); rintro e w3 ⟨v3, rfl, ho3, hb3⟩; have HO3 := Lib.hid ho3; have HB3 := Lib.hid hb3; clear ho3 hb3)
        | (go_at_call 90; (refine (HFR.out _ HB3.out).mono ?_); rintro e w4 ⟨rfl, rfl⟩))
      refine bodyPost_ret (v := .tuple #[v3, .bool (run s).f]) (by simp [results, Tryz.results59, go_sem]) rfl ?_
      exact ⟨_, rfl, HO3.out.mono HI.out.be.size, below_then HI.out.be HB3.out⟩
end Go.Proofs.YtadaeecokkokjaaGreat.Mc
namespace Go.Proofs.YtadaeecokkokjaaGreat.Mc
open Go.ChangeShapes Go.WideShapes Go.Deep Go.RowKit Cls Md
set_option maxRecDepth 100000
end Go.Proofs.YtadaeecokkokjaaGreat.Mc
namespace Go.Proofs.YtadaeecokkokjaaGreat.Mc
open Go.ChangeShapes Go.WideShapes Go.Deep Go.RowKit Cls Md
set_option maxRecDepth 100000
end Go.Proofs.YtadaeecokkokjaaGreat.Mc
