/-
  The walk of the law QuotingMeans: it returns true, whatever its arguments. Conditions: the library's variable MaxLen holds some number (arguments as the row reads them).
-/
import Derived.Test.YtadlaaddpobhbaaDoorLitV
import Derived.Test.YtadlaaddpobhbaaDoorQuoA
import Derived.Test.YtadlaaddpobhbaaDoorOpen
namespace Go.Proofs.YtadlaaddpobhbaaDoor.quotingMeans
open Go.ChangeShapes Go.WideShapes Go.Deep Go.ChangeAt Go.RowKit Quo Pat Md Mc Li
set_option linter.unusedSimpArgs false
set_option linter.unusedVariables false
set_option maxRecDepth 100000
theorem walk {H : Type} (enc : TypeId × Value → H) (w : World) (base : Nat) {v0 v1 v2 : Value} {d0 d1 d2 : DataW H} {p0 p1 p2 : List MemPlace} (hm : MaxL w)
    (h0 : DataW.Trod enc Tryd.prog w 0 (fun _ => true) true 9 v0 d0 p0) (k0 : Value.okWide Tryd.prog w .any base 9 v0)
    (h1 : DataW.Trod enc Tryd.prog w 0 (fun _ => true) true 3 v1 d1 p1) (k1 : Value.okWide Tryd.prog w .any base 3 v1)
    (h2 : DataW.Trod enc Tryd.prog w 0 (fun _ => true) true 4 v2 d2 p2) (k2 : Value.okWide Tryd.prog w .any base 4 v2) :
    Calls Tryd.prog 7 #[v0, v1, v2] w fun e w' => e = .returned (.bool true) ∧ Below w.heap.size w w' := by
  obtain ⟨s, rfl, hs0⟩ := open_text h0 k0
  obtain ⟨st, rfl, hs1⟩ := open_num h1 k1
  obtain ⟨b, rfl⟩ := open_yes h2 k2
  clear h0 k0 h1 k1 h2 k2
  have HAW := Lib.hid (awake17_any w hm)
  by_cases l1 : 60 < s.length
  · go_enter Tryd.func7, Tryd.ntmps7
    go_wp2_with (go_at_call 9; refine HAW.out.mono ?_; rintro e w1 ⟨rfl, hb⟩; have HB := Lib.hid hb; clear hb)
    go_ret
    exact ⟨rfl, HB.out⟩
  have c1 := no (show ¬ (60 : Int) < (s.length : Int) by omega)
  have hs : s.length ≤ 1073741824 := by omega
  have hx := enc_len s st b
  have HE := Lib.hid fun W (hb : Below w.heap.size w W) => encode_any s st b W (hm.below hb) hs
  have HV := Lib.hid fun W => value_any (encL s st b) W (by omega)
  have HS := Lib.hid fun W => state_any (encL s st b) W (by omega)
  have hv := value_enc s st b
  obtain ⟨hk, hn⟩ := state_enc s st b
  rw [hk, hn] at HS
  rw [hv] at HV
  clear l1 hs0 hs1 hv hk hn hx
  have HF := Lib.hid (rfl : (if b = false ∧ (st = 4 ∨ st = 5) then st else 0) = (if b = false ∧ (st = 4 ∨ st = 5) then st else 0))
  generalize hN : (if b = false ∧ (st = 4 ∨ st = 5) then st else 0) = N at HS
  have HNN := Lib.hid hN
  clear hN HF
  generalize encL s st b = x at *
  dsimp only at HV
  go_enter Tryd.func7, Tryd.ntmps7
  go_wp2_with (first
    | (go_at_call 9; refine HAW.out.mono ?_; rintro e w1 ⟨rfl, hb⟩; have HB := Lib.hid hb; clear hb)
    | (go_at_call 10; refine (HE.out _ HB.out).mono ?_; rintro e w2 ⟨rfl, hb⟩; have HB2 := Lib.hid (below_then HB.out hb); clear hb)
    | (go_at_call 17; refine (HV.out _).mono ?_; rintro e w3 ⟨rfl, hb⟩; have HB3 := Lib.hid (below_then HB2.out hb); clear hb)
    | (go_at_call 15; refine (HS.out _).mono ?_; rintro e w4 ⟨rfl, hb⟩; have HB4 := Lib.hid (below_then HB3.out hb); clear hb))
  all_goals
    go_ret
    have hN := HNN.out
    clear HAW HE HV HS HB HB2 HB3 HNN
    refine ⟨?_, HB4.out⟩
    clear HB4
    cases b <;> simp_all
end Go.Proofs.YtadlaaddpobhbaaDoor.quotingMeans
