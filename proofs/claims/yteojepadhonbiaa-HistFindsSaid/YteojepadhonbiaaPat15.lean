/-
  The walks of layer 16 (pattern): the iterator over the atoms of a pattern. Conditions: texts of at most 2^30 bytes; the library's variable MaxLen holds some number.
-/
import Derived.Test.YteojepadhonbiaaPat14
import Derived.Test.YteojepadhonbiaaBox
namespace Go.Proofs.Yteojepadhonbiaa.Pat
open Go.ChangeShapes Go.WideShapes Go.Deep Go.RowKit Go.Shelf
attribute [local go_sem] Oper.semAt_some
set_option maxRecDepth 100000
def encA (a : At) : Array Value := #[atV a]
@[go_sem] theorem encA_eq (a : At) : encA a = #[atV a] := rfl
theorem MaxL.keepG {G : Nat → Prop} {w W : World} (h : MaxL w) (hk : KeepG G w W) (h0 : G 0) : MaxL W := by
  obtain ⟨m, hm⟩ := h
  exact ⟨m, (hk.cell h0).trans hm⟩
set_option maxHeartbeats 2000000 in
theorem atoms1 (n : Nat) (hn : 1 ≤ n) (l b1 : Nat) (p : List UInt8) (hp : p.length ≤ 1073741824) (J Jx : List At → World → Prop)
    (hY : ∀ pre x W, J pre W → pre.length < (parse p).length → YieldAt Fence.wide (n - 1) Try.prog l (encA x) W fun e W' =>
      (e = .returned (.bool true) ∧ J (pre ++ [x]) W' ∧ KeepG (fun k => k = b1 ∨ k = 0) W W') ∨ (e = .returned (.bool false) ∧ Jx (pre ++ [x]) W'))
    (hJb : ∀ pre W W', Below W.heap.size W W' → J pre W → J pre W')
    (W : World) (h1 : W.cell? ⟨b1, 0, none⟩ = some (.string (B p))) (hm : MaxL W) (h0 : J [] W) :
    CallsIn Fence.wide n Try.prog 100 #[.func (.yield l) #[] #[], .pointer (some ⟨b1, 0, none⟩)] W fun e W' => (∃ v, e = .returned v) ∧
      ((∃ ys, ys = parse p ∧ J ys W') ∨ (∃ pre, pre <+: parse p ∧ Jx pre W')) := by
  have HY := Lib.hid hY
  have HJB := Lib.hid hJb
  have HM0 := Lib.hid hm
  clear hY hJb hm
  refine callsIn_of_wp Try.func100 rfl trivial ?_ rfl
  simp only [Try.ntmps100, List.size_toArray, List.length_cons, List.length_nil, Nat.reduceAdd, Nat.reduceSub, Array.replicate_succ, Array.replicate_zero, List.push_toArray, List.append_toArray, List.nil_append, List.cons_append]
  gi_wp2
  gi_loopw [3] (fun i wr => ∃ (k : Nat) (pre : List At), k ≤ p.length ∧ i = .int .i64 k ∧ wr.cell? ⟨b1, 0, none⟩ = some (.string (B p)) ∧ Hid (MaxL wr) ∧ Hid (parse p = pre ++ parseFrom p k) ∧ Hid (J pre wr)) (fun i _ => p.length - (intOf i).toNat)
  case atStart => exact ⟨0, [], by omega, rfl, h1, HM0.out, rfl, h0⟩
  case round =>
    clear h1 HM0 h0
    obtain ⟨k, pre, hk, rfl, c1, HM, HP, HJ⟩ := hrel
    by_cases hlt : k < p.length
    · have hx : p[k]? = some p[k] := List.getElem?_eq_getElem hlt
      have hst := parseFrom_step hx
      have he := atomAt_end hx
      have HA := Lib.hid (atom_any p k wr HM.out hp hlt)
      unfold AtomP at HA
      have hb1 : b1 < wr.heap.size := World.block_lt_of_cell? wr _ c1
      haveI : Old wr b1 := ⟨hb1⟩
      have hP2 : parse p = (pre ++ [(atomAt p k p[k]).1]) ++ parseFrom p (atomAt p k p[k]).2 := by rw [HP.out, hst]; simp
      have hlen : pre.length < (parse p).length := by rw [hP2]; simp
      have HP2 := Lib.hid hP2
      clear hx hst hP2
      generalize (atomAt p k p[k]).1 = a at *
      generalize (atomAt p k p[k]).2 = q at *
      unfold atV at HA
      have HAV : Hid (encA a = #[.agg #[.int .i64 a.kind, .int .u8 a.byt.toNat, .int .u64 (wordOf a.fs 0 : Nat), .int .u64 (wordOf a.fs 1 : Nat), .int .u64 (wordOf a.fs 2 : Nat), .int .u64 (wordOf a.fs 3 : Nat)]]) := rfl
      gi_wp2_with fail
      refine (callsIn_wide.2 HA.out).mono ?_
      rintro e w1 ⟨rfl, hb⟩
      obtain ⟨g, rfl⟩ := to_grow hb
      clear hb
      have HJ2 := Lib.hid (HJB.out _ _ _ (below_alloc (below_grow (Below.refl _ wr) g) (.cells #[.int .i64 a.kind, .int .u8 a.byt.toNat, .int .u64 (wordOf a.fs 0 : Nat), .int .u64 (wordOf a.fs 1 : Nat), .int .u64 (wordOf a.fs 2 : Nat), .int .u64 (wordOf a.fs 3 : Nat)] 57)) HJ.out)
      have HM2 := Lib.hid (HM.out.below (below_alloc (below_grow (Below.refl _ wr) g) (.cells #[.int .i64 a.kind, .int .u8 a.byt.toNat, .int .u64 (wordOf a.fs 0 : Nat), .int .u64 (wordOf a.fs 1 : Nat), .int .u64 (wordOf a.fs 2 : Nat), .int .u64 (wordOf a.fs 3 : Nat)] 57)))
      obtain ⟨fn, tmps, assign, body, hy, hR⟩ := HY.out _ a _ HJ2.out hlen
      rw [HAV.out] at hy
      clear hlen
      gi_wp2
      refine hR.mono ?_
      rintro e W3 (⟨rfl, hJ3, hk3⟩ | ⟨rfl, hJx3⟩)
      · have d1 := (hk3.cell (o := 0) (.inl rfl)).trans ((cell_alloc_lt _ _ _ _ _).trans ((cell_grow _ _ _ _ _).trans c1))
        have HM3 := Lib.hid (HM2.out.keepG hk3 (.inr rfl))
        have HJ3 := Lib.hid hJ3
        clear hk3 hJ3 c1 HM HM2
        gi_wp2
        go_roundw
        case rel => exact ⟨q, _, by omega, rfl, d1, HM3.out, HP2.out, HJ3.out⟩
        case measure => simp [intOf]; omega
      · have HJ3 := Lib.hid hJx3
        clear hJx3
        gi_wp2
        refine bodyPost_ret (results_none rfl _ _ _) rfl ?_
        exact ⟨⟨_, rfl⟩, .inr ⟨_, ⟨_, HP2.out.symm⟩, HJ3.out⟩⟩
    · have h3 := HP.out
      rw [parseFrom_end (by omega), List.append_nil] at h3
      have H3 := Lib.hid h3
      clear h3
      have d0 := no hlt
      gi_wp2
      go_end0
      exact ⟨⟨_, rfl⟩, .inl ⟨_, H3.out.symm, HJ.out⟩⟩
theorem atoms_any (p : List UInt8) (w : World) : Calls Try.prog 69 #[.string (B p)] w fun e w' => e = .returned (.func (.func 100) #[] #[.pointer (some ⟨w.heap.size, 0, none⟩)]) ∧ w' = w.alloc (.cells #[.string (B p)] 9) := by
  go_enter Try.func69, Try.ntmps69
  go_wp2
  go_ret
  exact ⟨rfl, rfl⟩
theorem atoms_gives (p : List UInt8) (w : World) (hm : MaxL w) (hp : p.length ≤ 1073741824) :
    Gives Try.prog 100 #[.pointer (some ⟨w.heap.size, 0, none⟩)] encA (fun k => k = w.heap.size ∨ k = 0) (parse p) (w.alloc (.cells #[.string (B p)] 9)) := by
  intro n hn l J Jx W hW hJ _ hY h0
  refine atoms1 n hn l _ p hp J Jx hY (fun s A A' hb h => hJ s A A' none h (grownBy_below hb none) (fun r e => by cases e)) W ?_ ((hm.below (below_alloc (Below.refl _ _) _)).below hW) h0
  rw [hW.cell (by simp)]; simp [go_sem]
end Go.Proofs.Yteojepadhonbiaa.Pat
