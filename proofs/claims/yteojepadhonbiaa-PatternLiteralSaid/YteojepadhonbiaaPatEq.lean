/-
  Two atoms that are the same aren't unlike. Conditions: none.
-/
import Derived.Test.YteojepadhonbiaaPat12
import Derived.ChangeKeysEq
namespace Go.Proofs.Yteojepadhonbiaa.Pat
open Go.ChangeShapes Go.WideShapes Go.RowKit
set_option maxRecDepth 100000
theorem info_u64 : (Try.prog.info? 54).map (fun i => (i.zero, i.size, i.bytes)) = some (some (.int .u64 0), 1, 8) := by kernel_rfl
theorem part_word (xs : Array Value) (i : Nat) (v : Value) (w : World) (h : xs[i]? = some v) : (part 54 xs i).run Try.prog w = .ok v w := by
  have ha : (isAgg 54).run Try.prog w = .ok false w := by kernel_rfl
  unfold part
  simp [ha, h]
theorem eq_words (d : Nat) (a b c e : Int) (w : World) : (Op.equalIn (d + 1 + 1) 55 (.agg #[.int .u64 a, .int .u64 b, .int .u64 c, .int .u64 e]) (.agg #[.int .u64 a, .int .u64 b, .int .u64 c, .int .u64 e])).run Try.prog w = .ok true w := by
  obtain ⟨i0, hi, -, hs, -⟩ := info_parts info_u64
  have hc : Try.prog.cellsOf 54 = 1 := by kernel_rfl
  rw [run_equalIn_array w (d + 1) _ _ Try.underlying55 hi, hc]
  simp [List.range_succ, Op.eqItems, part_word, run_equalIn_int w d 54 .u64 .u64 _ _ Try.underlying54]
theorem neq_atom (k b : Int) (w0 w1 w2 w3 : Int) (w : World) : (binOp .neq 57 (.agg #[.int .i64 k, .int .u8 b, .int .u64 w0, .int .u64 w1, .int .u64 w2, .int .u64 w3]) (.agg #[.int .i64 k, .int .u8 b, .int .u64 w0, .int .u64 w1, .int .u64 w2, .int .u64 w3])).run Try.prog w = .ok (.bool false) w := by
  have hE := eq_words 9997 w0 w1 w2 w3 w
  have hp0 : (part 3 #[.int .i64 k, .int .u8 b, .int .u64 w0, .int .u64 w1, .int .u64 w2, .int .u64 w3] 0).run Try.prog w = .ok (.int .i64 k) w := by kernel_rfl
  have hp1 : (part 5 #[.int .i64 k, .int .u8 b, .int .u64 w0, .int .u64 w1, .int .u64 w2, .int .u64 w3] 1).run Try.prog w = .ok (.int .u8 b) w := by kernel_rfl
  have hp2 : (part 55 #[.int .i64 k, .int .u8 b, .int .u64 w0, .int .u64 w1, .int .u64 w2, .int .u64 w3] 2).run Try.prog w = .ok (.agg #[.int .u64 w0, .int .u64 w1, .int .u64 w2, .int .u64 w3]) w := by kernel_rfl
  have hf : (Try.prog.fieldsOf 57).toList.map (fun f => (f.name, f.type, f.offset)) = [("Kind", 3, 0), ("Byte", 5, 1), ("Set", 55, 2)] := by kernel_rfl
  rw [run_neq_struct, run_equalIn_agg w 9999 57 _ _ (by kernel_rfl) (by kernel_rfl)]
  generalize (Try.prog.fieldsOf 57).toList = fs at hf ⊢
  cases fs with
  | nil => simp at hf
  | cons f0 fs =>
  cases fs with
  | nil => simp at hf
  | cons f1 fs =>
  cases fs with
  | nil => simp at hf
  | cons f2 fs =>
  cases fs with
  | cons _ _ => simp at hf
  | nil =>
    simp only [List.map_cons, List.map_nil, List.cons.injEq, Prod.mk.injEq, and_true] at hf
    obtain ⟨⟨n0, t0, o0⟩, ⟨n1, t1, o1⟩, ⟨n2, t2, o2⟩⟩ := hf
    have hi := run_equalIn_int (P := Try.prog) w 9998 3 .i64 .i64 k k Try.underlying3
    have hb := run_equalIn_int (P := Try.prog) w 9998 5 .u8 .u8 b b Try.underlying5
    simp [Op.eqFields, n0, t0, o0, n1, t1, o1, n2, t2, o2, hp0, hp1, hp2, hi, hb, hE]
end Go.Proofs.Yteojepadhonbiaa.Pat
