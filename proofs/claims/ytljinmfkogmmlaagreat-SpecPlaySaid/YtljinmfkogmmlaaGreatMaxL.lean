/-
  The library's variable MaxLen holds some number: a condition that new blocks keep. No program in sight.
-/
import Derived.Test.YtljinmfkogmmlaaGreatIter
namespace Go.Proofs.YtljinmfkogmmlaaGreat.Pat
open Go.ChangeShapes Go.WideShapes Go.Deep Go.RowKit
/-- The library's variable MaxLen holds some number. -/
def MaxL (w : World) : Prop := ∃ m, w.cell? ⟨0, 0, none⟩ = some (.int .i64 m)
theorem MaxL.lt {w : World} (h : MaxL w) : 0 < w.heap.size := by obtain ⟨m, hm⟩ := h; exact World.block_lt_of_cell? w _ hm
theorem MaxL.below {w W : World} (h : MaxL w) (hb : Below w.heap.size w W) : MaxL W := by
  have := h.lt
  obtain ⟨m, hm⟩ := h
  exact ⟨m, (hb.cell (p := ⟨0, 0, none⟩) this).trans hm⟩
theorem MaxL.keeps {F : Nat → Prop} {w W : World} (h : MaxL w) (hk : Keeps F w W) (hF : ¬ F 0) : MaxL W := by
  have := h.lt
  obtain ⟨m, hm⟩ := h
  exact ⟨m, (World.cell?_of_block (w := w) (hk.block 0 this hF)).trans hm⟩
theorem MaxL.keepG {G : Nat → Prop} {w W : World} (h : MaxL w) (hk : KeepG G w W) (h0 : G 0) : MaxL W := by
  obtain ⟨m, hm⟩ := h
  exact ⟨m, (hk.cell h0).trans hm⟩
end Go.Proofs.YtljinmfkogmmlaaGreat.Pat
