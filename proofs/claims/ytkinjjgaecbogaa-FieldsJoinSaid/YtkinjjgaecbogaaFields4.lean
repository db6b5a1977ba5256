/-
  The walks of layer 26 (fields): the maker's functions, on. Conditions: at most 2^33 bytes.
-/
import Derived.Test.YtkinjjgaecbogaaFields3
namespace Go.Proofs.Ytkinjjgaecbogaa
open Go.ChangeShapes Go.WideShapes Go.Deep Go.RowKit
set_option maxRecDepth 100000
theorem add_any (w : World) (b0 mb : Nat) (lv tv pv : Value) (m : Mk) (u : Un) (h : MkAt w b0 mb lv tv pv m) (ht : m.text.length ≤ 8589934592) (hp : m.pat.length ≤ 17179869184) :
    Calls Try.prog 70 #[.pointer (some ⟨mb, 0, none⟩), u.val] w (AddPost b0 mb lv (addM m u) w) := by
  cases hn : u.none with
  | true => exact add_none w b0 mb lv tv pv m u h hn
  | false =>
    cases hq : u.quoted with
    | false => exact add_false w b0 mb lv tv pv m u h hn hq ht hp
    | true => exact add_true w b0 mb lv tv pv m u h hn hq ht hp
end Go.Proofs.Ytkinjjgaecbogaa
