/-
  The walks of layer 3 (lines): the iterator over newlines, slices.Collect. Conditions: texts of at most 2^40 bytes.
-/
import Derived.Test.YtkinjjgaecbogaaProg
import Derived.Test.YtkinjjgaecbogaaIter
namespace Go.Proofs.Ytkinjjgaecbogaa
open Go.ChangeShapes Go.WideShapes Go.Deep Go.RowKit Go.Shelf
attribute [local go_sem] Oper.semAt_some
set_option maxRecDepth 100000
/-- The places of the newlines of a text that stands from f on. -/
def nls : List UInt8 → Int → List Int
  | [], _ => []
  | c :: r, f => if c = 10 then f :: nls r (f + 1) else nls r (f + 1)
theorem nls_snoc (a : List UInt8) (c : UInt8) (f : Int) : nls (a ++ [c]) f = nls a f ++ (if c = 10 then [f + a.length] else []) := by
  induction a generalizing f with
  | nil => simp [nls]
  | cons d r ih =>
    simp only [List.cons_append, nls]
    have e : f + 1 + (r.length : Int) = f + ((d :: r).length : Int) := by simp; omega
    split <;> simp [ih, e]
theorem nls_len (a : List UInt8) (f : Int) : (nls a f).length ≤ a.length := by
  induction a generalizing f with
  | nil => simp [nls]
  | cons d r ih =>
    have := ih (f + 1)
    simp only [nls]
    split <;> simp <;> omega
theorem nls_pre (a : List UInt8) (k : Nat) (f : Int) : nls (a.take k) f <+: nls a f := by
  induction a generalizing f k with
  | nil => simp [nls]
  | cons d r ih =>
    cases k with
    | zero => simp [nls]
    | succ k =>
      simp only [List.take_succ_cons, nls]
      split
      · exact (List.prefix_cons_inj _).2 (ih k (f + 1))
      · exact ih k (f + 1)
theorem take_snoc {α : Type} {l : List α} {k : Nat} {x : α} (h : l[k]? = some x) : l.take (k + 1) = l.take k ++ [x] := by
  obtain ⟨h1, rfl⟩ := List.getElem?_eq_some_iff.1 h
  exact List.take_succ_eq_append_getElem h1
def encI (x : Int) : Array Value := #[Value.int .i64 x]
@[go_sem] theorem encI_eq (x : Int) : encI x = #[Value.int .i64 x] := rfl
set_option maxHeartbeats 2000000 in
theorem newlines1 (n : Nat) (hn : 1 ≤ n) (l b1 b2 : Nat) (s : List UInt8) (f : Int) (hs : s.length ≤ 1099511627776) (hf0 : 0 ≤ f) (hf1 : f ≤ 1099511627776) (J Jx : List Int → World → Prop)
    (hY : ∀ pre x W, J pre W → pre.length < (nls s f).length → YieldAt Fence.wide (n - 1) Try.prog l #[.int .i64 x] W fun e W' =>
      (e = .returned (.bool true) ∧ J (pre ++ [x]) W' ∧ KeepG (fun k => k = b1 ∨ k = b2) W W') ∨ (e = .returned (.bool false) ∧ Jx (pre ++ [x]) W'))
    (W : World) (h1 : W.cell? ⟨b1, 0, none⟩ = some (.string (B s))) (h2 : W.cell? ⟨b2, 0, none⟩ = some (.int .i64 f)) (h0 : J [] W) :
    CallsIn Fence.wide n Try.prog 97 #[.func (.yield l) #[] #[], .pointer (some ⟨b1, 0, none⟩), .pointer (some ⟨b2, 0, none⟩)] W fun e W' => (∃ v, e = .returned v) ∧
      ((∃ ys, ys = nls s f ∧ J ys W') ∨ (∃ pre, pre <+: nls s f ∧ Jx pre W')) := by
  have HY := Lib.hid hY
  clear hY
  refine callsIn_of_wp Try.func97 rfl trivial ?_ rfl
  simp only [Try.ntmps97, List.size_toArray, List.length_cons, List.length_nil, Nat.reduceAdd, Nat.reduceSub, Array.replicate_succ, Array.replicate_zero, List.push_toArray, List.append_toArray, List.nil_append, List.cons_append]
  gi_wp2
  gi_loopw [7] (fun i wr => ∃ k : Nat, k ≤ s.length ∧ i = .int .i64 k ∧ wr.cell? ⟨b1, 0, none⟩ = some (.string (B s)) ∧ wr.cell? ⟨b2, 0, none⟩ = some (.int .i64 f) ∧ Hid (J (nls (s.take k) f) wr)) (fun i _ => s.length - (intOf i).toNat)
  case atStart => exact ⟨0, by omega, rfl, h1, h2, h0⟩
  case round =>
    clear h1 h2 h0
    obtain ⟨k, hk, rfl, c1, c2, HJ⟩ := hrel
    by_cases hlt : k < s.length
    · have hx : s[k]? = some s[k] := List.getElem?_eq_getElem hlt
      have HT := Lib.hid (take_snoc hx)
      have HP := Lib.hid (nls_pre s (k + 1) f)
      by_cases hc : s[k] = 10
      · have hsn : nls (s.take (k + 1)) f = nls (s.take k) f ++ [f + k] := by
          rw [HT.out, nls_snoc, if_pos hc, List.length_take, Nat.min_eq_left (by omega)]
        have HS := Lib.hid hsn
        have hlen : (nls (s.take k) f).length < (nls s f).length := by
          have := HP.out.length_le
          rw [hsn] at this
          simp at this
          omega
        obtain ⟨fn, tmps, assign, body, hy, hR⟩ := HY.out _ (f + k) wr HJ.out hlen
        clear hx hsn hlen
        gi_wp2
        refine hR.mono ?_
        rintro e W3 (⟨rfl, hJ3, hk3⟩ | ⟨rfl, hJx3⟩)
        · have d1 := (hk3.cell (o := 0) (.inl rfl)).trans c1
          have d2 := (hk3.cell (o := 0) (.inr rfl)).trans c2
          have HJ3 := Lib.hid hJ3
          clear hk3 hJ3 c1 c2
          gi_wp2
          go_roundw
          case rel => exact ⟨k + 1, by omega, by go_num, d1, d2, by show J _ _; rw [HS.out]; exact HJ3.out⟩
          case measure => simp [intOf]; omega
        · have HJ3 := Lib.hid hJx3
          clear hJx3
          gi_wp2
          refine bodyPost_ret (results_none rfl _ _ _) rfl ?_
          exact ⟨⟨_, rfl⟩, .inr ⟨_, by rw [← HS.out]; exact HP.out, HJ3.out⟩⟩
      · have hsn : nls (s.take (k + 1)) f = nls (s.take k) f := by
          rw [HT.out, nls_snoc, if_neg hc, List.append_nil]
        have HS := Lib.hid hsn
        have hc' : ((s[k].toNat : Int) == 10) = false := by
          rw [beq_eq_false_iff_ne]; intro e; exact hc (UInt8.toNat_inj.1 (by simpa using (by omega : s[k].toNat = 10)))
        clear hx hsn hc
        gi_wp2
        go_roundw
        case rel => exact ⟨k + 1, by omega, by go_num, c1, c2, by show J _ _; rw [HS.out]; exact HJ.out⟩
        case measure => simp [intOf]; omega
    · have hk' : k = s.length := by omega
      have h3 := HJ.out
      rw [hk', List.take_length] at h3
      have H3 := Lib.hid h3
      have HK := Lib.hid hk'
      clear hk' h3 HJ
      gi_wp2
      go_end0
      exact ⟨⟨_, rfl⟩, .inl ⟨_, rfl, H3.out⟩⟩
/-- lines.newlines: the iterator, and where its variables lie. -/
theorem newlines_any (s : List UInt8) (f : Int) (w : World) :
    Calls Try.prog 76 #[.string (B s), .int .i64 f] w fun e w' => e = .returned (.func (.func 97) #[] #[.pointer (some ⟨w.heap.size, 0, none⟩), .pointer (some ⟨w.heap.size + 1, 0, none⟩)]) ∧
      w' = (w.alloc (.cells #[.string (B s)] 9)).alloc (.cells #[.int .i64 f] 3) := by
  go_enter Try.func76, Try.ntmps76
  go_wp2
  go_ret
  exact ⟨rfl, rfl⟩
theorem newlines_gives (s : List UInt8) (f : Int) (w : World) (hs : s.length ≤ 1099511627776) (hf0 : 0 ≤ f) (hf1 : f ≤ 1099511627776) :
    Gives Try.prog 97 #[.pointer (some ⟨w.heap.size, 0, none⟩), .pointer (some ⟨w.heap.size + 1, 0, none⟩)] encI (fun k => k = w.heap.size ∨ k = w.heap.size + 1) (nls s f)
      ((w.alloc (.cells #[.string (B s)] 9)).alloc (.cells #[.int .i64 f] 3)) := by
  intro n hn l J Jx W hW _ _ hY h0
  refine newlines1 n hn l _ _ s f hs hf0 hf1 J Jx hY W ?_ ?_ h0
  · rw [hW.cell (by simp; try omega)]; simp [go_sem]
  · rw [hW.cell (by simp; try omega)]; simp [go_sem]
end Go.Proofs.Ytkinjjgaecbogaa
