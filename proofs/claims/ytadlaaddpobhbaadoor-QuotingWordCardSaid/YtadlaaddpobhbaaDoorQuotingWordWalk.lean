/-
  The walk of the law QuotingWord: it returns true, whatever its arguments. Conditions: the library's variable MaxLen holds some number (arguments as the row reads them).
-/
import Derived.Test.YtadlaaddpobhbaaDoorWordPlain2
import Derived.Test.YtadlaaddpobhbaaDoorQuo6
import Derived.Test.YtadlaaddpobhbaaDoorOpen
namespace Go.Proofs.YtadlaaddpobhbaaDoor.quotingWord
open Go.ChangeShapes Go.WideShapes Go.Deep Go.ChangeAt Go.RowKit Quo Pat Lx
set_option maxRecDepth 100000
/-- Texts in a block. -/
structure TextsB (w : World) (b : Nat) (l : List (List UInt8)) : Prop where
  lt : b < w.heap.size
  c : ∀ k x, l[k]? = some x → w.cell? ⟨b, k, none⟩ = some (.string (B x))
theorem TextsB.below {w W : World} {b : Nat} {l : List (List UInt8)} (h : TextsB w b l) (hb : Below w.heap.size w W) : TextsB W b l :=
  ⟨Nat.lt_of_lt_of_le h.lt hb.size, fun k x hk => (hb.cell (p := ⟨b, k, none⟩) h.lt).trans (h.c k x hk)⟩
theorem TextsB.new (W : World) (l : List (List UInt8)) (t : TypeId) : TextsB (W.alloc (.cells (l.map fun x => Value.string (B x)).toArray t)) W.heap.size l :=
  ⟨by simp, fun k x hk => (BoxN.new W (l.map fun x => Value.string (B x)) t).c k _ (by simp [hk])⟩
/-- What holds at each round of a loop over texts. -/
structure LoopI (w : World) (b : Nat) (l : List (List UInt8)) (k : Nat) (W : World) : Prop where
  le : k ≤ l.length
  tx : TextsB W b l
  be : Below w.heap.size w W
theorem own_first {w : World} {b0 m : Nat} {v : Value} {t : Tk} {xs : List Value} (h : Own w b0 4 v m (t.cells ++ xs)) : 0 < m ∧ ∃ g off c, v = .slice (some ⟨g, off, none⟩) m c ∧ g < w.heap.size ∧
    w.cell? ⟨g, off, none⟩ = some (.int .i64 t.kind) ∧ w.cell? ⟨g, off + 1, none⟩ = some (.int .i64 t.a) ∧ w.cell? ⟨g, off + 2, none⟩ = some (.int .i64 t.m) ∧ w.cell? ⟨g, off + 3, none⟩ = some (.bool t.o) := by
  have h1 := h.1
  simp [Tk.cells] at h1
  have hm : 0 < m := by omega
  refine ⟨hm, ?_⟩
  rcases h.2 with ⟨e, _⟩ | ⟨g, off, c, e, _, hg, _, _, _, hc⟩
  · omega
  · exact ⟨g, off, c, e, hg, hc 0 _ rfl, hc 1 _ rfl, hc 2 _ rfl, hc 3 _ rfl⟩
theorem walk {H : Type} (enc : TypeId × Value → H) (w : World) (base : Nat) {v0 v1 : Value} {d0 d1 : DataW H} {p0 p1 : List MemPlace} (hm : MaxL w)
    (h0 : DataW.Trod enc Tryd.prog w 0 (fun _ => true) true 9 v0 d0 p0) (k0 : Value.okWide Tryd.prog w .any base 9 v0)
    (h1 : DataW.Trod enc Tryd.prog w 0 (fun _ => true) true 3 v1 d1 p1) (k1 : Value.okWide Tryd.prog w .any base 3 v1) :
    Calls Tryd.prog 4 #[v0, v1] w fun e w' => e = .returned (.bool true) ∧ Below w.heap.size w w' := by
  obtain ⟨s, rfl, hs0⟩ := open_text h0 k0
  obtain ⟨st, rfl, hs1⟩ := open_num h1 k1
  clear h0 k0 h1 k1
  have HAW := Lib.hid (awake17_any w hm)
  by_cases l1 : 60 < s.length
  · go_enter Tryd.func4, Tryd.ntmps4
    go_wp2_with (go_at_call 9; refine HAW.out.mono ?_; rintro e w1 ⟨rfl, hb⟩; have HB := Lib.hid hb; clear hb)
    go_ret
    exact ⟨rfl, HB.out⟩
  have c1 := no (show ¬ (60 : Int) < (s.length : Int) by omega)
  have hs : s.length ≤ 1073741824 := by omega
  have HE := Lib.hid fun W (hb : Below w.heap.size w W) => encode_any s st true W (hm.below hb) hs
  have hel := encL_len s st true
  have HL := Lib.hid fun (bh : List UInt8) (h : bh ∈ behL) => toks_enc s st h
  have HR := Lib.hid (enc_no_res s st)
  have hxl : (encL s st true).length ≤ 242 := by omega
  clear l1 hs0 hs1 hs hel
  generalize encL s st true = x at *
  go_enter Tryd.func4, Tryd.ntmps4
  go_wp2_with (first
    | (go_at_call 9; refine HAW.out.mono ?_; rintro e w1 ⟨rfl, hb⟩; have HB := Lib.hid hb; clear hb)
    | (go_at_call 10; refine (HE.out _ HB.out).mono ?_; rintro e w2 ⟨rfl, hb⟩; have HB2 := Lib.hid (below_then HB.out hb); clear hb))
  generalize hsb : w2.heap.size = sb
  go_loopw [7] (fun i W' => ∃ (k : Nat) (W : World), i = .int .i64 k ∧ W = W' ∧ Hid (LoopI w sb behL k W)) (fun i _ => 7 - (intOf i).toNat)
  case atStart => subst hsb; exact ⟨0, _, rfl, rfl, Nat.zero_le _, TextsB.new w2 behL _, below_alloc HB2.out _⟩
  case round =>
    clear HB HB2 hsb
    obtain ⟨k, wr, rfl, rfl, HI⟩ := hrel
    have hk7 : k ≤ 7 := HI.out.le
    haveI : Old wr sb := ⟨HI.out.tx.lt⟩
    by_cases hlt : k < 7
    · have k0 : (0 : Int) ≤ (k : Int) := by omega
      have k1 : (k : Int) < 7 := by omega
      have hget : behL[k]? = some behL[k] := List.getElem?_eq_getElem hlt
      have hmem : behL[k] ∈ behL := List.getElem_mem hlt
      have hbl : behL[k].length ≤ 2 := by
        have h : ∀ x ∈ behL, x.length ≤ 2 := by decide
        exact h _ hmem
      have hc := HI.out.tx.c k _ hget
      generalize behL[k] = bh at *
      obtain ⟨l, hl⟩ := HL.out bh hmem
      have HT := Lib.hid hl
      clear hl hget hmem
      have l1 : (x.length : Int) + (bh.length : Int) ≤ 9223372036854775807 := by omega
      have hxb : (x ++ bh).length ≤ 536870912 := by rw [List.length_append]; omega
      have HLX := Lib.hid fun W => lex_any (x ++ bh) _ HT.out W hxb
      go_wp2_with (go_at_call 14; refine (HLX.out _).mono ?_; rintro e w3 ⟨v, rfl, ho3, hb3⟩; dsimp only [lex0]; revert ho3)
      intro ho3
      rw [List.flatMap_cons] at ho3
      obtain ⟨m0, g, off, c, rfl, hg, z0, z1, z2, z3⟩ := own_first ho3
      dsimp only at z0 z1 z2 z3
      haveI : Old w3 g := ⟨hg⟩
      generalize hml : List.length (_ :: l) = m at *
      have m1 : (0 : Int) < (m : Int) := by omega
      have m2 : ((m : Int) == 0) = false := by (simp; omega)
      have HB3 := Lib.hid hb3
      have HT3 := Lib.hid (HI.out.tx.below hb3)
      clear ho3 hb3 hml
      go_wp2
      exact ⟨⟨k + 1, _, by go_num, rfl, hlt, HT3.out.below (below_alloc (Below.refl _ _) _), below_alloc (below_then HI.out.be HB3.out) _⟩, by simp [intOf]; omega⟩
    · have hk : k = 7 := by omega
      subst hk
      have HBE := Lib.hid HI.out.be
      have HRES : Hid (∀ y ∈ Cls.resL, x ≠ y) := fun y hy e => by
        have h := HR.out
        unfold Cls.resB at h
        rw [e, List.contains_iff_mem.2 hy] at h
        cases h
      clear HI hlt hk7
      go_wp2
      generalize hrb : wr.heap.size = rb
      go_loopw [51] (fun i W' => ∃ (k : Nat) (W : World), i = .int .i64 k ∧ W = W' ∧ Hid (LoopI w rb Cls.resL k W)) (fun i _ => 16 - (intOf i).toNat)
      case atStart => subst hrb; exact ⟨0, _, rfl, rfl, Nat.zero_le _, TextsB.new wr Cls.resL _, below_alloc HBE.out _⟩
      case round =>
        clear HBE hrb
        obtain ⟨k, wr, rfl, rfl, HI⟩ := hrel
        have hk7 : k ≤ 16 := HI.out.le
        haveI : Old wr rb := ⟨HI.out.tx.lt⟩
        by_cases hlt : k < 16
        · have k0 : (0 : Int) ≤ (k : Int) := by omega
          have k1 : (k : Int) < 16 := by omega
          have hget : Cls.resL[k]? = some Cls.resL[k] := List.getElem?_eq_getElem hlt
          have hne := HRES.out _ (List.getElem_mem hlt)
          have hc := HI.out.tx.c k _ hget
          generalize Cls.resL[k] = y at *
          clear hget
          have hxy : (x == y) = false := by simpa using hne
          go_wp2
          exact ⟨⟨k + 1, _, by go_num, rfl, hlt, HI.out.tx, HI.out.be⟩, by simp [intOf]; omega⟩
        · have hk : k = 16 := by omega
          subst hk
          go_wp2
          go_ret
          exact ⟨rfl, HI.out.be⟩
end Go.Proofs.YtadlaaddpobhbaaDoor.quotingWord
