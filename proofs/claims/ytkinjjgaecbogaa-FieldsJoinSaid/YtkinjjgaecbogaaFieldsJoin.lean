/-
  The walks of layer 26 (fields): Join, and strings.Join at own rows of texts. Conditions: at most 2^40 fields, a joined text of at most 2^47 bytes.
-/
import Derived.Test.YtkinjjgaecbogaaFields8
import Derived.Test.YtkinjjgaecbogaaShelf
import Derived.Test.YtkinjjgaecbogaaFieldsJoinPlain
namespace Go.Proofs.Ytkinjjgaecbogaa
open Go.ChangeShapes Go.WideShapes Go.Deep Go.RowKit
set_option maxRecDepth 100000
theorem B_dataL (l : List UInt8) : (B l).data.toList = l := by simp [B]
theorem B_datas (ts : List (List UInt8)) : (ts.map B).map (·.data.toList) = ts := by
  rw [List.map_map]
  have : ((fun x : ByteArray => x.data.toList) ∘ B) = id := by funext l; exact B_dataL l
  rw [this, List.map_id]
/-- strings.Join of an own row of texts. -/
theorem strJoin_own (w : World) (b0 : Nat) (o : Value) (ts : List (List UInt8)) (sep : List UInt8) (h : Own w b0 1 o ts.length (ts.flatMap strC)) (hN : ts.length ≤ 1099511627776) (hlen : (Lib.join ts sep).length ≤ 140737488355328) :
    Calls Try.prog 73 #[o, .string (B sep)] w fun e w' => e = .returned (.string (B (Lib.join ts sep))) ∧ Below w.heap.size w w' := by
  by_cases h0 : ts = []
  · subst h0
    obtain ⟨A, c, rfl, _⟩ := h.form0
    refine (Try.strings_Join_none A c (B sep) w).mono fun e w' k => ⟨?_, by rw [k.2]; exact Below.refl _ _⟩
    rw [k.1]; rfl
  · obtain ⟨g, off, c, rfl, _, hg, hc, _⟩ := h.form' (List.length_pos_iff.2 h0)
    obtain ⟨A, c', e, _, _, _, h4⟩ := h.sl strC_len rfl
    obtain ⟨b, o, e2, _, hcell⟩ := h4 (List.length_pos_iff.2 h0)
    subst e2
    injection e with e _ _
    injection e with e
    cases e
    have := Try.strings_Join g off c (ts.map B) (B sep) w (fun j x hx => by
      rw [List.getElem?_map] at hx
      cases ht : ts[j]? with
      | none => rw [ht] at hx; cases hx
      | some t =>
        rw [ht] at hx
        cases hx
        have := hcell j t ht 0 _ rfl
        simpa using this) hg (by simp; omega) (by simpa using hc) (by rw [B_datas, B_dataL]; exact hlen)
    rw [B_datas, B_dataL, List.length_map] at this
    exact this
set_option maxHeartbeats 1600000 in
theorem join_any (v : Value) (l : List Fd) (s0 : UInt8) (s1 : List UInt8) (w : World) (hv : Sl w Fd.cells 2 v l) (hl : l.length ≤ 1099511627776) (hlen : (Lib.join (l.map (·.text)) [s0]).length ≤ 140737488355328) (hs : s1.length ≤ 1099511627776) :
    Calls Try.prog 35 #[v, .string (B (s0 :: s1))] w fun e w' => e = .returned (.string (B (Lib.join (l.map (·.text)) [s0]))) ∧ Below w.heap.size w w' := by
  obtain ⟨i0, hi0, hz00, hz01, hz02⟩ := info_parts info_str
  obtain ⟨A, c, rfl, hc1, hc2, hn, hA⟩ := hv
  have HA := Lib.hid hA
  have HL := Lib.hid hlen
  clear hA hn hlen
  go_enter Try.func35, Try.ntmps35
  go_wp2_with (at_make; refine wpList_make_own _ rfl _ _ 22 rfl w.heap.size 9 i0 (.string ByteArray.empty) 1 Try.underlying22 hi0 hz00 hz01 .i64 .i64 _ l.length rfl rfl rfl (by rw [hz02]; omega) (by unfold maxLen; omega) (Nat.le_refl _) ?_; intro w0 hown0 hgrow0; have HO0 := Lib.hid (Own.of_row hown0 (Nat.le_refl _)); have HB0 : Hid (Below w.heap.size w w0) := ⟨hgrow0.os, hgrow0.tape, hgrow0.output, hgrow0.size, fun k hk => hgrow0.block k hk (fun e => by cases e)⟩; clear hown0 hgrow0)
  go_loopw [5, 13] (fun o1 i wr => ∃ (k : Nat) (o : Value), k ≤ l.length ∧ o = o1 ∧ i = .int .i64 k ∧ Hid (Own wr w.heap.size 1 o k (((l.take k).map (·.text)).flatMap strC)) ∧ Hid (Below w.heap.size w wr)) (fun _ i _ => l.length - (intOf i).toNat)
  case atStart => exact ⟨0, _, by omega, rfl, rfl, HO0.out, HB0.out⟩
  case round =>
    obtain ⟨k, o, hk, rfl, rfl, HO, HB⟩ := hrel
    clear HO0 HB0
    have hwz := HB.out.size
    by_cases hlt : k < l.length
    · obtain ⟨b, off, rfl, hb, hc⟩ := HA.out (by omega)
      have e0 : wr.cell? ⟨b, off + k * 2, none⟩ = some (.string (B l[k].text)) := (HB.out.cell (p := ⟨b, _, none⟩) hb).trans (hc k _ (List.getElem?_eq_getElem hlt) 0 _ rfl)
      have e1 : wr.cell? ⟨b, off + k * 2 + 1, none⟩ = some (.string (B l[k].pat)) := (HB.out.cell (p := ⟨b, _, none⟩) hb).trans (hc k _ (List.getElem?_eq_getElem hlt) 1 _ rfl)
      clear hc
      haveI : Old wr b := ⟨Nat.lt_of_lt_of_le hb HB.out.size⟩
      have HT := Lib.hid (show ((l.take (k + 1)).map (·.text)).flatMap strC = ((l.take k).map (·.text)).flatMap strC ++ [.string (B l[k].text)] by rw [List.take_succ_eq_append_getElem hlt, List.map_append, List.flatMap_append]; rfl)
      generalize l[k] = x at *
      go_wp2_with ((at_builtin; refine wpList_append_src _ rfl (.tmp 17) (.tmp 20) _ rfl w.heap.size 9 i0 _ 1 16 Try.underlying22 hi0 hz00 hz01 hz02 rfl (by decide) _ k (((l.take k).map (·.text)).flatMap strC) rfl ((HO.out.below (below_alloc (Below.refl _ _) _)).below (below_alloc (Below.refl _ _) _)) _ 1 [.string (B x.text)] rfl rfl (src_one _ _ _ _ _ (by first | rfl | (simp; done) | omega)) (by simp [Value.oneCell']) (by unfold maxLen; omega) (by omega) (by first | (simp; done) | omega | (simp; omega)) ?_; intro v1 w1 hown1 hg1 hat1 hty1; have HTY1 := Lib.hid hty1; clear hty1); have HB1 := Lib.hid (below_keeps (below_alloc (below_alloc HB.out _) _) hg1 (fun k hk => hk.2)); have HO1 := Lib.hid hown1; clear hown1 hg1 hat1)
      go_roundw
      case rel => exact ⟨k + 1, v1, by omega, rfl, by go_num, by show Own _ _ _ _ _ _; rw [HT.out]; exact HO1.out, HB1.out⟩
      case measure => simp [intOf]; omega
    · have hk' : k = l.length := by omega
      have ho := HO.out
      rw [hk', List.take_length] at ho
      have ho2 : Own wr w.heap.size 1 o (l.map (·.text)).length ((l.map (·.text)).flatMap strC) := by rw [List.length_map]; exact ho
      have HJ := Lib.hid (strJoin_own wr w.heap.size o (l.map (·.text)) [s0] ho2 (by simpa using hl) HL.out)
      clear ho ho2 hk'
      obtain ⟨J, hJ⟩ : ∃ J, J = Lib.join (l.map (·.text)) [s0] := ⟨_, rfl⟩
      rw [← hJ] at HJ
      have HJJ := Lib.hid hJ
      clear hJ
      have hmin : min ((s1.length : Int) + 1) 1 = 1 := by omega
      go_wp2_with (go_at_call 73; refine HJ.out.mono ?_; rintro e w1 ⟨rfl, hb1⟩; have HB1 := Lib.hid (HB.out.trans (hb1.mono hwz)); clear hb1)
      go_ret
      exact ⟨by rw [← HJJ.out]; rfl, HB1.out⟩
end Go.Proofs.Ytkinjjgaecbogaa
