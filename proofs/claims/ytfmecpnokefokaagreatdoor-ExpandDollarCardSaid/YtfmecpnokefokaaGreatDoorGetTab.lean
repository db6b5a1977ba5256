/-
  Words expanded by a table: the table's entries, looked up. Conditions: values of less than 100 bytes; the library's variable MaxLen holds some number.
-/
import Derived.Test.YtfmecpnokefokaaGreatDoorTab12
import Derived.Test.YtfmecpnokefokaaGreatDoorTab13
import Derived.Test.YtfmecpnokefokaaGreatDoorRunA
import Derived.Lib.SliceRun
import Derived.Test.YtfmecpnokefokaaGreatDoorKeyed2
import Derived.Test.YtfmecpnokefokaaGreatDoorTailIn
import Derived.Test.YtfmecpnokefokaaGreatDoorProg
import Derived.Test.YtfmecpnokefokaaGreatDoorOwn
import Derived.Lib.Strings
import Derived.Test.YtfmecpnokefokaaGreatDoorHist
import Derived.Test.YtfmecpnokefokaaGreatDoorClass
import Derived.WalkMore
import Derived.Deep.RegionWith
import Derived.Test.YtfmecpnokefokaaGreatDoorSl
import Derived.Deep.RegionHeld
import Derived.Test.YtfmecpnokefokaaGreatDoorTab3
import Derived.Test.YtfmecpnokefokaaGreatDoorClass2
set_option linter.unusedSimpArgs false
set_option linter.unusedVariables false
namespace Go.Proofs.YtfmecpnokefokaaGreatDoor.Tab
open Go.ChangeShapes Go.WideShapes Go.Deep Go.RowKit
set_option maxRecDepth 100000
end Go.Proofs.YtfmecpnokefokaaGreatDoor.Tab
namespace Go.Proofs.YtfmecpnokefokaaGreatDoor.Tab
open Go.ChangeShapes Go.WideShapes Go.Deep Go.RowKit Go.Shelf
attribute [local go_sem] Oper.semAt_some
set_option maxRecDepth 100000
def encE (x : Ent) : Array Value := #[.agg #[.string (B x.name), .string (B x.val)]]
@[go_sem] theorem encE_eq (x : Ent) : encE x = #[.agg #[.string (B x.name), .string (B x.val)]] := rfl
end Go.Proofs.YtfmecpnokefokaaGreatDoor.Tab
namespace Go.Proofs.YtfmecpnokefokaaGreatDoor
open Go.ChangeShapes Go.WideShapes Go.Deep Go.RowKit
set_option maxRecDepth 100000
theorem pre_take (s p : List UInt8) (h : p.length ≤ s.length) : Lib.hasPrefix s p = (s.take p.length == p) := by
 unfold Lib.hasPrefix
 rw [Bool.eq_iff_iff, List.isPrefixOf_iff_prefix, beq_iff_eq, List.prefix_iff_eq_take, eq_comm]
theorem begins_any (s p : List UInt8) (w : World) : Calls Tryz.prog 22 #[.string (B s), .string (B p)] w fun e w' => e = .returned (.bool (Lib.hasPrefix s p)) ∧ w = w' := by
 by_cases h : p.length ≤ s.length
 ·have HP := Lib.hid (pre_take s p h)
  have h2 : (p.length : Int) ≤ (s.length : Int) := by omega
  go_enter Tryz.func22, Tryz.ntmps22
  go_wp2
  go_ret
  exact ⟨by rw [HP.out]; rfl, rfl⟩
 ·have HP : Hid (Lib.hasPrefix s p = false) := by
   show _ = _
   unfold Lib.hasPrefix
   rw [Bool.eq_false_iff]
   intro hp
   exact h ((List.isPrefixOf_iff_prefix.1 hp).length_le)
  have h2 := no h
  clear h
  go_enter Tryz.func22, Tryz.ntmps22
  go_wp2
  go_ret
  exact ⟨by rw [HP.out]; rfl, rfl⟩
end Go.Proofs.YtfmecpnokefokaaGreatDoor
namespace Go.Proofs.YtfmecpnokefokaaGreatDoor.Tab
open Go.ChangeShapes Go.WideShapes Go.Deep Go.RowKit Go.Shelf
attribute [local go_sem] Oper.semAt_some
set_option maxRecDepth 100000
def begB (head : List UInt8) (e : Ent) : Bool := Lib.hasPrefix e.name head
structure WithI (w : World) (A : Nat) (head : List UInt8) (pre : List Ent) (v : Value) (W : World) : Prop where
 o : BoxOwn W A (w.heap.size + 1) 1 v pre.length ((pre.map Ent.name).flatMap strC)
 z : pre.length = 0 → v = .slice none 0 0
 h : W.cell? ⟨w.heap.size, 0, none⟩ = some (.string (B head))
 a : ∀ x ∈ pre, begB head x = true
 b : Below w.heap.size w W
 s : A ≤ W.heap.size
structure WithX (w : World) (A : Nat) (head : List UInt8) (pre : List Ent) (W : World) : Prop where
 x : ∃ q x v, pre = q ++ [x] ∧ begB head x = false ∧ WithI w A head q v W
end Go.Proofs.YtfmecpnokefokaaGreatDoor.Tab
namespace Go.Proofs.YtfmecpnokefokaaGreatDoor.Tab
open Go.ChangeShapes Go.WideShapes Go.Deep Go.RowKit
set_option maxRecDepth 100000
theorem there_lt {xs : List Ent} {s : List UInt8} (ht : there xs s = true) : place xs s < xs.length := by
 rcases Nat.lt_or_ge (place xs s) xs.length with h | h
 ·exact h
 ·unfold there at ht; rw [List.getElem?_eq_none h] at ht; cases ht
theorem rises_setL {xs : List Ent} (h : Rises xs) (s v : List UInt8) : Rises (setL xs s v) := by
 unfold setL
 cases ht : there xs s with
 | false => rw [if_neg (by simp)]; exact rises_ins h s v ht
 | true =>
  rw [if_pos rfl]
  obtain ⟨x, hxm⟩ := get_some (there_lt ht)
  have hxn : x.name = s := by unfold there at ht; rw [hxm] at ht; simpa using ht
  have := rises_set h (place xs s) x v hxm
  rwa [hxn] at this
theorem setL_len (xs : List Ent) (s v : List UInt8) : (setL xs s v).length ≤ xs.length + 1 := by
 unfold setL
 split
 ·rw [List.length_set]; omega
 ·rw [List.length_append, List.length_cons, List.length_take, List.length_drop]; omega
def setE (kind : Int) (xs : List Ent) (s v : List UInt8) : List Ent := if Cls.mayB kind s = true then setL xs s v else xs
theorem setE_rises {kind : Int} {xs : List Ent} (h : Rises xs) (s v : List UInt8) : Rises (setE kind xs s v) := by
 unfold setE
 split
 ·exact rises_setL h s v
 ·exact h
theorem setE_len (kind : Int) (xs : List Ent) (s v : List UInt8) : (setE kind xs s v).length ≤ xs.length + 1 := by
 unfold setE
 split
 ·exact setL_len xs s v
 ·omega
def ofL (kind : Int) (l : List Ent) : List Ent := l.foldl (fun xs e => setE kind xs e.name e.val) []
theorem ofL_snoc (kind : Int) (l : List Ent) (k : Nat) (x : Ent) (h : l[k]? = some x) : ofL kind (l.take (k + 1)) = setE kind (ofL kind (l.take k)) x.name x.val := by
 obtain ⟨h1, rfl⟩ := List.getElem?_eq_some_iff.1 h
 unfold ofL
 rw [List.take_succ_eq_append_getElem h1, List.foldl_append]
 rfl
theorem ofL_gen (kind : Int) : ∀ (l xs : List Ent), Rises xs → Rises (l.foldl (fun xs e => setE kind xs e.name e.val) xs) ∧ (l.foldl (fun xs e => setE kind xs e.name e.val) xs).length ≤ xs.length + l.length
 | [], xs, h => ⟨h, by simp⟩
 | e :: r, xs, h => by
  have := ofL_gen kind r (setE kind xs e.name e.val) (setE_rises h _ _)
  have h2 := setE_len kind xs e.name e.val
  simp only [List.foldl_cons, List.length_cons]
  exact ⟨this.1, by omega⟩
theorem ofL_rises (kind : Int) (l : List Ent) : Rises (ofL kind l) := (ofL_gen kind l [] List.Pairwise.nil).1
theorem ofL_len (kind : Int) (l : List Ent) : (ofL kind l).length ≤ l.length := by simpa [ofL] using (ofL_gen kind l [] List.Pairwise.nil).2
structure SetAll (b0 tb : Nat) (lv : Value) (kind : Int) (ys : List Ent) (r : Int) (w : World) (e : Ending) (w' : World) : Prop where
 e : e = .returned (.int .i64 r)
 h : ∃ lv', TabAt w' b0 tb lv' kind ys ∧ (lv'.ownBlock = lv.ownBlock ∨ ∀ k, lv'.ownBlock = some k → w.heap.size ≤ k)
 k : Keeps (fun k => k = tb ∨ (lv.ownBlock = some k ∧ b0 ≤ k)) w w'
def setN (kind : Int) (s : List UInt8) : Int := if Cls.mayB kind s = true then 0 else 5
theorem set_all (w : World) (b0 tb : Nat) (lv : Value) (kind : Int) (xs : List Ent) (s v : List UInt8) (h : TabAt w b0 tb lv kind xs) (hs : s.length ≤ 1073741824) (hv : v.length ≤ 65536) (hx : xs.length < 10000) :
  Calls Tryz.prog 37 #[.pointer (some ⟨tb, 0, none⟩), .string (B s), .string (B v)] w (SetAll b0 tb lv kind (setE kind xs s v) (setN kind s) w) := by
 unfold setE setN
 cases hm : Cls.mayB kind s with
 | false =>
  rw [if_neg (by simp), if_neg (by simp)]
  refine (set_bad w b0 tb lv kind xs s v h hm hs).mono ?_
  rintro e w' ⟨rfl, rfl⟩
  exact ⟨rfl, ⟨lv, h, .inl rfl⟩, Keeps.refl _ _⟩
 | true =>
  rw [if_pos rfl, if_pos rfl]
  unfold setL
  cases ht : there xs s with
  | false =>
   rw [if_neg (by simp)]
   exact (set_new w b0 tb lv kind xs s v h hm hs hv hx ht).mono fun e w' h => ⟨h.e, h.h, h.k⟩
  | true =>
   rw [if_pos rfl]
   exact (set_there w b0 tb lv kind xs s v h hm hs hv (by omega) ht).mono fun e w' h => ⟨h.e, h.h, h.k⟩
def OfP (kind : Int) (ys : List Ent) (w : World) (e : Ending) (w' : World) : Prop := e = .returned (.pointer (some ⟨w.heap.size, 0, none⟩)) ∧ (∃ lv, TabAt w' w.heap.size w.heap.size lv kind ys) ∧ Below w.heap.size w w'
set_option maxHeartbeats 1600000 in
theorem of_ok (kind : Int) (l : List Ent) (u : Value) (w : World) (h1 : 1 ≤ kind) (h2 : kind ≤ 4) (hu : Sl w Ent.cells 2 u l) (hl : l.length < 10000) (hn : ∀ e ∈ l, e.name.length ≤ 1073741824 ∧ e.val.length ≤ 65536) :
  Calls Tryz.prog 13 #[.int .i64 kind, u] w (OfP kind (ofL kind l) w) := by
 have HN := Lib.hid fun w => new_ok kind w h1 h2
 obtain ⟨A, c, rfl, hc1, hc2, hn0, hA⟩ := hu
 have HA := Lib.hid hA
 have HNL := Lib.hid hn
 clear hA hn hn0 h1 h2
 go_enter Tryz.func13, Tryz.ntmps13
 go_wp2_with (go_at_call 36; refine (HN.out _).mono ?_; rintro e w1 ⟨rfl, ht, hb⟩; have HT := Lib.hid ht; have HB := Lib.hid hb; clear ht hb)
 go_loopw [14] (fun i w' => ∃ (k : Nat) (lv : Value), k ≤ l.length ∧ i = .int .i64 k ∧ Hid (TabAt w' w.heap.size w.heap.size lv kind (ofL kind (l.take k))) ∧ Hid (Below w.heap.size w w')) (fun i _ => l.length - (intOf i).toNat)
 case atStart => exact ⟨0, _, by omega, rfl, HT.out, HB.out⟩
 case round =>
  clear HT HB
  obtain ⟨k, lv, hk, rfl, HT, HB⟩ := hrel
  have hbs := HB.out.size
  by_cases hlt : k < l.length
  ·obtain ⟨b, off, rfl, hb, hc⟩ := HA.out (by omega)
   obtain ⟨x, hxm⟩ := get_some hlt
   have e0 := (HB.out.cell (p := ⟨b, off + k * 2, none⟩) hb).trans (by have := hc k _ hxm 0 _ rfl; simpa using this)
   have e1 := (HB.out.cell (p := ⟨b, off + k * 2 + 1, none⟩) hb).trans (hc k _ hxm 1 _ rfl)
   haveI : Old wr b := ⟨by omega⟩
   have k0 : (0 : Int) ≤ (k : Int) := by omega
   have k1 : (k : Int) < (l.length : Int) := by omega
   have hxl := HNL.out x (List.mem_of_getElem? hxm)
   have hle := ofL_len kind (l.take k)
   rw [List.length_take] at hle
   have HS := Lib.hid fun W (hW : Below wr.heap.size wr W) => set_all W w.heap.size w.heap.size lv kind (ofL kind (l.take k)) x.name x.val (HT.out.below hW) hxl.1 hxl.2 (by omega)
   rw [← ofL_snoc kind l k x hxm] at HS
   clear hc hxm hle
   go_wp2_with (go_at_call 37; refine (HS.out _ (by (repeat (first | with_reducible exact Below.refl _ _ | with_reducible assumption | with_reducible refine below_alloc ?_ _ | with_reducible refine below_grow ?_ _ | with_reducible refine below_drewN ?_ _ | with_reducible refine below_drew ?_ | with_reducible refine below_setCell ?_ (by first | (dsimp only; omega) | (simp; done) | (simp; omega)) _)))).mono ?_; rintro e w4 ⟨rfl, ⟨lv2, ht2, -⟩, hk2⟩; have HT2 := Lib.hid ht2; have HB2 := Lib.hid (below_keeps (below_alloc HB.out _) hk2 (fun k hk => hk.elim (fun e => by omega) (·.2))); clear ht2 hk2)
   go_roundw
   case rel => exact ⟨k + 1, lv2, by omega, by go_num, HT2.out, HB2.out⟩
   case measure => simp [intOf]; omega
  ·have hk2 : k = l.length := by omega
   subst hk2
   have ht := HT.out
   rw [List.take_length] at ht
   have HT2 := Lib.hid ht
   have d0 := no hlt
   clear hlt ht
   go_wp2
   go_ret
   exact ⟨rfl, ⟨lv, HT2.out⟩, HB.out⟩
set_option maxHeartbeats 3200000 in
theorem refOf_any (kind : Int) (l : List Ent) (u : Value) (w : World) (hu : Sl w Ent.cells 2 u l) (hl : l.length < 10000) (hn : ∀ e ∈ l, e.name.length ≤ 1073741824 ∧ e.val.length ≤ 65536) :
  Calls Tryz.prog 15 #[.int .i64 kind, u] w (RowP (ofL kind l) w) := by
 obtain ⟨A, c, rfl, hc1, hc2, hn0, hA⟩ := hu
 have HA := Lib.hid hA
 have HNL := Lib.hid hn
 clear hA hn hn0
 go_enter Tryz.func15, Tryz.ntmps15
 go_wp2
 go_loopw [5, 6] (fun o i w' => ∃ (v : Value) (k : Nat), v = o ∧ k ≤ l.length ∧ i = .int .i64 k ∧ Hid (Own w' w.heap.size 2 v (ofL kind (l.take k)).length ((ofL kind (l.take k)).flatMap Ent.cells)) ∧ Hid (Below w.heap.size w w')) (fun _ i _ => l.length - (intOf i).toNat)
 case atStart => exact ⟨_, 0, rfl, by omega, rfl, Own.nil _ _ _, Below.refl _ _⟩
 case round =>
  obtain ⟨v, k, rfl, hk, rfl, HO, HB⟩ := hrel
  have hbs := HB.out.size
  by_cases hlt : k < l.length
  ·obtain ⟨b, off, rfl, hb, hc⟩ := HA.out (by omega)
   obtain ⟨x, hxm⟩ := get_some hlt
   have e0 := (HB.out.cell (p := ⟨b, off + k * 2, none⟩) hb).trans (by have := hc k _ hxm 0 _ rfl; simpa using this)
   have e1 := (HB.out.cell (p := ⟨b, off + k * 2 + 1, none⟩) hb).trans (hc k _ hxm 1 _ rfl)
   haveI : Old wr b := ⟨by omega⟩
   have k0 : (0 : Int) ≤ (k : Int) := by omega
   have k1 : (k : Int) < (l.length : Int) := by omega
   have hxl := HNL.out x (List.mem_of_getElem? hxm)
   have hle := ofL_len kind (l.take k)
   rw [List.length_take] at hle
   have hsn := ofL_snoc kind l k x hxm
   have HSN := Lib.hid hsn
   have hr := ofL_rises kind (l.take k)
   have HX := Lib.hid hxl
   have HR := Lib.hid hr
   generalize hys : ofL kind (l.take k) = ys at *
   clear hc hxm hsn hr hxl
   cases hm : Cls.mayB kind x.name with
   | false =>
    have HSB := Lib.hid fun W => refSet_bad kind v x.name x.val W hm HX.out.1
    have HE : Hid (setE kind ys x.name x.val = ys) := by show _ = _; unfold setE; rw [hm, if_neg (by simp)]
    clear hm
    go_wp2_with fail
    go_region_with (go_at_call 26; refine (HSB.out _).mono ?_; rintro e w4 ⟨rfl, rfl⟩)
    all_goals
     go_wp2
     go_roundw
     case rel => exact ⟨_, k + 1, rfl, by omega, by go_num, by show Own _ _ _ _ _ _; rw [HSN.out, HE.out]; exact HO.out.below (by (repeat (first | exact Below.refl _ _ | assumption | with_reducible refine below_alloc ?_ _ | with_reducible refine below_grow ?_ _ | with_reducible refine below_drewN ?_ _ | with_reducible refine below_drew ?_ | with_reducible refine below_setCell ?_ (by first | (dsimp only; omega) | (simp; done) | (simp; omega)) _))), below_then HB.out (by (repeat (first | exact Below.refl _ _ | assumption | with_reducible refine below_alloc ?_ _ | with_reducible refine below_grow ?_ _ | with_reducible refine below_drewN ?_ _ | with_reducible refine below_drew ?_ | with_reducible refine below_setCell ?_ (by first | (dsimp only; omega) | (simp; done) | (simp; omega)) _)))⟩
     case measure => simp [intOf]; omega
   | true =>
    have HSO := Lib.hid fun W (hW : Below wr.heap.size wr W) => refSet_ok kind ys v x.name x.val W ((HO.out.below hW).sl ent_len rfl) HR.out (by omega) hm HX.out.1 HX.out.2
    have HE : Hid (setE kind ys x.name x.val = setL ys x.name x.val) := by show _ = _; unfold setE; rw [hm, if_pos rfl]
    clear hm
    go_wp2_with fail
    go_region_with (go_at_call 26; refine (HSO.out _ (by (repeat (first | exact Below.refl _ _ | assumption | with_reducible refine below_alloc ?_ _ | with_reducible refine below_grow ?_ _ | with_reducible refine below_drewN ?_ _ | with_reducible refine below_drew ?_ | with_reducible refine below_setCell ?_ (by first | (dsimp only; omega) | (simp; done) | (simp; omega)) _)))).mono ?_; rintro e w4 ⟨v4, rfl, ho4, hb4⟩; have HO4 := Lib.hid ho4; have HB4 := Lib.hid hb4; clear ho4 hb4)
    all_goals
     go_wp2
     go_roundw
     case rel => exact ⟨v4, k + 1, rfl, by omega, by go_num, by show Own _ _ _ _ _ _; rw [HSN.out, HE.out]; exact HO4.out.mono (by simp; omega), below_then HB.out (below_then (by (repeat (first | exact Below.refl _ _ | assumption | with_reducible refine below_alloc ?_ _ | with_reducible refine below_grow ?_ _ | with_reducible refine below_drewN ?_ _ | with_reducible refine below_drew ?_ | with_reducible refine below_setCell ?_ (by first | (dsimp only; omega) | (simp; done) | (simp; omega)) _))) HB4.out)⟩
     case measure => simp [intOf]; omega
  ·have hk2 : k = l.length := by omega
   subst hk2
   have ho := HO.out
   rw [List.take_length] at ho
   have HO2 := Lib.hid ho
   have d0 := no hlt
   clear hlt ho
   go_wp2
   go_ret
   exact ⟨v, rfl, HO2.out, HB.out⟩
end Go.Proofs.YtfmecpnokefokaaGreatDoor.Tab
namespace Go.Proofs.YtfmecpnokefokaaGreatDoor.Tab
open Go.ChangeShapes Go.WideShapes Go.Deep Go.RowKit
set_option maxRecDepth 100000
end Go.Proofs.YtfmecpnokefokaaGreatDoor.Tab
namespace Go.Proofs.YtfmecpnokefokaaGreatDoor
open Go.ChangeShapes Go.WideShapes Go.ChangeAt Go.RowKit
open Go.ChangeMaps (open_string shut_string)
set_option maxRecDepth 100000
section
variable {H : Type} {enc : TypeId × Value → H} {w : World} {base : Nat} {d : DataW H} {p : List MemPlace} {v : Value}
theorem open_text (h : DataW.Trod enc Tryz.prog w 0 (fun _ => true) true 9 v d p) (k : Value.okWide Tryz.prog w .any base 9 v) : ∃ s, v = .string (B s) ∧ s.length ≤ 9223372036854775807 := by
 obtain ⟨a, rfl, rfl, rfl, ha⟩ := open_string Tryz.underlying9 k h
 obtain ⟨s, rfl⟩ := B_all a
 exact ⟨s, rfl, by rw [B_size] at ha; exact ha⟩
end
end Go.Proofs.YtfmecpnokefokaaGreatDoor
namespace Go.Proofs.YtfmecpnokefokaaGreatDoor.Tab
open Go.ChangeShapes Go.WideShapes Go.Deep Go.ChangeAt Go.RowKit
set_option maxRecDepth 100000
def Ent.Ok (x : Ent) : Prop := x.name.length ≤ 9223372036854775807 ∧ x.val.length ≤ 9223372036854775807
theorem ent_cells : Tryz.prog.cellsOf 44 = 2 := by kernel_rfl
theorem Ent.len (x : Ent) : x.cells.length = 2 := rfl
theorem ent_dec {H : Type} {enc : TypeId × Value → H} {w : World} {fuel : Nat} {cs : List Value} {d : DataW H × List MemPlace}
  (h : DataW.trod enc Tryz.prog w 0 (fun _ => true) true fuel 44 cs = some d) : ∃ x : Ent, cs = x.cells ∧ x.Ok := by
 obtain ⟨ys, n, _, _, hl, hyl, hf⟩ := DataW.trod_struct Tryz.underlying44 h
 rw [ent_cells] at hl
 match cs, hl with
 | [c0, c1], _ =>
  have k0 : Tryz.prog.cellsOf 9 = 1 := by kernel_rfl
  have h0 := hf 0 _ rfl
  have h1 := hf 1 _ rfl
  simp [k0] at h0 h1
  have hy0 : ys[0]? = some (ys[0]'(by rw [hyl]; decide)) := List.getElem?_eq_getElem _
  obtain ⟨s0, e0, _, w0⟩ := DataW.trod_string Tryz.underlying9 (h0.trans hy0)
  obtain ⟨a0, rfl⟩ := B_all s0
  rw [B_size] at w0
  have hy1 : ys[1]? = some (ys[1]'(by rw [hyl]; decide)) := List.getElem?_eq_getElem _
  obtain ⟨s1, e1, _, w1⟩ := DataW.trod_string Tryz.underlying9 (h1.trans hy1)
  obtain ⟨a1, rfl⟩ := B_all s1
  rw [B_size] at w1
  simp at e0
  simp at e1
  subst e0
  subst e1
  exact ⟨⟨a0, a1⟩, rfl, w0, w1⟩
end Go.Proofs.YtfmecpnokefokaaGreatDoor.Tab
namespace Go.Proofs.YtfmecpnokefokaaGreatDoor
open Go.RowKit
section
variable {P : Program} {ops : Array Oper} {md : Region.Mode} {C : World → Prop}
end
end Go.Proofs.YtfmecpnokefokaaGreatDoor
namespace Go.Proofs.YtfmecpnokefokaaGreatDoor.Tab
open Go.ChangeShapes Go.WideShapes Go.Deep Go.ChangeAt Go.RowKit
set_option maxRecDepth 100000
structure TAct where
 kind : Int
 name : List UInt8
 val : List UInt8
def TAct.cells (x : TAct) : List Value := [.int .i64 x.kind, .string (B x.name), .string (B x.val)]
def TAct.Ok (x : TAct) : Prop := -9223372036854775808 ≤ x.kind ∧ x.kind ≤ 9223372036854775807 ∧ x.name.length ≤ 9223372036854775807 ∧ x.val.length ≤ 9223372036854775807
theorem getE_eq {xs : List Ent} (h : Rises xs) (s : List UInt8) : getE xs s = if there xs s = true then xs[place xs s]? else none := by
 unfold getE
 cases ht : there xs s with
 | true =>
  rw [if_pos rfl]
  have hp := there_lt ht
  obtain ⟨x, hxm⟩ := get_some hp
  rw [hxm]
  have hq : (x.name == s) = true := by rw [(place_name h s hxm).2.2.2 rfl]; exact ht
  refine List.find?_eq_some_iff_getElem.2 ⟨hq, place xs s, hp, (List.getElem?_eq_some_iff.1 hxm).2, fun j hj => ?_⟩
  have := ((place_name h s (List.getElem?_eq_getElem (show j < xs.length by omega))).1 hj).2
  simpa using this
 | false =>
  rw [if_neg (by simp)]
  refine List.find?_eq_none.2 fun x hx => ?_
  obtain ⟨k, hk⟩ := List.mem_iff_getElem?.1 hx
  obtain ⟨p1, p2, p3, p4⟩ := place_name h s hk
  rcases Nat.lt_trichotomy k (place xs s) with h1 | h1 | h1
  ·rw [(p1 h1).2]; simp
  ·rw [p4 h1, ht]; simp
  ·rw [p3 h1]; simp
theorem own_new {w w' : World} {b0 sz n : Nat} {v : Value} {xs : List Value} (h : Own w' w.heap.size sz v n xs) (hb : b0 ≤ w.heap.size) : Own w' b0 sz v n xs := h.mono hb
structure PlayI (w w' : World) (tb : Nat) (kind : Int) (lv u : Value) (xs : List Ent) (k : Nat) : Prop where
 t : TabAt w' w.heap.size tb lv kind xs
 o : Own w' w.heap.size 2 u xs.length (xs.flatMap Ent.cells)
 d : ∀ j, u.ownBlock = some j → lv.ownBlock ≠ some j ∧ j ≠ tb
 n : xs.length ≤ k
 b : Below w.heap.size w w'
structure PlayM (w w' : World) (tb : Nat) (kind : Int) (lv u : Value) (xs ys : List Ent) (k : Nat) : Prop where
 t : TabAt w' w.heap.size tb lv kind xs
 o : Own w' w.heap.size 2 u ys.length (ys.flatMap Ent.cells)
 d : ∀ j, u.ownBlock = some j → lv.ownBlock ≠ some j ∧ j ≠ tb
 n : xs.length ≤ k
 m : ys.length ≤ k + 1
 b : Below w.heap.size w w'
end Go.Proofs.YtfmecpnokefokaaGreatDoor.Tab
namespace Go.Proofs.YtfmecpnokefokaaGreatDoor.Ex
open Go.ChangeShapes Go.WideShapes Go.Deep Go.RowKit Cls Md Mc Pa Li Pat Bd
set_option maxRecDepth 100000
def lookR (xs : List Tab.Ent) : Look := fun s => if isNameB s = true then (Tab.getE xs s).map (·.val) else none
end Go.Proofs.YtfmecpnokefokaaGreatDoor.Ex
namespace Go.Proofs.YtfmecpnokefokaaGreatDoor.Ex
open Go.ChangeShapes Go.WideShapes Go.Deep Go.RowKit Cls Md Mc Pa Li Pat
theorem look_eq {xs : List Tab.Ent} (h : Tab.Rises xs) : lookT xs = lookR xs := by
 funext s
 unfold lookT lookR
 rw [Tab.getE_eq h]
 by_cases h1 : isNameB s = true
 ·by_cases h2 : Tab.there xs s = true
  ·rw [if_pos ⟨h1, h2⟩, if_pos h1, if_pos h2]
   unfold Tab.valOf
   rw [if_pos h2]
   unfold Tab.there at h2
   rw [beq_iff_eq] at h2
   cases hx : xs[Tab.place xs s]? with
   | none => rw [hx] at h2; cases h2
   | some x => rfl
  ·rw [if_neg (fun k => h2 k.2), if_pos h1, if_neg h2]
   rfl
 ·rw [if_neg (fun k => h1 k.1), if_neg h1]
theorem look_len {xs : List Tab.Ent} {n : Nat} (h : ∀ x ∈ xs, x.val.length < n) {s v : List UInt8} (hv : lookR xs s = some v) : v.length < n := by
 unfold lookR at hv
 split at hv
 ·cases he : Tab.getE xs s with
  | none => rw [he] at hv; cases hv
  | some x =>
   rw [he] at hv
   cases hv
   unfold Tab.getE at he
   exact h x (List.mem_of_find?_eq_some he)
 ·cases hv
theorem words_tab (w0 : World) (b0 tb : Nat) (lv : Value) (kind : Int) (xs : List Tab.Ent) (hm : MaxL w0) (h : Tab.TabAt w0 b0 tb lv kind xs) (hr : Tab.Rises xs) (hx : xs.length ≤ 1048576) {M : Nat} (hM0 : 0 < M) (hM : M ≤ 1048577) (hI : ItoaC w0 M) (hl : ∀ x ∈ xs, x.val.length < M) :
  ∀ f, f ≤ 30001 →
  (∀ (u : List UInt8) (W : World), Below w0.heap.size w0 W → u.length < f → Calls Tryz.prog 12 #[.pointer (some ⟨tb, 0, none⟩), .string (B u)] W (PcsP (expG (lookR xs) f u) W)) ∧
  (∀ (u : List UInt8) (W : World), Below w0.heap.size w0 W → u.length < f → Calls Tryz.prog 16 #[.pointer (some ⟨tb, 0, none⟩), .string (B u)] W (ResP (textG (lookR xs) f u) W)) ∧
  (∀ (u : List UInt8) (W : World), Below w0.heap.size w0 W → u.length < f → Calls Tryz.prog 17 #[.pointer (some ⟨tb, 0, none⟩), .string (B u)] W (ResP (patG (lookR xs) f u) W)) := by
 have hg := get_tab w0 b0 tb lv kind xs h hx
 rw [look_eq hr] at hg
 exact words_all hm hg hM0 hM hI (fun b v hv => look_len hl hv)
theorem setL_mem {xs : List Tab.Ent} {s v : List UInt8} {x : Tab.Ent} (h : x ∈ Tab.setL xs s v) : x ∈ xs ∨ x = ⟨s, v⟩ := by
 unfold Tab.setL at h
 split at h
 ·rcases List.mem_or_eq_of_mem_set h with h | h
  ·exact .inl h
  ·exact .inr h
 ·rcases List.mem_append.1 h with h | h
  ·exact .inl (List.mem_of_mem_take h)
  ·rcases List.mem_cons.1 h with h | h
   ·exact .inr h
   ·exact .inl (List.mem_of_mem_drop h)
theorem ofL_mem (kind : Int) (P : Tab.Ent → Prop) : ∀ (l xs : List Tab.Ent), (∀ x ∈ l, P x) → (∀ x ∈ xs, P x) → ∀ x ∈ l.foldl (fun xs e => Tab.setE kind xs e.name e.val) xs, P x
 | [], xs, _, h, x, hx => h x hx
 | e :: r, xs, hl, h, x, hx => by
  rw [List.foldl_cons] at hx
  refine ofL_mem kind P r _ (fun y hy => hl y (List.mem_cons_of_mem _ hy)) (fun y hy => ?_) x hx
  unfold Tab.setE at hy
  split at hy
  ·rcases setL_mem hy with q | q
   ·exact h y q
   ·rw [q]; exact hl e (List.mem_cons_self ..)
  ·exact h y hy
theorem ofL_val {l : List Tab.Ent} {n : Nat} (h : ∀ x ∈ l, x.val.length < n) : ∀ x ∈ Tab.ofL 1 l, x.val.length < n := ofL_mem 1 (fun x => x.val.length < n) l [] h (fun _ h => by cases h)
end Go.Proofs.YtfmecpnokefokaaGreatDoor.Ex
