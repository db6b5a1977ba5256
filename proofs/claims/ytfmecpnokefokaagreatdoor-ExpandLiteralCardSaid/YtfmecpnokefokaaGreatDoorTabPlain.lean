/-
  Names in order (layer 19): the order of texts, rows of entries that rise, where a name stands. No program in sight.
-/
import Derived.Test.YtfmecpnokefokaaGreatDoorPat19
import Derived.Test.YtfmecpnokefokaaGreatDoorKeyed2
import Derived.Test.YtfmecpnokefokaaGreatDoorPcGood
import Derived.Test.YtfmecpnokefokaaGreatDoorMachC
import Derived.Lib.ItoaNum
import Derived.Lib.Bytealg
set_option linter.unusedSimpArgs false
set_option linter.unusedVariables false
namespace Go.Proofs.YtfmecpnokefokaaGreatDoor.Pat
open Go.ChangeShapes Go.WideShapes Go.Deep Go.RowKit
set_option maxRecDepth 100000
def evs (f : Nat → Bool) : Nat → List Int
 | 0 => []
 | k + 1 => if f k = true then evs f k ++ [(k : Int)] else evs f k
theorem evs_yes {f : Nat → Bool} {k : Nat} (h : f k = true) : evs f (k + 1) = evs f k ++ [(k : Int)] := by conv => lhs; unfold evs; rw [if_pos h]
theorem evs_no {f : Nat → Bool} {k : Nat} (h : f k = false) : evs f (k + 1) = evs f k := by conv => lhs; unfold evs; rw [if_neg (by rw [h]; simp)]
theorem evs_len (f : Nat → Bool) : ∀ k, (evs f k).length ≤ k
 | 0 => by simp [evs]
 | k + 1 => by
  have := evs_len f k
  unfold evs
  split <;> simp <;> omega
def EvP (f : Nat → Bool) (n : Nat) (w : World) (e : Ending) (w' : World) : Prop := ∃ v, e = .returned v ∧ Own w' w.heap.size 1 v (evs f n).length ((evs f n).flatMap numC) ∧ Below w.heap.size w w'
set_option maxHeartbeats 1600000 in
theorem heads_any (p s : List UInt8) (w : World) (hm : MaxL w) (hp : p.length ≤ 1073741824) (hs : s.length ≤ 1073741824) :
  Calls Tryz.prog 153 #[.string (B p), .string (B s)] w (EvP (fun n => gm (parse p) (s.take n)) (s.length + 1) w) := by
 obtain ⟨i1, hi1, hz10, hz11, hz12⟩ := info_parts info_num
 have HP := Lib.hid (parse_any p w hm hp)
 have hpl := parse_len p
 have HMT := Lib.hid fun n v w hv => match_any (parse p) (s.take n) v w hv (by omega) (by simp; omega)
 clear hm
 go_enter Tryz.func153, Tryz.ntmps153
 go_wp2_with (go_at_call 172; refine HP.out.mono ?_; rintro e w1 ⟨vl, rfl, hv, hb⟩; have HV := Lib.hid hv; have HV1 := Lib.hid hv; obtain ⟨g, rfl⟩ := to_grow hb; have hw1 := hb.size; clear hv hb)
 have HB0 := Lib.hid (below_grow (Below.refl _ w) g)
 generalize grow w g = W1 at *
 go_loopw [4, 6] (fun s4 i w' => ∃ (v : Value) (k : Nat), v = s4 ∧ i = .int .i64 k ∧ k ≤ s.length + 1 ∧ Hid (Own w' W1.heap.size 1 v (evs (fun n => gm (parse p) (s.take n)) k).length ((evs (fun n => gm (parse p) (s.take n)) k).flatMap numC)) ∧ Hid (Sl w' atC 6 vl (parse p)) ∧ Hid (Below W1.heap.size W1 w')) (fun _ i _ => s.length + 1 - (intOf i).toNat)
 case atStart => exact ⟨_, 0, rfl, rfl, by omega, Own.nil _ _ _, HV.out, Below.refl _ _⟩
 case round =>
  clear HV
  obtain ⟨v, k, rfl, rfl, hk, HO, HV, HB⟩ := hrel
  have hbs := HB.out.size
  by_cases hkl : k ≤ s.length
  rotate_left
  ·have hk2 : k = s.length + 1 := by omega
   have ho := HO.out
   rw [hk2] at ho
   have HO2 := Lib.hid ho
   have d0 := no hkl
   clear ho hk2 hkl
   go_wp2
   go_ret
   exact ⟨_, rfl, HO2.out.mono hw1, below_then HB0.out HB.out⟩
  have k0 : (0 : Int) ≤ (k : Int) := by omega
  have k1 : (k : Int) ≤ (s.length : Int) := by omega
  have hel := evs_len (fun n => gm (parse p) (s.take n)) k
  have HMK := Lib.hid (HMT.out k vl wr HV.out)
  cases hx : gm (parse p) (s.take k) with
  | true =>
   have HE := Lib.hid (evs_yes (f := fun n => gm (parse p) (s.take n)) (k := k) hx)
   rw [hx] at HMK
   clear hx
   go_wp2_with (first | (go_at_call 173; refine HMK.out.mono ?_; rintro e w2 ⟨rfl, hb⟩; have hgs := hb.size; have HB2 := Lib.hid hb; have HV2 := Lib.hid (HV.out.below hb); have HOa := Lib.hid (HO.out.below hb); clear hb) | ((at_builtin; refine wpList_append_src _ rfl (.tmp 20) (.tmp 22) _ rfl W1.heap.size 3 i1 _ 1 8 Tryz.underlying112 hi1 hz10 hz11 hz12 rfl (by decide) _ (evs (fun n => gm (parse p) (s.take n)) k).length ((evs (fun n => gm (parse p) (s.take n)) k).flatMap numC) rfl (HOa.out.below (by (repeat (first | exact Below.refl _ _ | assumption | with_reducible refine below_alloc ?_ _ | with_reducible refine below_grow ?_ _ | with_reducible refine below_drewN ?_ _ | with_reducible refine below_drew ?_ | with_reducible refine below_setCell ?_ (by first | (dsimp only; omega) | (simp; done) | (simp; omega)) _)))) _ 1 (numC (k : Int)) rfl rfl (Src.one _ _ _ _) (by simp [numC, Value.oneCell']) (by unfold maxLen; omega) (by omega) (by first | (simp; done) | omega | (simp; omega)) ?_; intro v1 w1 hown1 hg1 hat1 hty1; have HTY1 := Lib.hid hty1; clear hty1); have HW := Lib.hid (And.intro hown1 hg1); clear hown1 hg1 hat1))
   go_roundw
   case rel =>
    have hb3 := below_keeps (below_then HB.out (below_then HB2.out (below_alloc (Below.refl _ _) _))) HW.out.2 (fun k hk => hk.2)
    refine ⟨v1, k + 1, rfl, by go_num, by omega, ?_, ?_, hb3⟩
    ·have := HW.out.1
     show Own _ _ _ _ _ _
     rw [HE.out]
     simpa using this
    ·show Sl _ _ _ _ _
     exact HV1.out.old (HV2.out.below (below_alloc (Below.refl _ _) _)) HW.out.2 (fun k hk => hk.2)
   case measure => simp [intOf]; omega
  | false =>
   have HE := Lib.hid (evs_no (f := fun n => gm (parse p) (s.take n)) (k := k) hx)
   rw [hx] at HMK
   clear hx
   go_wp2_with (go_at_call 173; refine HMK.out.mono ?_; rintro e w2 ⟨rfl, hb⟩; have HB2 := Lib.hid hb; have HV2 := Lib.hid (HV.out.below hb); have HOa := Lib.hid (HO.out.below hb); clear hb)
   go_roundw
   case rel => exact ⟨_, k + 1, rfl, by go_num, by omega, by show Own _ _ _ _ _ _; rw [HE.out]; exact HOa.out, HV2.out, below_then HB.out HB2.out⟩
   case measure => simp [intOf]; omega
set_option maxHeartbeats 1600000 in
theorem tails_any (p s : List UInt8) (w : World) (hm : MaxL w) (hp : p.length ≤ 1073741824) (hs : s.length ≤ 1073741824) :
  Calls Tryz.prog 152 #[.string (B p), .string (B s)] w (EvP (fun n => gm (parse p) (s.drop n)) (s.length + 1) w) := by
 obtain ⟨i1, hi1, hz10, hz11, hz12⟩ := info_parts info_num
 have HP := Lib.hid (parse_any p w hm hp)
 have hpl := parse_len p
 have HMT := Lib.hid fun n v w hv => match_any (parse p) (s.drop n) v w hv (by omega) (by simp; omega)
 clear hm
 go_enter Tryz.func152, Tryz.ntmps152
 go_wp2_with (go_at_call 172; refine HP.out.mono ?_; rintro e w1 ⟨vl, rfl, hv, hb⟩; have HV := Lib.hid hv; have HV1 := Lib.hid hv; obtain ⟨g, rfl⟩ := to_grow hb; have hw1 := hb.size; clear hv hb)
 have HB0 := Lib.hid (below_grow (Below.refl _ w) g)
 generalize grow w g = W1 at *
 go_loopw [4, 6] (fun s4 i w' => ∃ (v : Value) (k : Nat), v = s4 ∧ i = .int .i64 k ∧ k ≤ s.length + 1 ∧ Hid (Own w' W1.heap.size 1 v (evs (fun n => gm (parse p) (s.drop n)) k).length ((evs (fun n => gm (parse p) (s.drop n)) k).flatMap numC)) ∧ Hid (Sl w' atC 6 vl (parse p)) ∧ Hid (Below W1.heap.size W1 w')) (fun _ i _ => s.length + 1 - (intOf i).toNat)
 case atStart => exact ⟨_, 0, rfl, rfl, by omega, Own.nil _ _ _, HV.out, Below.refl _ _⟩
 case round =>
  clear HV
  obtain ⟨v, k, rfl, rfl, hk, HO, HV, HB⟩ := hrel
  have hbs := HB.out.size
  by_cases hkl : k ≤ s.length
  rotate_left
  ·have hk2 : k = s.length + 1 := by omega
   have ho := HO.out
   rw [hk2] at ho
   have HO2 := Lib.hid ho
   have d0 := no hkl
   clear ho hk2 hkl
   go_wp2
   go_ret
   exact ⟨_, rfl, HO2.out.mono hw1, below_then HB0.out HB.out⟩
  have k0 : (0 : Int) ≤ (k : Int) := by omega
  have k1 : (k : Int) ≤ (s.length : Int) := by omega
  have hel := evs_len (fun n => gm (parse p) (s.drop n)) k
  have HMK := Lib.hid (HMT.out k vl wr HV.out)
  cases hx : gm (parse p) (s.drop k) with
  | true =>
   have HE := Lib.hid (evs_yes (f := fun n => gm (parse p) (s.drop n)) (k := k) hx)
   rw [hx] at HMK
   clear hx
   go_wp2_with (first | (go_at_call 173; refine HMK.out.mono ?_; rintro e w2 ⟨rfl, hb⟩; have hgs := hb.size; have HB2 := Lib.hid hb; have HV2 := Lib.hid (HV.out.below hb); have HOa := Lib.hid (HO.out.below hb); clear hb) | ((at_builtin; refine wpList_append_src _ rfl (.tmp 20) (.tmp 22) _ rfl W1.heap.size 3 i1 _ 1 8 Tryz.underlying112 hi1 hz10 hz11 hz12 rfl (by decide) _ (evs (fun n => gm (parse p) (s.drop n)) k).length ((evs (fun n => gm (parse p) (s.drop n)) k).flatMap numC) rfl (HOa.out.below (by (repeat (first | exact Below.refl _ _ | assumption | with_reducible refine below_alloc ?_ _ | with_reducible refine below_grow ?_ _ | with_reducible refine below_drewN ?_ _ | with_reducible refine below_drew ?_ | with_reducible refine below_setCell ?_ (by first | (dsimp only; omega) | (simp; done) | (simp; omega)) _)))) _ 1 (numC (k : Int)) rfl rfl (Src.one _ _ _ _) (by simp [numC, Value.oneCell']) (by unfold maxLen; omega) (by omega) (by first | (simp; done) | omega | (simp; omega)) ?_; intro v1 w1 hown1 hg1 hat1 hty1; have HTY1 := Lib.hid hty1; clear hty1); have HW := Lib.hid (And.intro hown1 hg1); clear hown1 hg1 hat1))
   go_roundw
   case rel =>
    have hb3 := below_keeps (below_then HB.out (below_then HB2.out (below_alloc (Below.refl _ _) _))) HW.out.2 (fun k hk => hk.2)
    refine ⟨v1, k + 1, rfl, by go_num, by omega, ?_, ?_, hb3⟩
    ·have := HW.out.1
     show Own _ _ _ _ _ _
     rw [HE.out]
     simpa using this
    ·show Sl _ _ _ _ _
     exact HV1.out.old (HV2.out.below (below_alloc (Below.refl _ _) _)) HW.out.2 (fun k hk => hk.2)
   case measure => simp [intOf]; omega
  | false =>
   have HE := Lib.hid (evs_no (f := fun n => gm (parse p) (s.drop n)) (k := k) hx)
   rw [hx] at HMK
   clear hx
   go_wp2_with (go_at_call 173; refine HMK.out.mono ?_; rintro e w2 ⟨rfl, hb⟩; have HB2 := Lib.hid hb; have HV2 := Lib.hid (HV.out.below hb); have HOa := Lib.hid (HO.out.below hb); clear hb)
   go_roundw
   case rel => exact ⟨_, k + 1, rfl, by go_num, by omega, by show Own _ _ _ _ _ _; rw [HE.out]; exact HOa.out, HV2.out, below_then HB.out HB2.out⟩
   case measure => simp [intOf]; omega
end Go.Proofs.YtfmecpnokefokaaGreatDoor.Pat
namespace Go.Proofs.YtfmecpnokefokaaGreatDoor.Ex
open Cls Md Mc Pa Li Pat
abbrev Look := List UInt8 → Option (List UInt8)
def opG : List UInt8 → List UInt8
 | [] => []
 | c :: r => if c = 58 then (match r with
   | d :: _ => if d = 45 ∨ d = 43 ∨ d = 61 ∨ d = 63 then [58, d] else []
   | [] => [])
  else if (c = 37 ∨ c = 35) ∧ r.head? = some c then [c, c]
  else if c = 45 ∨ c = 43 ∨ c = 61 ∨ c = 63 ∨ c = 37 ∨ c = 35 then [c] else []
def cutG (v op p : List UInt8) : List UInt8 :=
 if op = [37] ∨ op = [37, 37] then
  let l := evs (fun n => gm (parse p) (v.drop n)) (v.length + 1)
  if l = [] then v else v.take ((if op = [37, 37] then l.headD 0 else l.getLastD 0)).toNat
 else
  let l := evs (fun n => gm (parse p) (v.take n)) (v.length + 1)
  if l = [] then v else v.drop ((if op = [35, 35] then l.getLastD 0 else l.headD 0)).toNat
def chooseG (v : List UInt8) (has : Bool) (op : List UInt8) : List UInt8 × Bool :=
 if (op.getLast? == some 43) = (if op.head? = some 58 then has && v != [] else has) then ([], true)
 else if (op.getLast? == some 43) = true then ([], false) else (v, false)
abbrev Res := List UInt8 × Int
def braG (T P : List UInt8 → Res) (g : Look) (s : List UInt8) (q : Bool) : Res :=
 if s.head? = some 35 ∧ 0 < paramN s 1 ∧ 1 + paramN s 1 = s.length then (Lib.decDigits ((g (s.drop 1)).getD []).length, 0)
 else if paramN s 0 = 0 then ([], 4)
 else
  let n := paramN s 0
  let v := (g (s.take n)).getD []
  let op := opG (s.drop n)
  let w0 := s.drop (n + op.length)
  let w := if q = true then 34 :: (w0 ++ [34]) else w0
  if op = [] then (if n < s.length then ([], 4) else (v, 0))
  else if op = [58, 61] ∨ op = [61] ∨ op = [58, 63] ∨ op = [63] then ([], 8)
  else if op = [58, 45] ∨ op = [45] ∨ op = [58, 43] ∨ op = [43] then
   (if (chooseG v (g (s.take n)).isSome op).2 = true then T w else ((chooseG v (g (s.take n)).isSome op).1, 0))
  else if (P w).2 ≠ 0 then ([], (P w).2) else (cutG v op (P w).1, 0)
def openG (p : Pc) : Bool := if p.qu = true then closL (run (34 :: p.tx)).l != [34] else closL (run p.tx).l != []
def oneG (T P : List UInt8 → Res) (g : Look) (p : Pc) : Res :=
 if openG p = true then ([], 9)
 else if p.tx.take 2 = [36, 123] then braG T P g ((p.tx.take (p.tx.length - 1)).drop 2) p.qu
 else if p.tx.take 2 = [36, 40] ∨ p.tx.head? = some 96 then ([], 8)
 else ((g (p.tx.drop 1)).getD [], 0)
def stepE (one : Pc → Res) (p : Pc) : Res := if p.ex = true then one p else (p.tx, 0)
def errE (n : Nat) (r : Res) : Int := if r.2 = 0 ∧ 1048576 < n + r.1.length then 2 else r.2
def tellE (one : Pc → Res) : Nat → List Pc → List (Pc × Int)
 | _, [] => []
 | n, p :: r => (⟨p.ex, p.qu, (stepE one p).1⟩, errE n (stepE one p)) :: tellE one (n + (stepE one p).1.length) r
def takeE : List (Pc × Int) → List Pc → List Pc × Int
 | [], acc => (acc, 0)
 | (p, e) :: r, acc => if e ≠ 0 then ([], e) else takeE r (acc ++ [p])
def patC (p : Pc) : List UInt8 := if p.qu = true then p.tx.flatMap fun c => [92, c] else p.tx
def expG (g : Look) : Nat → List UInt8 → List Pc × Int
 | 0, _ => ([], 0)
 | f + 1, w => takeE (tellE (oneG (fun u => (txL (expG g f u).1, (expG g f u).2)) (fun u => ((expG g f u).1.flatMap patC, (expG g f u).2)) g) 0 (piecesL w)) []
def textG (g : Look) (f : Nat) (w : List UInt8) : Res := (txL (expG g f w).1, (expG g f w).2)
def patG (g : Look) (f : Nat) (w : List UInt8) : Res := ((expG g f w).1.flatMap patC, (expG g f w).2)
theorem expG_succ (g : Look) (f : Nat) (w : List UInt8) : expG g (f + 1) w = takeE (tellE (oneG (textG g f) (patG g f) g) 0 (piecesL w)) [] := rfl
theorem takeE_len (one : Pc → Res) : ∀ (l : List Pc) (n : Nat) (acc : List Pc), (txL acc).length = n → n ≤ 1048576 → (txL (takeE (tellE one n l) acc).1).length ≤ 1048576
 | [], n, acc, h, hn => by rw [tellE, takeE]; dsimp only; omega
 | p :: r, n, acc, h, hn => by
  rw [tellE, takeE]
  split
  ·simp [txL]
  ·rename_i he
   refine takeE_len one r _ _ ?_ ?_
   ·simp [txL] at h ⊢
    rw [h]
   ·unfold errE at he
    split at he
    ·exact absurd (by decide) he
    ·rename_i h2
     apply Classical.byContradiction
     intro h3
     refine h2 ⟨?_, by omega⟩
     apply Classical.byContradiction
     exact he
theorem exp_len (g : Look) (f : Nat) (w : List UInt8) : (txL (expG g f w).1).length ≤ 1048576 := by
 cases f with
 | zero => simp [expG, txL]
 | succ f =>
  rw [expG_succ]
  exact takeE_len _ _ 0 [] rfl (by omega)
theorem text_len (g : Look) (f : Nat) (w : List UInt8) : (textG g f w).1.length ≤ 1048576 := exp_len g f w
theorem pat_le : ∀ l : List Pc, (l.flatMap patC).length ≤ 2 * (txL l).length
 | [] => by simp
 | p :: l => by
  have h := pat_le l
  have h2 : (patC p).length ≤ 2 * p.tx.length := by
   unfold patC
   split
   ·rw [List.length_flatMap]
    simp
    have : (List.map (fun _ : UInt8 => 2) p.tx).sum = 2 * p.tx.length := by
     induction p.tx with
     | nil => rfl
     | cons a r ih => simp [ih]; omega
    omega
   ·omega
  simp [txL] at h ⊢
  omega
theorem pat_len (g : Look) (f : Nat) (w : List UInt8) : (patG g f w).1.length ≤ 2097152 := by
 have h1 := pat_le (expG g f w).1
 have h2 := exp_len g f w
 unfold patG
 dsimp only
 omega
end Go.Proofs.YtfmecpnokefokaaGreatDoor.Ex
namespace Go.Proofs.YtfmecpnokefokaaGreatDoor.Tab
open Go.Lib
theorem cmp_cons (x y : UInt8) (a b : List UInt8) : compareBytes (x :: a) (y :: b) = if x.toNat < y.toNat then -1 else if y.toNat < x.toNat then 1 else compareBytes a b := by
 conv => lhs; unfold compareBytes
 simp only [UInt8.lt_iff_toNat_lt]
theorem cmp_self : ∀ a, compareBytes a a = 0
 | [] => rfl
 | x :: a => by rw [cmp_cons, if_neg (Nat.lt_irrefl _), if_neg (Nat.lt_irrefl _), cmp_self a]
theorem cmp_zero : ∀ {a b}, compareBytes a b = 0 → a = b
 | [], [], _ => rfl
 | [], y :: b, h => by simp [compareBytes] at h
 | x :: a, [], h => by simp [compareBytes] at h
 | x :: a, y :: b, h => by
  rw [cmp_cons] at h
  split at h
  ·cases h
  ·split at h
   ·cases h
   ·rw [cmp_zero h, UInt8.toNat_inj.1 (by omega : x.toNat = y.toNat)]
theorem cmp_anti : ∀ (a b), compareBytes b a = - compareBytes a b
 | [], [] => rfl
 | [], y :: b => rfl
 | x :: a, [] => rfl
 | x :: a, y :: b => by
  rw [cmp_cons, cmp_cons, cmp_anti a b]
  repeat' split
  all_goals omega
theorem cmp_trans : ∀ {a b c}, compareBytes a b < 0 → compareBytes b c < 0 → compareBytes a c < 0
 | [], [], c, h, _ => by simp [compareBytes] at h
 | [], y :: b, [], _, h => by simp [compareBytes] at h
 | [], y :: b, z :: c, _, _ => by simp [compareBytes]
 | x :: a, [], c, h, _ => by simp [compareBytes] at h
 | x :: a, y :: b, [], _, h => by simp [compareBytes] at h
 | x :: a, y :: b, z :: c, h, h' => by
  rw [cmp_cons] at h h' ⊢
  by_cases h1 : x.toNat < z.toNat
  ·rw [if_pos h1]; decide
  ·rw [if_neg h1]
   split at h
   ·rw [if_neg (by omega)] at h'
    rw [if_pos (by omega)] at h'
    simp at h'
   ·split at h
    ·simp at h
    ·split at h'
     ·omega
     ·split at h'
      ·simp at h'
      ·rw [if_neg (by omega)]
       exact cmp_trans h h'
structure Ent where
 name : List UInt8
 val : List UInt8
def Rises (xs : List Ent) : Prop := xs.Pairwise fun a b => compareBytes a.name b.name < 0
def place (xs : List Ent) (s : List UInt8) : Nat := (xs.takeWhile fun e => compareBytes e.name s < 0).length
theorem place_le (xs : List Ent) (s : List UInt8) : place xs s ≤ xs.length := by
 unfold place
 induction xs with
 | nil => simp
 | cons e xs ih => rw [List.takeWhile_cons]; split <;> simp <;> omega
theorem place_iff {xs : List Ent} (h : Rises xs) (s : List UInt8) {t : Nat} (ht : t < xs.length) : compareBytes xs[t].name s < 0 ↔ t < place xs s := by
 induction xs generalizing t with
 | nil => simp at ht
 | cons e xs ih =>
  have hp := List.pairwise_cons.1 h
  unfold place at *
  rw [List.takeWhile_cons]
  by_cases he : compareBytes e.name s < 0
  ·rw [if_pos (by simpa using he)]
   cases t with
   | zero => simp [he]
   | succ t => simpa using ih hp.2 (by simpa using ht)
  ·rw [if_neg (by simpa using he)]
   simp only [List.length_nil, Nat.not_lt_zero, iff_false]
   cases t with
   | zero => simpa using he
   | succ t =>
    intro hlt
    have hm : xs[t]'(by simpa using ht) ∈ xs := List.getElem_mem _
    exact he (cmp_trans (hp.1 _ hm) (by simpa using hlt))
end Go.Proofs.YtfmecpnokefokaaGreatDoor.Tab
