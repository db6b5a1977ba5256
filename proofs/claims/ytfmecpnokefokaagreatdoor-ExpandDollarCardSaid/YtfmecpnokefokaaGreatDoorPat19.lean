/-
  The walks of layer 16 (pattern): Match, by the program and by the reference. Conditions: texts of at most 2^30 bytes; the library's variable MaxLen holds some number.
-/
import Derived.Test.YtfmecpnokefokaaGreatDoorPat14
import Derived.Test.YtfmecpnokefokaaGreatDoorKeyed2
set_option linter.unusedSimpArgs false
set_option linter.unusedVariables false
namespace Go.Proofs.YtfmecpnokefokaaGreatDoor.Pat
open Go.ChangeShapes Go.WideShapes Go.Deep Go.RowKit Go.Shelf
attribute [local go_sem] Oper.semAt_some
set_option maxRecDepth 100000
def encA (a : At) : Array Value := #[atV a]
@[go_sem] theorem encA_eq (a : At) : encA a = #[atV a] := rfl
set_option maxHeartbeats 2000000 in
theorem atoms1 (n : Nat) (hn : 1 ≤ n) (l b1 : Nat) (p : List UInt8) (hp : p.length ≤ 1073741824) (J Jx : List At → World → Prop)
  (hY : ∀ pre x W, J pre W → pre.length < (parse p).length → YieldAt Fence.wide (n - 1) Tryz.prog l (encA x) W fun e W' =>
   (e = .returned (.bool true) ∧ J (pre ++ [x]) W' ∧ KeepG (fun k => k = b1 ∨ k = 0) W W') ∨ (e = .returned (.bool false) ∧ Jx (pre ++ [x]) W'))
  (hJb : ∀ pre W W', Below W.heap.size W W' → J pre W → J pre W')
  (W : World) (h1 : W.cell? ⟨b1, 0, none⟩ = some (.string (B p))) (hm : MaxL W) (h0 : J [] W) :
  CallsIn Fence.wide n Tryz.prog 191 #[.func (.yield l) #[] #[], .pointer (some ⟨b1, 0, none⟩)] W fun e W' => (∃ v, e = .returned v) ∧
   ((∃ ys, ys = parse p ∧ J ys W') ∨ (∃ pre, pre <+: parse p ∧ Jx pre W')) := by
 have HY := Lib.hid hY
 have HJB := Lib.hid hJb
 have HM0 := Lib.hid hm
 clear hY hJb hm
 refine callsIn_of_wp Tryz.func191 rfl trivial ?_ rfl
 simp only [Tryz.ntmps191, List.size_toArray, List.length_cons, List.length_nil, Nat.reduceAdd, Nat.reduceSub, Array.replicate_succ, Array.replicate_zero, List.push_toArray, List.append_toArray, List.nil_append, List.cons_append]
 gi_wp2
 gi_loopw [3] (fun i wr => ∃ (k : Nat) (pre : List At), k ≤ p.length ∧ i = .int .i64 k ∧ wr.cell? ⟨b1, 0, none⟩ = some (.string (B p)) ∧ Hid (MaxL wr) ∧ Hid (parse p = pre ++ parseFrom p k) ∧ Hid (J pre wr)) (fun i _ => p.length - (intOf i).toNat)
 case atStart => exact ⟨0, [], by omega, rfl, h1, HM0.out, rfl, h0⟩
 case round =>
  clear h1 HM0 h0
  obtain ⟨k, pre, hk, rfl, c1, HM, HP, HJ⟩ := hrel
  by_cases hlt : k < p.length
  ·have hx : p[k]? = some p[k] := List.getElem?_eq_getElem hlt
   have hst := parseFrom_step hx
   have he := atomAt_end hx
   have HA := Lib.hid (atom_any p k wr HM.out hp hlt)
   unfold AtomP at HA
   have hb1 : b1 < wr.heap.size := World.block_lt_of_cell? wr _ c1
   haveI : Old wr b1 := ⟨hb1⟩
   have hP2 : parse p = (pre ++ [(atomAt p k p[k]).1]) ++ parseFrom p (atomAt p k p[k]).2 := by rw [HP.out, hst]; simp
   have hlen : pre.length < (parse p).length := by rw [hP2]; simp
   have HP2 := Lib.hid hP2
   clear hx hst hP2
   generalize (atomAt p k p[k]).1 = a at *
   generalize (atomAt p k p[k]).2 = q at *
   unfold atV at HA
   have HAV : Hid (encA a = #[.agg #[.int .i64 a.kind, .int .u8 a.byt.toNat, .int .u64 (wordOf a.fs 0 : Nat), .int .u64 (wordOf a.fs 1 : Nat), .int .u64 (wordOf a.fs 2 : Nat), .int .u64 (wordOf a.fs 3 : Nat)]]) := rfl
   gi_wp2_with fail
   refine (callsIn_wide.2 HA.out).mono ?_
   rintro e w1 ⟨rfl, hb⟩
   obtain ⟨g, rfl⟩ := to_grow hb
   clear hb
   have HJ2 := Lib.hid (HJB.out _ _ _ (below_alloc (below_grow (Below.refl _ wr) g) (.cells #[.int .i64 a.kind, .int .u8 a.byt.toNat, .int .u64 (wordOf a.fs 0 : Nat), .int .u64 (wordOf a.fs 1 : Nat), .int .u64 (wordOf a.fs 2 : Nat), .int .u64 (wordOf a.fs 3 : Nat)] 162)) HJ.out)
   have HM2 := Lib.hid (HM.out.below (below_alloc (below_grow (Below.refl _ wr) g) (.cells #[.int .i64 a.kind, .int .u8 a.byt.toNat, .int .u64 (wordOf a.fs 0 : Nat), .int .u64 (wordOf a.fs 1 : Nat), .int .u64 (wordOf a.fs 2 : Nat), .int .u64 (wordOf a.fs 3 : Nat)] 162)))
   obtain ⟨fn, tmps, assign, body, hy, hR⟩ := HY.out _ a _ HJ2.out hlen
   rw [HAV.out] at hy
   clear hlen
   gi_wp2
   refine hR.mono ?_
   rintro e W3 (⟨rfl, hJ3, hk3⟩ | ⟨rfl, hJx3⟩)
   ·have d1 := (hk3.cell (o := 0) (.inl rfl)).trans ((cell_alloc_lt _ _ _ _ _).trans ((cell_grow _ _ _ _ _).trans c1))
    have HM3 := Lib.hid (HM2.out.keepG hk3 (.inr rfl))
    have HJ3 := Lib.hid hJ3
    clear hk3 hJ3 c1 HM HM2
    gi_wp2
    go_roundw
    case rel => exact ⟨q, _, by omega, rfl, d1, HM3.out, HP2.out, HJ3.out⟩
    case measure => simp [intOf]; omega
   ·have HJ3 := Lib.hid hJx3
    clear hJx3
    gi_wp2
    refine bodyPost_ret (results_none rfl _ _ _) rfl ?_
    exact ⟨⟨_, rfl⟩, .inr ⟨_, ⟨_, HP2.out.symm⟩, HJ3.out⟩⟩
  ·have h3 := HP.out
   rw [parseFrom_end (by omega), List.append_nil] at h3
   have H3 := Lib.hid h3
   clear h3
   have d0 := no hlt
   gi_wp2
   go_end0
   exact ⟨⟨_, rfl⟩, .inl ⟨_, H3.out.symm, HJ.out⟩⟩
theorem atoms_any (p : List UInt8) (w : World) : Calls Tryz.prog 183 #[.string (B p)] w fun e w' => e = .returned (.func (.func 191) #[] #[.pointer (some ⟨w.heap.size, 0, none⟩)]) ∧ w' = w.alloc (.cells #[.string (B p)] 9) := by
 go_enter Tryz.func183, Tryz.ntmps183
 go_wp2
 go_ret
 exact ⟨rfl, rfl⟩
theorem atoms_gives (p : List UInt8) (w : World) (hm : MaxL w) (hp : p.length ≤ 1073741824) :
  Gives Tryz.prog 191 #[.pointer (some ⟨w.heap.size, 0, none⟩)] encA (fun k => k = w.heap.size ∨ k = 0) (parse p) (w.alloc (.cells #[.string (B p)] 9)) := by
 intro n hn l J Jx W hW hJ _ hY h0
 refine atoms1 n hn l _ p hp J Jx hY (fun s A A' hb h => hJ s A A' none h (grownBy_below hb none) (fun r e => by cases e)) W ?_ ((hm.below (below_alloc (Below.refl _ _) _)).below hW) h0
 rw [hW.cell (by simp)]; simp [go_sem]
end Go.Proofs.YtfmecpnokefokaaGreatDoor.Pat
namespace Go.Proofs.YtfmecpnokefokaaGreatDoor.Pat
open Go.ChangeShapes Go.WideShapes Go.Deep Go.RowKit Go.Shelf
attribute [local go_sem] Oper.semAt_some
set_option maxRecDepth 100000
theorem info_atom : (Tryz.prog.info? 162).map (fun i => (i.zero, i.size, i.bytes)) = some (some (.agg #[.int .i64 0, .int .u8 0, .int .u64 0, .int .u64 0, .int .u64 0, .int .u64 0]), 6, 48) := by kernel_rfl
def CollP (xs : List At) (w : World) (e : Ending) (w' : World) : Prop := ∃ v, e = .returned v ∧ Own w' w.heap.size 6 v xs.length (xs.flatMap atC) ∧ Below w.heap.size w w'
def CollA (w : World) (pre : List At) (W : World) : Prop := ∃ v, BoxOwn W w.heap.size w.heap.size 6 v pre.length (pre.flatMap atC) ∧ (pre.length = 0 → v = .slice none 0 0) ∧ Below w.heap.size w W
set_option maxHeartbeats 1600000 in
theorem appendSeq_a (gf : Nat) (lb : Array Value) (G : Nat → Prop) (xs : List At) (w : World) (hg : Gives Tryz.prog gf lb encA G xs w) (eg : ∀ args w, (callFunc gf args).run Tryz.prog w = .ok (.enter gf args) w)
  (hG : ∀ k, G k → k < w.heap.size) (hl : xs.length ≤ 1073741824) :
  Calls Tryz.prog 190 #[.slice none 0 0, .func (.func gf) #[] lb] w (CollP xs w) := by
 obtain ⟨i6, hi6, hz60, hz61, hz62⟩ := info_parts info_atom
 have HG := Lib.hid hG
 have HGV := Lib.hid hg
 clear hG hg
 refine (callsIn_wide (n := 9)).1 ?_; refine callsIn_of_wp_marks Tryz.func190 rfl trivial ?_ rfl; simp only [Tryz.ntmps190, List.size_toArray, List.length_cons, List.length_nil, Nat.reduceAdd, Nat.reduceSub, Array.replicate_succ, Array.replicate_zero, List.push_toArray, List.append_toArray, List.nil_append, List.cons_append]
 gi_wp2
 refine wpIn_iter (n := 9) (by omega) (gf := gf) (lb := lb) rfl eg (HGV.out.below (below_alloc (Below.refl _ _) _)) (fun k hk => by have := HG.out k hk; simp; omega) (fun _ => rfl) (CollA w) (fun _ _ _ => False)
  (fun s W W' hL ⟨v, h1, h2, h3⟩ => ⟨v, h1.lull hL, h2, hL.below h3 (by simp) (Nat.le_refl _)⟩) (fun _ _ _ _ _ h => h)
  ⟨.slice none 0 0, ⟨by simp, by go_simp, by simp [go_sem], Own.nil _ _ _, by simp [Value.ownBlock]⟩, fun _ => rfl, below_alloc (Below.refl _ _) _⟩
  (fun x a' W' => ∃ ub, a' = { tmps := #[.slice none 0 0, .func (.func gf) #[] lb, .pointer (some ⟨w.heap.size, 0, none⟩), undef, .slice none 0 0, .pointer (some ⟨ub, 0, none⟩), .func (.func gf) #[] lb, atV x, undef, undef, undef, undef, undef], defers := [] } ∧ BoxN W' ub (atC x))
  (fun x a' W W' hL ⟨ub, e, h⟩ => ⟨ub, e, h.block (hL.block (h.c 0 _ rfl)) hL.size⟩) ?assign ?body ?done ?stop
 case assign =>
  intro l pre x W K hi hs hK
  have hK := hK { tmps := #[.slice none 0 0, .func (.func gf) #[] lb, .pointer (some ⟨w.heap.size, 0, none⟩), undef, .slice none 0 0, .pointer (some ⟨W.heap.size, 0, none⟩), .func (.func gf) #[] lb, atV x, undef, undef, undef, undef, undef], defers := [] } _
   (KeepsFrom.allocN _ W (.cells (atC x).toArray 162)) (fun k hk => heap_alloc_lt _ _ _ (by have := HG.out k hk; simp at hs; omega))
   (by obtain ⟨v, h1, h2, h3⟩ := hi; exact ⟨v, h1.below (below_alloc (Below.refl _ _) _), h2, below_alloc h3 _⟩) ⟨_, rfl, BoxN.new W _ _⟩
  unfold encA atV atC at *
  have HK := Lib.hid hK
  clear hK
  gi_wp2
  exact HK.out
 case body =>
  rintro l pre x a' W hs ⟨v, h1, h2, h3⟩ ⟨ub, rfl, hB⟩ hlt
  have hs' : w.heap.size + 1 ≤ W.heap.size := by simpa using hs
  have hc := h1.c
  have hf := h1.f
  have b0' := hB.c 0 _ rfl
  have b1' := hB.c 1 _ rfl
  have b2' := hB.c 2 _ rfl
  have b3' := hB.c 3 _ rfl
  have b4' := hB.c 4 _ rfl
  have b5' := hB.c 5 _ rfl
  have H1 := Lib.hid h1
  have H2 := Lib.hid h2
  have H3 := Lib.hid h3
  clear h1 h2 h3 hB
  unfold encA atV at *
  gi_wp2_with ((gi_at_builtin; refine wpListIn_append_src rfl (.tmp 8) (.tmp 10) _ rfl w.heap.size 162 i6 _ 6 48 Tryz.underlying119 hi6 hz60 hz61 hz62 rfl (by decide) _ pre.length (pre.flatMap atC) rfl (H1.out.own.below (by (repeat (first | exact Below.refl _ _ | assumption | with_reducible refine below_alloc ?_ _ | with_reducible refine below_grow ?_ _ | with_reducible refine below_drewN ?_ _ | with_reducible refine below_drew ?_ | with_reducible refine below_setCell ?_ (by first | (dsimp only; omega) | (simp; done) | (simp; omega)) _)))) _ 1 (atC x) rfl rfl (Src.one _ _ _ _) (by simp [atC, Value.oneCell']) (by unfold maxLen; omega) (by omega) (by first | (simp; done) | omega | (simp; omega)) ?_; intro v1 w1 hown1 hg1 hat1 hty1; have HTY1 := Lib.hid hty1; clear hty1); obtain ⟨g1, o1, c1, rfl, q1, q2, q3, q4⟩ := hown1.form; obtain ⟨r1, r2, r3, r4, r5, r6⟩ := H1.out.round (A := w.heap.size + 1) (G := G) (by omega) H2.out H3.out (Nat.le_refl _) (Nat.le_refl _) (by omega) HG.out hown1 hg1 hat1; have R := Lib.hid (And.intro r1 (And.intro r2 (And.intro r3 r4))); clear hown1 hg1 hat1 r1 r2 r3 r4)
  refine ⟨by rw [World.size_alloc]; exact R.out.1, R.out.2.1, _, by simpa using R.out.2.2.1, fun h => by simp at h, R.out.2.2.2⟩
 case done =>
  rintro D W hD ⟨v, h1, h2, h3⟩ hK
  have hD' : w.heap.size + 1 ≤ D := by simpa using hD
  have hc := h1.c
  have H1 := Lib.hid h1
  have H3 := Lib.hid h3
  clear h1 h2 h3
  gi_wp2
  refine ⟨by simp, .inl ⟨_, _, rfl, run_takeDeferred hK, ?_⟩⟩
  have hL : Lull (w.heap.size + 1) W (W.putObj D (.deferred none)) := Lull.of_grown (grownBy_putObj' W D _) (fun r e => by cases e; exact ⟨hD', _, hK, rfl⟩)
  exact ⟨_, results_tmp rfl _ _ _, v, rfl, H1.out.own.lull hL, hL.below H3.out (by omega) (Nat.le_refl _)⟩
 case stop =>
  rintro D c pre W _ _ h _
  exact h.elim
theorem collect_a (gf : Nat) (lb : Array Value) (G : Nat → Prop) (xs : List At) (w : World) (hg : Gives Tryz.prog gf lb encA G xs w) (eg : ∀ args w, (callFunc gf args).run Tryz.prog w = .ok (.enter gf args) w)
  (hG : ∀ k, G k → k < w.heap.size) (hl : xs.length ≤ 1073741824) : Calls Tryz.prog 182 #[.func (.func gf) #[] lb] w (CollP xs w) := by
 have HC := Lib.hid (appendSeq_a gf lb G xs w hg eg hG hl)
 clear hg hG
 go_enter Tryz.func182, Tryz.ntmps182
 go_wp2_with (go_at_call 190; refine HC.out.mono ?_; rintro e w1 ⟨v, rfl, h1, h2⟩; have H1 := Lib.hid h1; clear h1)
 go_ret
 exact ⟨v, rfl, H1.out, h2⟩
def ParseP (p : List UInt8) (w : World) (e : Ending) (w' : World) : Prop := ∃ v, e = .returned v ∧ Sl w' atC 6 v (parse p) ∧ Below w.heap.size w w'
set_option maxHeartbeats 1600000 in
theorem parse_any (p : List UInt8) (w : World) (hm : MaxL w) (hp : p.length ≤ 1073741824) : Calls Tryz.prog 172 #[.string (B p)] w (ParseP p w) := by
 have hg := atoms_gives p w hm hp
 have hlt := hm.lt
 have hpl := parse_len p
 have HC := Lib.hid (collect_a 191 _ _ (parse p) _ hg (enters_of Tryz.func191 (by kernel_rfl) rfl) (fun k hk => by rcases hk with rfl | rfl <;> simp; try omega) (by omega))
 clear hg hm
 go_enter Tryz.func172, Tryz.ntmps172
 go_wp2_with (first | (go_at_call 183; refine (atoms_any p w).mono ?_; rintro e w1 ⟨rfl, rfl⟩) | (go_at_call 182; refine HC.out.mono ?_; rintro e w2 ⟨v, rfl, ho, hb⟩; have HO := Lib.hid ho; have HB := Lib.hid hb; clear ho hb))
 go_ret
 exact ⟨v, rfl, HO.out.sl atC_len rfl, below_then (below_alloc (Below.refl _ _) _) HB.out⟩
end Go.Proofs.YtfmecpnokefokaaGreatDoor.Pat
namespace Go.Proofs.YtfmecpnokefokaaGreatDoor.Pat
open Go.ChangeShapes Go.WideShapes Go.Deep Go.RowKit
set_option maxRecDepth 100000
structure RP (p : List UInt8) (w wr : World) (v : Value) (pre : List At) (k : Nat) : Prop where
 o : Own wr w.heap.size 6 v pre.length (pre.flatMap atC)
 e : parse p = pre ++ parseFrom p k
 l : pre.length ≤ k
 b : Below w.heap.size w wr
end Go.Proofs.YtfmecpnokefokaaGreatDoor.Pat
namespace Go.Proofs.YtfmecpnokefokaaGreatDoor.Pat
open Go.ChangeShapes Go.WideShapes Go.Deep Go.RowKit
set_option maxRecDepth 100000
end Go.Proofs.YtfmecpnokefokaaGreatDoor.Pat
namespace Go.Proofs.YtfmecpnokefokaaGreatDoor.Pat
open Go.ChangeShapes Go.WideShapes Go.Deep Go.RowKit
set_option maxRecDepth 100000
structure BRow (w : World) (b n : Nat) (f : Nat → Bool) : Prop where
 lt : b < w.heap.size
 c : ∀ k, k < n → w.cell? ⟨b, k, none⟩ = some (.bool (f k))
 fr : ∀ k, w.frozen? ⟨b, k, none⟩ = false
def row0 (n : Nat) : Obj := .cells (madeCells (Value.bool false).cells n) 4
end Go.Proofs.YtfmecpnokefokaaGreatDoor.Pat
