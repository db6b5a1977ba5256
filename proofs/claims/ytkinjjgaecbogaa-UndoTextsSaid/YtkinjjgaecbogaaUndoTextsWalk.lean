/-
  The walk of the law UndoTexts: it returns true, whatever its arguments. Conditions: none (arguments as the row reads them).
-/
import Derived.Test.YtkinjjgaecbogaaUndo14
import Derived.Test.YtkinjjgaecbogaaEd
import Derived.Test.YtkinjjgaecbogaaOpen
import Derived.Test.YtkinjjgaecbogaaEdit3
import Derived.Test.YtkinjjgaecbogaaEdit4
namespace Go.Proofs.Ytkinjjgaecbogaa.undoTexts
open Go.ChangeShapes Go.WideShapes Go.Deep Go.ChangeAt Go.RowKit
set_option maxRecDepth 100000
def boolC (b : Bool) : List Value := [.bool b]
theorem bool_cells : Try.prog.cellsOf 4 = 1 := by kernel_rfl
theorem bool_dec {H : Type} {enc : TypeId × Value → H} {w : World} {fuel : Nat} {cs : List Value} {d : DataW H × List MemPlace}
    (h : DataW.trod enc Try.prog w 0 (fun _ => true) true fuel 4 cs = some d) : ∃ x : Bool, cs = boolC x ∧ True := by
  obtain ⟨q, e, _⟩ := DataW.trod_bool Try.underlying4 h
  exact ⟨q, e, trivial⟩
/-- What holds at each round of the first loop. -/
structure TxI (w wr : World) (jb : Nat) (lv : Value) (s now : List UInt8) (ds : List Stp) (k : Nat) : Prop where
  j : JAt wr w.heap.size jb lv (100 : Nat) ds ds.length
  b : Below w.heap.size w wr
  c : Chain s ds now
  l : ds.length ≤ k
  n : now.length ≤ 100 + 100 * k
  t : ∀ y ∈ ds, y.ed.del.length ≤ 100 * k ∧ y.ed.ins.length ≤ 100 * k
theorem TxI.next {w wr : World} {jb k : Nat} {lv : Value} {s now : List UInt8} {ds : List Stp} (h : TxI w wr jb lv s now ds k) {W : World} (hb : Below wr.heap.size wr W) : TxI w W jb lv s now ds (k + 1) :=
  ⟨h.j.below hb, h.b.trans (hb.mono h.b.size), h.c, by have := h.l; omega, by have := h.n; omega, fun y hy => by have := h.t y hy; omega⟩
/-- What holds at each round of the others: p steps are done. -/
structure TxJ (w wr : World) (jb : Nat) (lv : Value) (s bk : List UInt8) (ds : List Stp) (p : Nat) : Prop where
  j : JAt wr w.heap.size jb lv (100 : Nat) ds p
  b : Below w.heap.size w wr
  c : Chain s (ds.take p) bk
theorem TxJ.below {w wr : World} {jb p : Nat} {lv : Value} {s bk : List UInt8} {ds : List Stp} (h : TxJ w wr jb lv s bk ds p) {W : World} (hb : Below wr.heap.size wr W) : TxJ w W jb lv s bk ds p :=
  ⟨h.j.below hb, h.b.trans (hb.mono h.b.size), h.c⟩
theorem TxJ.undone {w wr w2 : World} {jb p q : Nat} {lv : Value} {s bk b2 : List UInt8} {ds : List Stp} (h : TxJ w wr jb lv s bk ds p) (hj : JAt w2 w.heap.size jb lv (100 : Nat) ds q) (hk : Keeps (fun k => k = jb) wr w2) (hc : Chain s (ds.take q) b2) : TxJ w w2 jb lv s b2 ds q :=
  ⟨hj, h.b.trans (hk.below h.b.size fun k e => by have := h.j.ge; omega), hc⟩
theorem TxI.pushed {w wr W1 W2 : World} {jb k : Nat} {lv : Value} {s now r : List UInt8} {ds : List Stp} {e : Ending} (h : TxI w wr jb lv s now ds k) (hb : Below wr.heap.size wr W1) (hr : r.length ≤ 100 + 100 * (k + 1)) (hp : PTP w.heap.size jb lv s r ds (100 * k) W1 e W2) :
    e = .returned (.tuple #[]) ∧ ∃ lv' ds', TxI w W2 jb lv' s r ds' (k + 1) := by
  obtain ⟨he, lv', ds', h1, h2, h3, h4, h5⟩ := hp
  have hs := h.b.size
  have hs1 := hb.size
  have hl := h.l
  refine ⟨he, lv', ds', h1, (h.b.trans (hb.mono hs)).trans (h5.below (by omega) fun k hF => ?_), h2, by omega, hr, fun y hy => by have := h4 y hy; omega⟩
  rcases hF with e | e
  · have := h.j.ge; omega
  · exact e.2
set_option maxHeartbeats 6400000 in
theorem walk {H : Type} (enc : TypeId × Value → H) (w : World) (base : Nat) {v0 v1 v2 : Value} {d0 d1 d2 : DataW H} {p0 p1 p2 : List MemPlace}
    (h0 : DataW.Trod enc Try.prog w 0 (fun _ => true) true 9 v0 d0 p0) (k0 : Value.okWide Try.prog w .any base 9 v0)
    (h1 : DataW.Trod enc Try.prog w 0 (fun _ => true) true 76 v1 d1 p1) (k1 : Value.okWide Try.prog w .any base 76 v1)
    (h2 : DataW.Trod enc Try.prog w 0 (fun _ => true) true 55 v2 d2 p2) (k2 : Value.okWide Try.prog w .any base 55 v2) :
    Calls Try.prog 14 #[v0, v1, v2] w fun e w' => e = .returned (.bool true) ∧ Below w.heap.size w w' := by
  obtain ⟨s, rfl, hs⟩ := open_text h0 k0
  obtain ⟨xs, hv, hok, hxl⟩ := open_sl Ed.cells Ed.Ok Try.underlying76 ed_cells (by omega) ed_dec h1 k1
  obtain ⟨js, hjv, -, hjl⟩ := open_sl boolC (fun _ => True) Try.underlying55 bool_cells (by omega) bool_dec h2 k2
  clear h0 k0 h1 k1 h2 k2
  obtain ⟨A, c, rfl, hc1, hc2, hn, hA⟩ := hv
  obtain ⟨Aj, cj, rfl, hcj1, hcj2, hnj, hAj⟩ := hjv
  have HA := Lib.hid hA
  have HAJ := Lib.hid hAj
  have HO := Lib.hid hok
  have HAW := Lib.hid fun w => awake02_any w
  clear hA hok hn hAj hnj
  by_cases l1 : 100 < s.length
  · go_enter Try.func14, Try.ntmps14
    go_wp2_with (go_at_call 49; refine (HAW.out _).mono ?_; rintro e w' ⟨rfl, hb⟩; obtain ⟨g, rfl⟩ := to_grow hb; clear hb)
    go_ret
    exact ⟨rfl, by (repeat (first | with_reducible exact Below.refl _ _ | with_reducible assumption | with_reducible refine below_alloc ?_ _ | with_reducible refine below_grow ?_ _ | with_reducible refine below_drewN ?_ _ | with_reducible refine below_drew ?_ | with_reducible refine below_setCell ?_ (by first | (dsimp only; omega) | (simp; done) | (simp; omega)) _))⟩
  have l1' := no (show ¬ (100 : Int) < (s.length : Int) by omega)
  by_cases l2 : 20 < xs.length
  · clear l1
    go_enter Try.func14, Try.ntmps14
    go_wp2_with (go_at_call 49; refine (HAW.out _).mono ?_; rintro e w' ⟨rfl, hb⟩; obtain ⟨g, rfl⟩ := to_grow hb; clear hb)
    go_ret
    exact ⟨rfl, by (repeat (first | with_reducible exact Below.refl _ _ | with_reducible assumption | with_reducible refine below_alloc ?_ _ | with_reducible refine below_grow ?_ _ | with_reducible refine below_drewN ?_ _ | with_reducible refine below_drew ?_ | with_reducible refine below_setCell ?_ (by first | (dsimp only; omega) | (simp; done) | (simp; omega)) _))⟩
  have l2' := no (show ¬ (20 : Int) < (xs.length : Int) by omega)
  have b1 : s.length ≤ 100 := by omega
  have b2 : xs.length ≤ 20 := by omega
  clear l1 l2 hs hxl hc2 hcj2
  go_enter Try.func14, Try.ntmps14
  go_wp2_with (first
    | (go_at_call 49; refine (HAW.out _).mono ?_; rintro e w' ⟨rfl, hb⟩; obtain ⟨g, rfl⟩ := to_grow hb; clear hb)
    | (go_at_call 51; refine (newJ_ok 100 _ (by omega) (by omega)).mono ?_; rintro e w1 ⟨rfl, hj, hb⟩; have HB0 := Lib.hid (below_then (w := w) (by (repeat (first | with_reducible exact Below.refl _ _ | with_reducible assumption | with_reducible refine below_alloc ?_ _ | with_reducible refine below_grow ?_ _ | with_reducible refine below_drewN ?_ _ | with_reducible refine below_drew ?_ | with_reducible refine below_setCell ?_ (by first | (dsimp only; omega) | (simp; done) | (simp; omega)) _))) hb); have HJ0 := Lib.hid (hj.mono (show w.heap.size ≤ _ from (show Below w.heap.size w _ by (repeat (first | with_reducible exact Below.refl _ _ | with_reducible assumption | with_reducible refine below_alloc ?_ _ | with_reducible refine below_grow ?_ _ | with_reducible refine below_drewN ?_ _ | with_reducible refine below_drew ?_ | with_reducible refine below_setCell ?_ (by first | (dsimp only; omega) | (simp; done) | (simp; omega)) _))).size)); clear hj hb))
  generalize (grow w g).heap.size = jb at *
  go_loopw [8, 9] (fun s8 i wr => ∃ (k : Nat) (lv : Value) (now : List UInt8) (ds : List Stp), k ≤ xs.length ∧ i = .int .i64 k ∧ s8 = .string (B now) ∧ Hid (TxI w wr jb lv s now ds k)) (fun _ i _ => xs.length - (intOf i).toNat)
  case atStart => exact ⟨0, _, s, [], by omega, rfl, rfl, HJ0.out, HB0.out, rfl, by simp, by omega, fun y hy => by simp at hy⟩
  case round =>
    clear HJ0 HB0
    obtain ⟨k, lv, now, ds, hk, rfl, rfl, HI⟩ := hrel
    by_cases hlt : k < xs.length
    · obtain ⟨b, off, rfl, hb, hc⟩ := HA.out (by omega)
      obtain ⟨x, hx⟩ := get_some hlt
      have hxm := HO.out _ (List.mem_of_getElem? hx)
      have e0 : wr.cell? ⟨b, off + k * 3, none⟩ = some (.int .i64 x.pos) := (HI.out.b.cell (p := ⟨b, off + k * 3, none⟩) hb).trans (hc k _ hx 0 _ rfl)
      have e1 : wr.cell? ⟨b, off + k * 3 + 1, none⟩ = some (.string (B x.del)) := (HI.out.b.cell (p := ⟨b, off + k * 3 + 1, none⟩) hb).trans (hc k _ hx 1 _ rfl)
      have e2 : wr.cell? ⟨b, off + k * 3 + 2, none⟩ = some (.string (B x.ins)) := (HI.out.b.cell (p := ⟨b, off + k * 3 + 2, none⟩) hb).trans (hc k _ hx 2 _ rfl)
      have hbr : b < wr.heap.size := Nat.lt_of_lt_of_le hb HI.out.b.size
      haveI : Old wr b := ⟨hbr⟩
      have i0 : (0 : Int) ≤ (k : Int) := by omega
      have i1 : (k : Int) < (xs.length : Int) := by omega
      obtain ⟨o1, o2, o3, o4⟩ := hxm
      clear hc hx
      by_cases hd : 100 < x.del.length
      · go_wp2_with fail
        go_ret
        exact ⟨rfl, HI.out.b⟩
      by_cases hi : 100 < x.ins.length
      · have z1 := no (show ¬ (100 : Int) < (x.del.length : Int) by omega)
        clear hd
        go_wp2_with fail
        go_ret
        exact ⟨rfl, HI.out.b⟩
      have z1 := no (show ¬ (100 : Int) < (x.del.length : Int) by omega)
      have z2 := no (show ¬ (100 : Int) < (x.ins.length : Int) by omega)
      have hd2 : x.del.length ≤ 100 := by omega
      have hi2 : x.ins.length ≤ 100 := by omega
      clear hd hi o1 o2 o3 o4
      have hnl := HI.out.n
      have HWR := Lib.hid fun w => refWrong_any now x.del x.ins x.pos w (by omega) (by omega) (by omega)
      unfold Edit at HWR
      by_cases hw : wrong now x.pos x.del x.ins = 0
      rotate_left
      · have hw2 : (wrong now x.pos x.del x.ins != 0) = true := by simpa using hw
        clear hw
        generalize wrong now x.pos x.del x.ins = wn at *
        go_wp2_with (go_at_call 46; refine (HWR.out _).mono ?_; rintro e w' ⟨rfl, hb⟩; obtain ⟨g, rfl⟩ := to_grow hb; clear hb)
        go_roundw
        case rel => exact ⟨k + 1, _, now, ds, by omega, by go_num, rfl, HI.out.next (by (repeat (first | with_reducible exact Below.refl _ _ | with_reducible assumption | with_reducible refine below_alloc ?_ _ | with_reducible refine below_grow ?_ _ | with_reducible refine below_drewN ?_ _ | with_reducible refine below_drew ?_ | with_reducible refine below_setCell ?_ (by first | (dsimp only; omega) | (simp; done) | (simp; omega)) _)))⟩
        case measure => simp [intOf]; omega
      · have hgt := gt_of hw (by omega)
        obtain ⟨hg1, hg2⟩ := hgt
        obtain ⟨n, hn, hn1, hn2, hn3⟩ := wrong_zero hw
        have HDO := Lib.hid fun w => refDo_any now x.del x.ins n w (by omega) (by omega) hn1
        unfold Edit at HDO
        rw [← hn] at HDO
        rw [hw] at HWR
        have HRL := Lib.hid (show (does now x.pos x.del x.ins).length ≤ 100 + 100 * (k + 1) by omega)
        have HPU := Lib.hid fun jn W (hb : Below wr.heap.size wr W) => push_t W w.heap.size jb lv s now (does now x.pos x.del x.ins) ds ⟨x, 0, 0⟩ jn (100 * k) (HI.out.j.below hb) (by have := HI.out.l; omega) HI.out.c hg1 (by omega) HI.out.t ⟨hd2, hi2⟩
        unfold Stp.val at HPU
        clear hg1 hg2 hn hn1 hn2 hn3 hw
        generalize does now x.pos x.del x.ins = r at *
        dsimp only at HPU
        by_cases hjk : k < js.length
        · obtain ⟨bj, offj, rfl, hbj, hcj⟩ := HAJ.out (by omega)
          obtain ⟨y, hy⟩ := get_some hjk
          have ej : wr.cell? ⟨bj, offj + k, none⟩ = some (.bool y) := (HI.out.b.cell (p := ⟨bj, offj + k, none⟩) hbj).trans (by have := hcj k _ hy 0 _ rfl; simpa using this)
          haveI : Old wr bj := ⟨Nat.lt_of_lt_of_le hbj HI.out.b.size⟩
          have j1 : (k : Int) < (js.length : Int) := by omega
          clear hcj hy
          go_wp2_with (first | (go_at_call 46; refine (HWR.out _).mono ?_; rintro e w' ⟨rfl, hb⟩; obtain ⟨g, rfl⟩ := to_grow hb; clear hb) | (go_at_call 48; refine (HDO.out _).mono ?_; rintro e w' ⟨rfl, hb⟩; obtain ⟨g, rfl⟩ := to_grow hb; clear hb))
          (refine wp_region_grow_tail 16 (by kernel_rfl) (by kernel_rfl) ?_; simp only [List.take_succ_cons, List.take_zero, List.drop_succ_cons, List.drop_zero]; (repeat (go_big_quiet_step (fail))); refine wpQuiet_nil ?_; intro _ hw'; obtain ⟨gq, hw''⟩ := hw'; subst hw'')
          go_wp2_with (go_at_call 52; refine (HPU.out y _ (by (repeat (first | with_reducible exact Below.refl _ _ | with_reducible assumption | with_reducible refine below_alloc ?_ _ | with_reducible refine below_grow ?_ _ | with_reducible refine below_drewN ?_ _ | with_reducible refine below_drew ?_ | with_reducible refine below_setCell ?_ (by first | (dsimp only; omega) | (simp; done) | (simp; omega)) _)))).mono ?_; rintro e w2 hp; obtain ⟨rfl, lv2, ds2, h2⟩ := HI.out.pushed (by (repeat (first | with_reducible exact Below.refl _ _ | with_reducible assumption | with_reducible refine below_alloc ?_ _ | with_reducible refine below_grow ?_ _ | with_reducible refine below_drewN ?_ _ | with_reducible refine below_drew ?_ | with_reducible refine below_setCell ?_ (by first | (dsimp only; omega) | (simp; done) | (simp; omega)) _))) HRL.out hp; have H2 := Lib.hid h2; clear h2 hp)
          go_roundw
          case rel => exact ⟨k + 1, _, r, ds2, by omega, by go_num, rfl, H2.out⟩
          case measure => simp [intOf]; omega
        · have j1 := no (show ¬ k < js.length from hjk)
          clear hjk
          go_wp2_with (first | (go_at_call 46; refine (HWR.out _).mono ?_; rintro e w' ⟨rfl, hb⟩; obtain ⟨g, rfl⟩ := to_grow hb; clear hb) | (go_at_call 48; refine (HDO.out _).mono ?_; rintro e w' ⟨rfl, hb⟩; obtain ⟨g, rfl⟩ := to_grow hb; clear hb))
          (refine wp_region_grow_tail 16 (by kernel_rfl) (by kernel_rfl) ?_; simp only [List.take_succ_cons, List.take_zero, List.drop_succ_cons, List.drop_zero]; (repeat (go_big_quiet_step (fail))); refine wpQuiet_nil ?_; intro _ hw'; obtain ⟨gq, hw''⟩ := hw'; subst hw'')
          go_wp2_with (go_at_call 52; refine (HPU.out false _ (by (repeat (first | with_reducible exact Below.refl _ _ | with_reducible assumption | with_reducible refine below_alloc ?_ _ | with_reducible refine below_grow ?_ _ | with_reducible refine below_drewN ?_ _ | with_reducible refine below_drew ?_ | with_reducible refine below_setCell ?_ (by first | (dsimp only; omega) | (simp; done) | (simp; omega)) _)))).mono ?_; rintro e w2 hp; obtain ⟨rfl, lv2, ds2, h2⟩ := HI.out.pushed (by (repeat (first | with_reducible exact Below.refl _ _ | with_reducible assumption | with_reducible refine below_alloc ?_ _ | with_reducible refine below_grow ?_ _ | with_reducible refine below_drewN ?_ _ | with_reducible refine below_drew ?_ | with_reducible refine below_setCell ?_ (by first | (dsimp only; omega) | (simp; done) | (simp; omega)) _))) HRL.out hp; have H2 := Lib.hid h2; clear h2 hp)
          go_roundw
          case rel => exact ⟨k + 1, _, r, ds2, by omega, by go_num, rfl, H2.out⟩
          case measure => simp [intOf]; omega
    · have HL := Lib.hid (show ds.length ≤ xs.length by have := HI.out.l; omega)
      have hcn := HI.out.c
      have HJ0 : Hid (TxJ w wr jb lv s now ds ds.length) := ⟨HI.out.j, HI.out.b, by rw [List.take_length]; exact hcn⟩
      have HCN := Lib.hid hcn
      have HTL := Lib.hid (show ∀ y ∈ ds, y.ed.del.length ≤ 2100 ∧ y.ed.ins.length ≤ 2100 from fun y hy => by have := HI.out.t y hy; omega)
      have d0 := no hlt
      clear HI hcn hlt hk
      go_wp2_with fail
      clear d0
      go_loopw [10, 11] (fun s10 i wr => ∃ (p : Nat) (bk : List UInt8), p ≤ ds.length ∧ i = .int .i64 ((ds.length - p : Nat) : Int) ∧ s10 = .string (B bk) ∧ Hid (TxJ w wr jb lv s bk ds p)) (fun _ i _ => ds.length + 1 - (intOf i).toNat)
      case atStart => exact ⟨ds.length, now, by omega, by go_num, rfl, HJ0.out⟩
      case round =>
        clear HJ0
        obtain ⟨p, bk, hp, rfl, rfl, HJ⟩ := hrel
        have c0 : ((ds.length - p : Nat) : Int) ≤ (xs.length : Int) := by have := HL.out; omega
        match p, hp, HJ with
        | 0, hp, HJ =>
          have hsb : s = bk := HJ.out.c
          subst hsb
          have HU := Lib.hid (undo_none _ _ _ _ _ _ HJ.out.j)
          have HVL : Hid (stp0.val = .agg #[.int .i64 0, .string (B []), .string (B []), .int .i64 0, .int .i64 0]) := rfl
          go_wp2_with (go_at_call 54; refine HU.out.mono ?_; rintro e w2 ⟨rfl, hj2, hk2⟩; rw [HVL.out]; have HJ2 : Hid (TxJ w w2 jb lv s s ds 0) := HJ.out.undone hj2 hk2 rfl; clear hj2 hk2)
          clear c0
          go_loopw [10, 16] (fun s10 i wr => ∃ (p : Nat) (bk : List UInt8), p ≤ ds.length ∧ i = .int .i64 p ∧ s10 = .string (B bk) ∧ Hid (TxJ w wr jb lv s bk ds p)) (fun _ i _ => ds.length + 1 - (intOf i).toNat)
          case atStart => exact ⟨0, s, by omega, rfl, rfl, HJ2.out.below (by (repeat (first | with_reducible exact Below.refl _ _ | with_reducible assumption | with_reducible refine below_alloc ?_ _ | with_reducible refine below_grow ?_ _ | with_reducible refine below_drewN ?_ _ | with_reducible refine below_drew ?_ | with_reducible refine below_setCell ?_ (by first | (dsimp only; omega) | (simp; done) | (simp; omega)) _)))⟩
          case round =>
            clear HU HVL HJ2 HJ
            obtain ⟨p, bk, hp, rfl, rfl, HJ⟩ := hrel
            have c0 : (p : Int) ≤ (xs.length : Int) := by have := HL.out; omega
            by_cases hpl : p < ds.length
            · obtain ⟨x, hx⟩ := get_some hpl
              obtain ⟨u, hu, hgu⟩ := chain_on HJ.out.c HCN.out hx
              have HR := Lib.hid (redo_some _ _ _ _ _ _ p x HJ.out.j hx (by have := HL.out; omega))
              have HVL : Hid (x.val = .agg #[.int .i64 x.ed.pos, .string (B x.ed.del), .string (B x.ed.ins), .int .i64 x.ahead, .int .i64 x.behind]) := rfl
              have HCU := Lib.hid hu
              obtain ⟨n, hn, -, hul, hbl⟩ := id hgu
              have hwb := gt_does hgu
              have hxt := HTL.out x (List.mem_of_getElem? hx)
              have hdo := fun w => do_any bk x.ed.del x.ed.ins x.ed.pos w (by omega) (by omega) (by omega)
              unfold DoPost at hdo
              rw [hwb.1, if_pos rfl, hwb.2] at hdo
              unfold Edit at hdo
              have HDO := Lib.hid hdo
              clear hu hgu hn hwb hdo hx hxt
              go_wp2_with (first
                | (go_at_call 55; refine HR.out.mono ?_; rintro e w2 ⟨rfl, hj2, hk2⟩; rw [HVL.out]; have HJ2 : Hid (TxJ w w2 jb lv s u ds (p + 1)) := HJ.out.undone hj2 hk2 HCU.out; have HY := Lib.hid (StpBox.new w2 x 89); clear hj2 hk2)
                | (go_at_call 59; refine (HDO.out _).mono ?_; rintro e w' ⟨rfl, hb⟩; obtain ⟨g, rfl⟩ := to_grow hb; clear hb))
              go_roundw
              case rel => exact ⟨p + 1, u, by omega, by go_num, rfl, HJ2.out.below (by (repeat (first | with_reducible exact Below.refl _ _ | with_reducible assumption | with_reducible refine below_alloc ?_ _ | with_reducible refine below_grow ?_ _ | with_reducible refine below_drewN ?_ _ | with_reducible refine below_drew ?_ | with_reducible refine below_setCell ?_ (by first | (dsimp only; omega) | (simp; done) | (simp; omega)) _)))⟩
              case measure => simp [intOf]; omega
            · have hp2 : p = ds.length := by omega
              subst hp2
              have hbk := HJ.out.c
              rw [List.take_length] at hbk
              have hbn := chain_det hbk HCN.out
              subst hbn
              have HR := Lib.hid (redo_none _ _ _ _ _ _ HJ.out.j)
              have HVL : Hid (stp0.val = .agg #[.int .i64 0, .string (B []), .string (B []), .int .i64 0, .int .i64 0]) := rfl
              clear hpl hbk
              go_wp2_with (go_at_call 55; refine HR.out.mono ?_; rintro e w2 ⟨rfl, hj2, hk2⟩; rw [HVL.out]; have HJ2 : Hid (TxJ w w2 jb lv s bk ds ds.length) := HJ.out.undone hj2 hk2 HJ.out.c; clear hj2 hk2)
              go_ret
              exact ⟨rfl, HJ2.out.b.trans ((show Below w2.heap.size w2 _ by (repeat (first | with_reducible exact Below.refl _ _ | with_reducible assumption | with_reducible refine below_alloc ?_ _ | with_reducible refine below_grow ?_ _ | with_reducible refine below_drewN ?_ _ | with_reducible refine below_drew ?_ | with_reducible refine below_setCell ?_ (by first | (dsimp only; omega) | (simp; done) | (simp; omega)) _))).mono HJ2.out.b.size)⟩
        | p + 1, hp, HJ =>
          have hpl : p < ds.length := by omega
          obtain ⟨x, hx⟩ := get_some hpl
          obtain ⟨u, hu, hgu⟩ := chain_back HJ.out.c hx
          have HU := Lib.hid (undo_some _ _ _ _ _ _ p x HJ.out.j hx (by have := HL.out; omega))
          have HVL : Hid (x.val = .agg #[.int .i64 x.ed.pos, .string (B x.ed.del), .string (B x.ed.ins), .int .i64 x.ahead, .int .i64 x.behind]) := rfl
          have HCU := Lib.hid hu
          obtain ⟨n, hn, -, hul, hbl⟩ := id hgu
          have hwb := gt_back hgu
          have hxt := HTL.out x (List.mem_of_getElem? hx)
          have hdo := fun w => do_any bk x.ed.ins x.ed.del x.ed.pos w (by omega) (by omega) (by omega)
          unfold DoPost at hdo
          rw [hwb.1, if_pos rfl, hwb.2] at hdo
          unfold Edit at hdo
          have HDO := Lib.hid hdo
          have hin := fun w => inverse_any x.ed.del x.ed.ins x.ed.pos w
          unfold Edit at hin
          have HIN := Lib.hid hin
          clear hu hgu hn hwb hdo hin hx hxt
          go_wp2_with (first
            | (go_at_call 54; refine HU.out.mono ?_; rintro e w2 ⟨rfl, hj2, hk2⟩; rw [HVL.out]; have HJ2 : Hid (TxJ w w2 jb lv s u ds p) := HJ.out.undone hj2 hk2 HCU.out; have HY := Lib.hid (StpBox.new w2 x 89); clear hj2 hk2)
            | (go_at_call 60; refine (HIN.out _).mono ?_; rintro e w' ⟨rfl, hb⟩; obtain ⟨g, rfl⟩ := to_grow hb; clear hb)
            | (go_at_call 59; refine (HDO.out _).mono ?_; rintro e w' ⟨rfl, hb⟩; obtain ⟨g, rfl⟩ := to_grow hb; clear hb))
          go_roundw
          case rel => exact ⟨p, u, by omega, by go_num, rfl, HJ2.out.below (by (repeat (first | with_reducible exact Below.refl _ _ | with_reducible assumption | with_reducible refine below_alloc ?_ _ | with_reducible refine below_grow ?_ _ | with_reducible refine below_drewN ?_ _ | with_reducible refine below_drew ?_ | with_reducible refine below_setCell ?_ (by first | (dsimp only; omega) | (simp; done) | (simp; omega)) _)))⟩
          case measure => simp [intOf]; omega
end Go.Proofs.Ytkinjjgaecbogaa.undoTexts
