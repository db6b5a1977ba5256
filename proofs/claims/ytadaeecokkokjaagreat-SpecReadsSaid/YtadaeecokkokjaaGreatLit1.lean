/-
  The walks of layer 8 (literal): a reader of a text; the part that begins at a place. Conditions: texts of at most 30000 bytes.
-/
import Derived.Test.YtadaeecokkokjaaGreatLitPlain
import Derived.Test.YtadaeecokkokjaaGreatNumMap
import Derived.Test.YtadaeecokkokjaaGreatIter
set_option linter.unusedSimpArgs false
set_option linter.unusedVariables false
namespace Go.Proofs.YtadaeecokkokjaaGreat.Li
open Go.ChangeShapes Go.WideShapes Go.Deep Go.RowKit Cls Md Mc Pa NM
set_option maxRecDepth 100000
/-- 'm[k] = v', where a run is known. -/
theorem wpList_mapUpd {P : Program} {w : World} {ops : Array Oper} {rest : List Oper} {o : Oper} {a : Act} {Q : Exit → Act → World → Prop} {Post : World → Prop} (hg : o.guard = none) (m x v : Operand) (t : TypeId) (hop : o.op = Op.mapUpdate t m x v)
    (mv kv vv : Value) (hm : a.eval m = mv) (hx : a.eval x = kv) (hv : a.eval v = vv) (hr : ∃ w', (Instr.mapUpdate t mv kv vv).run P w = .ok () w' ∧ Post w') (h : ∀ w', Post w' → wpList P ops Q rest (a.put o.dst undef) w') : wpList P ops Q (o :: rest) a w := by
  refine wpList_plain hg fun K' hK' => ?_
  obtain ⟨w', hrun, hp⟩ := hr
  unfold Oper.wp
  simp [execOp, hop, hm, hx, hv, hrun, Result.andThen]
  exact hK' _ _ (h w' hp)
theorem keeps_turned {w w' : World} {b : Nat} (h : w.mapTurned w' b) : Keeps (fun k => k = b) w w' := by
  have hg := h.grown
  obtain ⟨es, c, es', c', h1, rfl⟩ := h
  refine ⟨hg.os, hg.tape, hg.output, hg.size, fun k hk hne => hg.block k hk (fun e => hne (by cases e; rfl)), fun k hk => ?_⟩
  by_cases e : k = b
  · subst e
    unfold tyOf
    rw [h1]
    simp [ChangeMaps.setBlock, h1, hk]
  · exact tyOf_of_block (hg.block k hk (fun q => e (by cases q; rfl)))
/-- A reader in memory: its text, its parts, where each begins. -/
structure Rd (W : World) (rb mb : Nat) (lv : Value) (s : List UInt8) (L : List Part) (g : Nat → Nat) (c : Nat) : Prop where
  bx : BoxN W rb [.string (B s), lv, .map (some mb)]
  sl : Sl W partC 5 lv L
  mp : NumsAt W mb g c
def rdG (rb mb : Nat) (lv : Value) (n k : Nat) : Prop := k = rb ∨ k = mb ∨ (0 < n ∧ lv.ownBlock = some k)
theorem Rd.keeps {F : Nat → Prop} {W W' : World} {rb mb c : Nat} {lv : Value} {s : List UInt8} {L : List Part} {g : Nat → Nat} (h : Rd W rb mb lv s L g c) (hk : Keeps F W W') (h1 : ¬ F rb) (h2 : ¬ F mb) (h3 : ∀ k, lv.ownBlock = some k → k < W.heap.size → ¬ F k) : Rd W' rb mb lv s L g c :=
  ⟨h.bx.keeps hk h1, h.sl.keeps hk h3, h.mp.keeps hk h2⟩
theorem Rd.below {W W' : World} {rb mb c : Nat} {lv : Value} {s : List UInt8} {L : List Part} {g : Nat → Nat} (h : Rd W rb mb lv s L g c) (hb : Below W.heap.size W W') : Rd W' rb mb lv s L g c := h.keeps (F := fun _ => False) (Keeps.of_below hb) (fun h => h) (fun h => h) (fun _ _ _ h => h)
theorem Rd.keepG {W W' : World} {rb mb c : Nat} {lv : Value} {s : List UInt8} {L : List Part} {g : Nat → Nat} (h : Rd W rb mb lv s L g c) (hk : KeepG (rdG rb mb lv L.length) W W') : Rd W' rb mb lv s L g c := by
  have lt : ∀ k, rdG rb mb lv L.length k → k < W.heap.size → k < W'.heap.size := fun k hG hlt => by
    have e := hk k hG
    rw [Array.getElem?_eq_getElem hlt] at e
    exact (Array.getElem?_eq_some_iff.1 e).1
  refine ⟨⟨lt rb (.inl rfl) h.bx.lt, fun j u hj => (hk.cell (.inl rfl)).trans (h.bx.c j u hj), fun j => (World.frozen?_of_block (w := W) (hk rb (.inl rfl))).trans (h.bx.f j)⟩, ?_, h.mp.block (hk mb (.inr (.inl rfl)))⟩
  obtain ⟨A, c', h1, h2, h3, hn, h4⟩ := h.sl
  refine ⟨A, c', h1, h2, h3, hn, fun h0 => ?_⟩
  obtain ⟨b, off, e, hlt, hc⟩ := h4 h0
  have hG : rdG rb mb lv L.length b := .inr (.inr ⟨h0, by rw [h1, e]; rfl⟩)
  exact ⟨b, off, e, lt b hG hlt, fun k x hx j u hj => (hk.cell hG).trans (hc k x hx j u hj)⟩
/-- A part as it lies in a reader's row. -/
theorem Rd.part {W : World} {rb mb c n : Nat} {A : Option Addr} {cp : Nat} {s : List UInt8} {L : List Part} {g : Nat → Nat} (h : Rd W rb mb (.slice A n cp) s L g c) {k : Nat} {p : Part} (hk : L[k]? = some p) :
    n = L.length ∧ ∃ b off, A = some ⟨b, off, none⟩ ∧ b < W.heap.size ∧ ∀ j u, (partC p)[j]? = some u → W.cell? ⟨b, off + k * 5 + j, none⟩ = some u := by
  obtain ⟨A', c', h1, h2, h3, hn, h4⟩ := h.sl
  injection h1 with e1 e2 e3
  have hlt := (List.getElem?_eq_some_iff.1 hk).1
  obtain ⟨b, off, e, hb, hc⟩ := h4 (by omega)
  exact ⟨e2, b, off, by rw [e1, e], hb, fun j u hj => hc k p hk j u hj⟩
theorem Rd.form {W : World} {rb mb c : Nat} {lv : Value} {s : List UInt8} {L : List Part} {g : Nat → Nat} (h : Rd W rb mb lv s L g c) : ∃ A cp, lv = .slice A L.length cp ∧ L.length ≤ cp := by
  obtain ⟨A', c', h1, h2, h3, hn, h4⟩ := h.sl
  exact ⟨A', c', h1, h2⟩
/-- What read leaves while it notes where parts begin. -/
structure RdI (w : World) (rb mb : Nat) (W : World) (lv : Value) (s : List UInt8) (L : List Part) (k : Nat) : Prop where
  r : Rd W rb mb lv s L (idxP (L.take k)) k
  be : Below w.heap.size w W
  g1 : w.heap.size ≤ rb
  g2 : w.heap.size ≤ mb
  g3 : ∀ k, 0 < L.length → lv.ownBlock = some k → w.heap.size ≤ k
  n1 : rb ≠ mb
  n2 : lv.ownBlock ≠ some mb
theorem RdI.below {w W W' : World} {rb mb k : Nat} {lv : Value} {s : List UInt8} {L : List Part} (h : RdI w rb mb W lv s L k) (hb : Below W.heap.size W W') : RdI w rb mb W' lv s L k := ⟨h.r.below hb, below_then h.be hb, h.g1, h.g2, h.g3, h.n1, h.n2⟩
theorem RdI.put {w W : World} {rb mb k : Nat} {lv : Value} {s : List UInt8} {L : List Part} {p : Part} (h : RdI w rb mb W lv s L k) (hk : L[k]? = some p) (hp : p.fr ≤ 2147483648) (hl : L.length ≤ 1073741824) :
    ∃ w', (Instr.mapUpdate 105 (.map (some mb)) (.int .i64 p.fr) (.int .i64 (k + 1 : Nat))).run Tryz.prog W = .ok () w' ∧ RdI w rb mb w' lv s L (k + 1) := by
  have hlt := (List.getElem?_eq_some_iff.1 hk).1
  obtain ⟨w', hr, hn, ht⟩ := h.r.mp.put p.fr (k + 1) hp (by omega)
  have hK := keeps_turned ht
  refine ⟨w', hr, ⟨⟨h.r.bx.keeps hK h.n1, h.r.sl.keeps hK (fun j e _ q => h.n2 (by rw [e, show j = mb from q])), ?_⟩, below_keeps h.be hK (fun j e => by rw [show j = mb from e]; exact h.g2), h.g1, h.g2, h.g3, h.n1, h.n2⟩⟩
  have e : (fun x => if x = p.fr then k + 1 else idxP (L.take k) x) = idxP (L.take (k + 1)) := by
    funext x
    rw [List.take_succ_eq_append_getElem hlt, idxP_snoc, List.length_take, Nat.min_eq_left (by omega)]
    rw [List.getElem?_eq_getElem hlt] at hk
    cases hk
    rfl
  rw [e] at hn
  exact hn
set_option maxHeartbeats 4000000 in
theorem read_any (s : List UInt8) (w : World) (hs : s.length ≤ 30000) : Calls Tryz.prog 37 #[.string (B s)] w fun e w' => ∃ rb mb lv, e = .returned (.pointer (some ⟨rb, 0, none⟩)) ∧ RdI w rb mb w' lv s (partsL s) (partsL s).length := by
  have HO := Lib.hid fun W => parts_of_any s W hs
  have HB := Lib.hid (parts_sound s)
  have HLN := Lib.hid (show (partsL s).length ≤ 1073741824 by
    have := (par_len (s := s) s.length (Nat.le_refl _)).1
    have h2 : s.length * (s.length + 1) ≤ 30000 * 30001 := Nat.mul_le_mul (by omega) (by omega)
    rw [List.take_length] at this
    unfold partsL
    rw [List.length_map]
    omega)
  have hmk := fun w => run_makeMap (P := Tryz.prog) 105 w
  generalize partsL s = L at *
  go_enter Tryz.func37, Tryz.ntmps37
  go_upto_region 2 with (go_at_call 62; refine (HO.out _).mono ?_; rintro e w1 ⟨lv, rfl, hown, hb⟩; obtain ⟨A, cp, rfl, hA⟩ := hown.form0)
  have HI : Hid (RdI w (w1.heap.size + 1) w1.heap.size ((w1.alloc (.map #[] 0)).alloc (.cells #[.string (B s), .slice A L.length cp, .map (some w1.heap.size)] 107)) (.slice A L.length cp) s L 0) := by
    have hs1 := hb.size
    have hsl := hown.sl partC_len rfl
    have b1 := below_alloc (Below.refl _ w1) (.map #[] 0)
    have b2 := below_alloc (Below.refl _ (w1.alloc (.map #[] 0))) (.cells #[.string (B s), .slice A L.length cp, .map (some w1.heap.size)] 107)
    have b12 := below_then b1 b2
    have hsz : (w1.alloc (.map #[] 0)).heap.size = w1.heap.size + 1 := by simp
    have hbx := BoxN.new (w1.alloc (.map #[] 0)) [.string (B s), .slice A L.length cp, .map (some w1.heap.size)] 107
    rw [hsz] at hbx
    have hlt := hown.lt
    refine Lib.hid ⟨⟨hbx, ?_, ?_⟩, below_then hb b12, by omega, hs1, ?_, by omega, ?_⟩
    · exact (hsl.keeps (F := fun _ => False) (Keeps.of_below b12) (fun _ _ _ h => h))
    · exact (NumsAt.new w1).below b2
    · intro k h0 hk
      obtain ⟨g, off, c, e, h1, _⟩ := hown.form' h0
      rw [e] at hk
      cases hk
      exact h1
    · intro e
      have := hlt _ e
      omega
  clear hown hb hmk hA
  generalize w1.heap.size = mb at *
  generalize (w1.alloc (.map #[] 0)).alloc (.cells #[.string (B s), .slice A L.length cp, .map (some mb)] 107) = W1 at *
  clear w1
  have HCP := Lib.hid (show L.length ≤ cp by obtain ⟨A', cp', e, h⟩ := HI.out.r.form; injection e with _ _ e; omega)
  have c1 := HI.out.r.bx.c 1 _ rfl
  haveI : Old W1 (mb + 1) := ⟨HI.out.r.bx.lt⟩
  go_wp2
  clear c1
  go_loopw [4, 5, 17] (fun _ _ s17 W => ∃ (k : Nat) (W2 : World), W2 = W ∧ k ≤ L.length ∧ s17 = .int .i64 k ∧ Hid (RdI w (mb + 1) mb W2 (.slice A L.length cp) s L k)) (fun _ _ s17 _ => L.length - (intOf s17).toNat)
  case atStart => exact ⟨0, _, rfl, by omega, rfl, HI⟩
  case round =>
    clear HI
    obtain ⟨k, W2, rfl, hk, rfl, HI⟩ := hrel
    by_cases hlt : k < L.length
    · obtain ⟨P, hP⟩ : ∃ P, L[k]? = some P := ⟨_, List.getElem?_eq_getElem hlt⟩
      obtain ⟨-, b, off, rfl, hb, hc⟩ := HI.out.r.part hP
      have q0 := hc 0 _ rfl
      have q1 := hc 1 _ rfl
      have q2 := hc 2 _ rfl
      have q3 := hc 3 _ rfl
      have q4 := hc 4 _ rfl
      simp only [Nat.add_zero] at q0
      have hPs := HB.out P (List.mem_of_getElem? hP)
      have HPUT := Lib.hid fun W (hW : Below W2.heap.size W2 W) => (HI.out.below hW).put hP (by omega) HLN.out
      have p0 : (0 : Int) ≤ (k : Int) := by omega
      have p1 : (k : Int) < (L.length : Int) := by omega
      have p2 := HLN.out
      haveI : Old W2 b := ⟨hb⟩
      haveI : Old W2 (mb + 1) := ⟨HI.out.r.bx.lt⟩
      have c2 := HI.out.r.bx.c 2 _ rfl
      clear hc hPs hP
      have p3 : IntKind.i64.wrap ((k : Int) + 1) = ((k + 1 : Nat) : Int) := by rw [IntWalk.i64_in _ (by omega)]; rfl
      go_wp2_with fail
      (refine wp_region_grow_tail 8 (by kernel_rfl) (by kernel_rfl) ?_; simp only [List.take_succ_cons, List.take_zero, List.drop_succ_cons, List.drop_zero]; (repeat (go_big_quiet_step (fail))); refine wpQuiet_nil ?_; intro _ hw'; obtain ⟨gq, hw''⟩ := hw'; subst hw'')
      go_wp2_with (at_mapUpdate; refine wpList_mapUpd rfl (.tmp 25) (.tmp 27) (.tmp 29) 105 rfl _ _ _ rfl rfl rfl (HPUT.out _ (below_then (below_alloc (Below.refl _ _) _) (grow_below _ _))) ?_; rintro w5 hi5; have HI5 := Lib.hid hi5; clear hi5)
      go_roundw
      case rel => exact ⟨k + 1, _, rfl, by omega, by go_num, HI5⟩
      case measure => simp [intOf]; omega
    · have hk' : k = L.length := by omega
      subst hk'
      go_wp2
      go_ret
      exact ⟨_, _, _, rfl, HI.out⟩
end Go.Proofs.YtadaeecokkokjaaGreat.Li
