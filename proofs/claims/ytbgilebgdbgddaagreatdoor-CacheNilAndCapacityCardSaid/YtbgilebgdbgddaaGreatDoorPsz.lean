/- The parser's state; a size line -/
import Derived.Test.YtbgilebgdbgddaaGreatDoorAdr
import Derived.OrdersHeld
import Derived.StillTail
set_option linter.unusedVariables false
set_option linter.unusedSimpArgs false
namespace Go.Proofs.YtbgilebgdbgddaaGreatDoor
open Go.RowKit
def intC (n : Int) : List Value := [.int .i64 n]
/-- Everything that was there stands, and the blocks of lines as they were in Wk. -/
structure BelK (Wk W0 w : World) : Prop where
  bel : Bel W0 w
  kp : ∀ n cs, Blk Wk n cs 278 → Blk w n cs 278
instance {Wk W0 w : World} : CoeOut (BelK Wk W0 w) (Bel W0 w) := ⟨BelK.bel⟩
theorem BelK.trans {Wk a b c : World} (h : BelK Wk a b) (k : Bel b c) : BelK Wk a c := ⟨h.bel.trans k, fun n cs hb => (h.kp n cs hb).bel k⟩
theorem BelK.alloc {Wk a b : World} (h : BelK Wk a b) (o : Obj) : BelK Wk a (b.alloc o) := h.trans ((Bel.refl b).alloc o)
theorem BelK.drew {Wk a b : World} (h : BelK Wk a b) : BelK Wk a b.drew := h.trans (Bel.refl b).drew
theorem BelK.cell {Wk w w' : World} (h : BelK Wk w w') {a : Addr} {v : Value} (hc : w.cell? a = some v) : w'.cell? a = some v := h.bel.cell hc
theorem BelK.size {Wk w w' : World} (h : BelK Wk w w') : w.heap.size ≤ w'.heap.size := h.bel.size
theorem BelK.tfr {Wk a b c : World} {T : List TypeId} (h : BelK Wk a b) (k : TFr T a.heap.size b c) (hT : 278 ∉ T) : BelK Wk a c := ⟨k.toBel h.bel, fun n cs hb => k.blk (h.kp n cs hb) (.inr hT)⟩
theorem BelK.now {Wk a b : World} (h : BelK Wk a b) : BelK b a b := ⟨h.bel, fun _ _ hb => hb⟩
structure PsAt (Wk W0 W1 w : World) (Bp : Nat) (p : PS) : Prop where
  bel : BelK Wk W0 w
  base : W0.heap.size ≤ Bp
  fr : TFr [275, 33, 3] W0.heap.size W1 w
  bel1 : Bel W0 W1
  ex : ∃ vr vl vj cs, Blk w Bp #[.int .i64 p.i, .int .i64 p.q, .int .i64 p.m, vr, .bool p.sized, vl, vj] 275 ∧ w.ownsRow W0.heap.size 33 4 vr p.rungs.length cs ∧
    (∀ k r, k + 1 < p.rungs.length → p.rungs[k]? = some r → ∃ c4, RungO W0.heap.size W1 r c4 ∧ ∀ j u, c4[j]? = some u → cs[k * 4 + j]? = some u) ∧
    (∀ k r, k + 1 = p.rungs.length → p.rungs[k]? = some r → ∃ c4, RungO W1.heap.size w r c4 ∧ ∀ j u, c4[j]? = some u → cs[k * 4 + j]? = some u) ∧
    w.ownsRow W0.heap.size 3 1 vl p.lines.length (p.lines.flatMap intC) ∧ w.ownsRow W0.heap.size 3 1 vj p.jumps.length (p.jumps.flatMap intC) ∧ (∀ g, vl.ownBlock = some g → vj.ownBlock ≠ some g)
theorem PsAt.to {Wk W0 W1 w w' : World} {Bp : Nat} {p : PS} (h : PsAt Wk W0 W1 w Bp p) (hb : Bel w w') : PsAt Wk W0 W1 w' Bp p := by
  obtain ⟨vr, vl, vj, cs, q, ho, h1, h2, hl, hj, hs⟩ := h.ex
  refine ⟨h.bel.trans hb, h.base, h.fr.bel hb, h.bel1, vr, vl, vj, cs, q.bel hb, own_bel ho hb, h1, fun k r hk hr => ?_, own_bel hl hb, own_bel hj hb, hs⟩
  obtain ⟨c4, h3, h4⟩ := h2 k r hk hr
  exact ⟨c4, h3.bel hb, h4⟩
theorem PsAt.now {Wk W0 W1 w : World} {Bp : Nat} {p : PS} (h : PsAt Wk W0 W1 w Bp p) : PsAt w W0 W1 w Bp p := ⟨h.bel.now, h.base, h.fr, h.bel1, h.ex⟩
/-- The parser's own block is written. -/
theorem PsAt.put {Wk W0 W1 w w' : World} {Bp : Nat} {p p' : PS} (h : PsAt Wk W0 W1 w Bp p) (hf : TFr [275] W0.heap.size w w') (hr : p'.rungs = p.rungs) (hl : p'.lines = p.lines) (hj : p'.jumps = p.jumps)
    (hq : ∀ vr vl vj, Blk w Bp #[.int .i64 p.i, .int .i64 p.q, .int .i64 p.m, vr, .bool p.sized, vl, vj] 275 → Blk w' Bp #[.int .i64 p'.i, .int .i64 p'.q, .int .i64 p'.m, vr, .bool p'.sized, vl, vj] 275) : PsAt Wk W0 W1 w' Bp p' := by
  obtain ⟨vr, vl, vj, cs, q, ho, h1, h2, h3, h4, hs⟩ := h.ex
  refine ⟨h.bel.tfr hf (by decide), h.base, h.fr.trans (hf.wider (by simp)), h.bel1, vr, vl, vj, cs, hq _ _ _ q, ?_⟩
  rw [hr, hl, hj]
  refine ⟨own_tfr ho hf (by decide), h1, fun k r hk hr => ?_, own_tfr h3 hf (by decide), own_tfr h4 hf (by decide), hs⟩
  obtain ⟨c4, h5, h6⟩ := h2 k r hk hr
  exact ⟨c4, h5.tfr hf (by decide) (by decide), h6⟩
def wrd (l : Line) (k : Nat) : ByteArray := l.words.getD k .empty
theorem wrd_cell {w : World} {l : Line} {a : Option Addr} {n c : Nat} (h : SlAt StrE 1 w (.slice a n c) l.words) {k : Nat} (hk : k < l.words.length) : ∃ b off, a = some ⟨b, off, none⟩ ∧ w.cell? ⟨b, off + k, none⟩ = some (.string (wrd l k)) := by
  have hg : l.words[k]? = some (wrd l k) := by unfold wrd; simp [hk]
  exact slStr h hg
theorem wrd_size {l : Line} (h : ∀ s ∈ l.words, s.size ≤ 65536) (k : Nat) : (wrd l k).size ≤ 65536 := by
  unfold wrd
  rcases Nat.lt_or_ge k l.words.length with hk | hk
  · rw [List.getD_eq_getElem?_getD, List.getElem?_eq_getElem hk]
    exact h _ (List.getElem_mem hk)
  · rw [List.getD_eq_getElem?_getD, List.getElem?_eq_none hk]
    decide
/-- What a size line does. -/
def sizeF (p : PS) (l : Line) : Int × PS :=
  if p.sized = true then (9, p) else
  if (numberF (wrd l 1) 256).2 ≠ 0 then ((numberF (wrd l 1) 256).2, p) else
  if (numberF (wrd l 2) 256).2 ≠ 0 then ((numberF (wrd l 2) 256).2, p) else
  if (numberF (wrd l 3) 256).2 ≠ 0 then ((numberF (wrd l 3) 256).2, p) else
  (0, { p with i := (numberF (wrd l 1) 256).1, q := (numberF (wrd l 2) 256).1, m := (numberF (wrd l 3) 256).1, sized := true })
/-- Every map lies as it lay. -/
def MapsKept (w w' : World) : Prop := ∀ (k : Nat) (es : Array MapEntry) (c : Nat), w.heap[k]? = some (Obj.map es c) → w'.heap[k]? = some (Obj.map es c)
theorem MapsKept.refl (w : World) : MapsKept w w := fun _ _ _ h => h
theorem MapsKept.trans {a b c : World} (h : MapsKept a b) (k : MapsKept b c) : MapsKept a c := fun i es cl hi => k i es cl (h i es cl hi)
theorem MapsKept.tfr {T : List TypeId} {B : Nat} {w w' : World} (h : TFr T B w w') : MapsKept w w' := fun k es c hk =>
  (h.block k (Array.getElem?_eq_some_iff.1 hk).1 (.inr (by rw [hk]; exact id))).trans hk
theorem MapsKept.bel {w w' : World} (h : Bel w w') : MapsKept w w' := MapsKept.tfr (TFr.of_bel [] 0 h)
theorem MapsKept.at {κ : Type} [DecidableEq κ] {kv : κ → Value} {w w' : World} {b : Nat} {L : List (κ × Value)} (h : MapsKept w w') (hm : MapAt kv w b L) : MapAt kv w' b L := by
  obtain ⟨es, clock, h1, h2⟩ := hm.ex
  exact ⟨⟨es, clock, h _ _ _ h1, h2⟩⟩
/-- What a method of the parser answers at a line. -/
def Answers (Wk W0 W1 : World) (Bp : Nat) (f : Int × PS) (e : Ending) (w' : World) : Prop := e = .returned (.int .i64 f.1) ∧ BelK Wk W0 w' ∧ (f.1 = 0 → ∃ W2, MapsKept W1 W2 ∧ PsAt Wk W0 W2 w' Bp f.2)
set_option maxRecDepth 100000 in
set_option maxHeartbeats 4000000 in
theorem size203 (Wk W0 W1 w : World) (Bp : Nat) (p : PS) (l : Line) (cl : List Value) (henv : Env W0) (hp : PsAt Wk W0 W1 w Bp p) (hl : LineE W0 l cl) (hn : l.words.length = 4) (hsz : ∀ s ∈ l.words, s.size ≤ 65536) :
    Calls Tryz.prog 203 #[.pointer (some ⟨Bp, 0, none⟩), .agg cl.toArray] w (Answers Wk W0 W1 Bp (sizeF p l)) := by
  obtain ⟨v, rfl, hw⟩ := hl
  obtain ⟨a, c, rfl, hc1, hc2, _⟩ := hw.ex
  obtain ⟨b, off, rfl, d1⟩ := wrd_cell hw (k := 1) (by omega)
  obtain ⟨_, _, e2, d2⟩ := wrd_cell hw (k := 2) (by omega)
  obtain ⟨_, _, e3, d3⟩ := wrd_cell hw (k := 3) (by omega)
  rw [hn] at hw hc1 ⊢
  injection e2 with e2; injection e2 with e2 e2'; subst e2; subst e2'
  injection e3 with e3; injection e3 with e3 e3'; subst e3; subst e3'
  have hs1 := wrd_size hsz 1; have hs2 := wrd_size hsz 2; have hs3 := wrd_size hsz 3
  have hS : sizeF p l = (if p.sized = true then ((9 : Int), p) else if (numberF (wrd l 1) 256).2 ≠ 0 then ((numberF (wrd l 1) 256).2, p) else if (numberF (wrd l 2) 256).2 ≠ 0 then ((numberF (wrd l 2) 256).2, p) else if (numberF (wrd l 3) 256).2 ≠ 0 then ((numberF (wrd l 3) 256).2, p) else (0, { p with i := (numberF (wrd l 1) 256).1, q := (numberF (wrd l 2) 256).1, m := (numberF (wrd l 3) 256).1, sized := true })) := rfl
  generalize wrd l 1 = s1 at *
  generalize wrd l 2 = s2 at *
  generalize wrd l 3 = s3 at *
  obtain ⟨vr, vl, vj, cs, q, _⟩ := hp.ex
  have hnum1 := fun W (hb : Bel W0 W) => number_any s1 256 W (by omega) (by omega) (by omega) (henv.bel hb)
  have hnum2 := fun W (hb : Bel W0 W) => number_any s2 256 W (by omega) (by omega) (by omega) (henv.bel hb)
  have hnum3 := fun W (hb : Bel W0 W) => number_any s3 256 W (by omega) (by omega) (by omega) (henv.bel hb)
  have hB := hp.bel
  have k4 := (q.alloc (.cells #[.int .i64 l.n, .slice (some ⟨b, off, none⟩) 4 c] 278)).cell 4 rfl
  by_cases hsd : p.sized = true
  · rw [if_pos hsd] at hS
    have HS := Lib.hid hS
    rw [hsd] at k4
    clear hS
    go_enter Tryz.func203, Tryz.ntmps203
    go_wp2_with fail
    exact bodyPost_ret (v := .int .i64 9) (by simp [results, Tryz.results203, go_sem]) rfl ⟨by rw [HS.out], hB.alloc _, fun h => by rw [HS.out] at h; cases h⟩
  · rw [if_neg hsd] at hS
    have HS := Lib.hid hS
    clear hS
    have hsd' : p.sized = false := by simpa using hsd
    rw [hsd'] at k4
    have hp0 := Lib.hid hp
    have hbw := hp.base
    clear hp hsd hw
    generalize numberF s1 256 = N1 at *
    generalize numberF s2 256 = N2 at *
    generalize numberF s3 256 = N3 at *
    go_enter Tryz.func203, Tryz.ntmps203
    go_wp2_with fail
    have q0 : Blk (w.alloc (.cells #[.int .i64 l.n, .slice (some ⟨b, off, none⟩) 4 c] 278)) w.heap.size #[.int .i64 l.n, .slice (some ⟨b, off, none⟩) 4 c] 278 := Blk.new w _ _
    have hb1 : Bel w (w.alloc (.cells #[.int .i64 l.n, .slice (some ⟨b, off, none⟩) 4 c] 278)) := (Bel.refl w).alloc _
    generalize (w.alloc (.cells #[.int .i64 l.n, .slice (some ⟨b, off, none⟩) 4 c] 278)) = W at *
    clear k4
    go_region
    have qp : Blk (W.alloc (.cells #[.pointer (some ⟨Bp, 0, none⟩), .pointer (some ⟨Bp, 1, none⟩), .pointer (some ⟨Bp, 2, none⟩)] 324)).drew W.heap.size #[.pointer (some ⟨Bp, 0, none⟩), .pointer (some ⟨Bp, 1, none⟩), .pointer (some ⟨Bp, 2, none⟩)] 324 := (Blk.new W _ _).drewN 1
    have hb3 : Bel w (W.alloc (.cells #[.pointer (some ⟨Bp, 0, none⟩), .pointer (some ⟨Bp, 1, none⟩), .pointer (some ⟨Bp, 2, none⟩)] 324)).drew := (hb1.alloc _).drew
    have q03 : Blk (W.alloc (.cells #[.pointer (some ⟨Bp, 0, none⟩), .pointer (some ⟨Bp, 1, none⟩), .pointer (some ⟨Bp, 2, none⟩)] 324)).drew w.heap.size _ 278 := (q0.alloc _).drewN 1
    have hne : W.heap.size ≠ Bp := by have := q.lt; have := hb1.size; omega
    have hne0 : w.heap.size ≠ Bp := by have := q.lt; omega
    generalize (W.alloc (.cells #[.pointer (some ⟨Bp, 0, none⟩), .pointer (some ⟨Bp, 1, none⟩), .pointer (some ⟨Bp, 2, none⟩)] 324)).drew = W3 at *
    have q3 := q.bel hb3
    rw [hsd'] at q3
    obtain ⟨BS, hBS⟩ : ∃ BS, BS = W.heap.size := ⟨_, rfl⟩
    rw [← hBS] at qp hne ⊢
    clear hBS q0 hb1
    go_wp2_with fail
    go_loopw [27] (fun x wr => ∃ k : Nat, k ≤ 3 ∧ x = .int .i64 k ∧ TFr [275] W0.heap.size w wr ∧ Blk wr w.heap.size #[.int .i64 l.n, .slice (some ⟨b, off, none⟩) 4 c] 278 ∧ Blk wr BS #[.pointer (some ⟨Bp, 0, none⟩), .pointer (some ⟨Bp, 1, none⟩), .pointer (some ⟨Bp, 2, none⟩)] 324 ∧ Blk wr Bp #[.int .i64 (if 0 < k then N1.1 else p.i), .int .i64 (if 1 < k then N2.1 else p.q), .int .i64 (if 2 < k then N3.1 else p.m), vr, .bool false, vl, vj] 275 ∧ (0 < k → N1.2 = 0) ∧ (1 < k → N2.2 = 0) ∧ (2 < k → N3.2 = 0)) (fun x _ => 3 - (intOf x).toNat)
    case atStart => exact ⟨0, by omega, rfl, TFr.of_bel _ _ hb3, q03, qp, q3, by omega, by omega, by omega⟩
    case round =>
      clear hb3 q03 qp q3
      obtain ⟨k, hk, rfl, hf, q0, qp, q3, h1, h2, h3⟩ := hrel
      have hBw := hB.tfr hf (by decide)
      by_cases hk0 : k = 0
      · subst hk0
        have u0 := q0.cell 1 rfl; have u1 := qp.cell 0 rfl; have u2 := hBw.cell d1
        go_wp2_with fail
        refine (hnum1 _ hBw).mono ?_
        rintro en w5 ⟨rfl, hb5⟩
        have qp5 := q3.bel hb5
        have z0 := qp5.cell 0 rfl
        have zf := qp5.frozen 0
        by_cases hz : N1.2 = 0
        · have hz1 : (N1.2 == 0) = true := by simpa using hz
          have hz2 : (N1.2 != 0) = false := by simpa using hz
          have Hz := Lib.hid hz
          have H1 := Lib.hid h1; have H2 := Lib.hid h2; have H3 := Lib.hid h3
          clear hz h1 h2 h3
          go_wp2_with fail
          go_roundw
          case rel =>
            refine ⟨1, by omega, by go_num, (hf.bel hb5).trans (TFr.setC qp5 (by simp) hbw _ _), (q0.bel hb5).set_other (by show Bp ≠ w.heap.size; omega) _, (qp.bel hb5).set_other (by show Bp ≠ BS; omega) _, qp5.set 0 _, ?_, ?_, ?_⟩
            all_goals intro _
            · exact Hz.out
            · omega
            · omega
          case measure => simp [intOf]
        · have hz1 : (N1.2 == 0) = false := by simpa using hz
          have hz2 : (N1.2 != 0) = true := by simpa using hz
          have HS2 := HS.out
          rw [if_pos hz] at HS2
          have HS3 := Lib.hid HS2
          have Hz := Lib.hid hz
          clear hz HS2 h1 h2 h3
          obtain ⟨F, hF⟩ : ∃ F, F = N1.2 := ⟨_, rfl⟩
          rw [← hF] at hz1 hz2 ⊢
          have HF := Lib.hid hF
          clear hF
          go_wp2_with fail
          exact bodyPost_ret (v := .int .i64 F) (by simp [results, Tryz.results203, go_sem]) rfl ⟨by rw [HS3.out, HF.out], hBw.trans hb5, fun h => by rw [HS3.out] at h; exact absurd h Hz.out⟩
      by_cases hk1 : k = 1
      · subst hk1
        have u0 := q0.cell 1 rfl; have u1 := qp.cell 1 rfl; have u2 := hBw.cell d2
        go_wp2_with fail
        refine (hnum2 _ hBw).mono ?_
        rintro en w5 ⟨rfl, hb5⟩
        have qp5 := q3.bel hb5
        have z0 := qp5.cell 1 rfl
        have zf := qp5.frozen 1
        by_cases hz : N2.2 = 0
        · have hz1 : (N2.2 == 0) = true := by simpa using hz
          have hz2 : (N2.2 != 0) = false := by simpa using hz
          have Hz := Lib.hid hz
          have H1 := Lib.hid h1; have H2 := Lib.hid h2; have H3 := Lib.hid h3
          clear hz h1 h2 h3
          go_wp2_with fail
          go_roundw
          case rel =>
            refine ⟨2, by omega, by go_num, (hf.bel hb5).trans (TFr.setC qp5 (by simp) hbw _ _), (q0.bel hb5).set_other (by show Bp ≠ w.heap.size; omega) _, (qp.bel hb5).set_other (by show Bp ≠ BS; omega) _, qp5.set 1 _, ?_, ?_, ?_⟩
            all_goals intro _
            · exact H1.out (by omega)
            · exact Hz.out
            · omega
          case measure => simp [intOf]
        · have hz1 : (N2.2 == 0) = false := by simpa using hz
          have hz2 : (N2.2 != 0) = true := by simpa using hz
          have HS2 := HS.out
          rw [if_neg (fun h => h (h1 (by omega))), if_pos hz] at HS2
          have HS3 := Lib.hid HS2
          have Hz := Lib.hid hz
          clear hz HS2 h1 h2 h3
          obtain ⟨F, hF⟩ : ∃ F, F = N2.2 := ⟨_, rfl⟩
          rw [← hF] at hz1 hz2 ⊢
          have HF := Lib.hid hF
          clear hF
          go_wp2_with fail
          exact bodyPost_ret (v := .int .i64 F) (by simp [results, Tryz.results203, go_sem]) rfl ⟨by rw [HS3.out, HF.out], hBw.trans hb5, fun h => by rw [HS3.out] at h; exact absurd h Hz.out⟩
      by_cases hk2 : k = 2
      · subst hk2
        have u0 := q0.cell 1 rfl; have u1 := qp.cell 2 rfl; have u2 := hBw.cell d3
        go_wp2_with fail
        refine (hnum3 _ hBw).mono ?_
        rintro en w5 ⟨rfl, hb5⟩
        have qp5 := q3.bel hb5
        have z0 := qp5.cell 2 rfl
        have zf := qp5.frozen 2
        by_cases hz : N3.2 = 0
        · have hz1 : (N3.2 == 0) = true := by simpa using hz
          have hz2 : (N3.2 != 0) = false := by simpa using hz
          have Hz := Lib.hid hz
          have H1 := Lib.hid h1; have H2 := Lib.hid h2; have H3 := Lib.hid h3
          clear hz h1 h2 h3
          go_wp2_with fail
          go_roundw
          case rel =>
            refine ⟨3, by omega, by go_num, (hf.bel hb5).trans (TFr.setC qp5 (by simp) hbw _ _), (q0.bel hb5).set_other (by show Bp ≠ w.heap.size; omega) _, (qp.bel hb5).set_other (by show Bp ≠ BS; omega) _, qp5.set 2 _, ?_, ?_, ?_⟩
            all_goals intro _
            · exact H1.out (by omega)
            · exact H2.out (by omega)
            · exact Hz.out
          case measure => simp [intOf]
        · have hz1 : (N3.2 == 0) = false := by simpa using hz
          have hz2 : (N3.2 != 0) = true := by simpa using hz
          have HS2 := HS.out
          rw [if_neg (fun h => h (h1 (by omega))), if_neg (fun h => h (h2 (by omega))), if_pos hz] at HS2
          have HS3 := Lib.hid HS2
          have Hz := Lib.hid hz
          clear hz HS2 h1 h2 h3
          obtain ⟨F, hF⟩ : ∃ F, F = N3.2 := ⟨_, rfl⟩
          rw [← hF] at hz1 hz2 ⊢
          have HF := Lib.hid hF
          clear hF
          go_wp2_with fail
          exact bodyPost_ret (v := .int .i64 F) (by simp [results, Tryz.results203, go_sem]) rfl ⟨by rw [HS3.out, HF.out], hBw.trans hb5, fun h => by rw [HS3.out] at h; exact absurd h Hz.out⟩
      obtain rfl : k = 3 := by omega
      have HS2 := HS.out
      rw [if_neg (fun h => h (h1 (by omega))), if_neg (fun h => h (h2 (by omega))), if_neg (fun h => h (h3 (by omega)))] at HS2
      have HS3 := Lib.hid HS2
      clear HS2 h1 h2 h3 hk0 hk1 hk2
      have z4 := q3.cell 4 rfl
      have z4f := q3.frozen 4
      go_wp2_with fail
      refine bodyPost_ret (v := .int .i64 0) (by simp [results, Tryz.results203, go_sem]) rfl ⟨by rw [HS3.out], hBw.tfr (TFr.setC (T := [275]) q3 (by simp) hbw _ _) (by decide), fun _ => ⟨W1, MapsKept.refl _, ?_⟩⟩
      rw [HS3.out]
      refine PsAt.put hp0.out (hf.trans (TFr.setC q3 (by simp) hbw _ _)) rfl rfl rfl fun vr' vl' vj' hq' => ?_
      have e := hq'.symm.trans q
      injection e with e
      injection e with e
      have e3 := congrArg (fun a : Array Value => a[3]?) e
      have e5 := congrArg (fun a : Array Value => a[5]?) e
      have e6 := congrArg (fun a : Array Value => a[6]?) e
      simp at e3 e5 e6
      rw [e3, e5, e6]
      exact q3.set 4 _
end Go.Proofs.YtbgilebgdbgddaaGreatDoor
/- A region that draws its order, its last stores outside the condition that the loads are read by. -/
namespace Go.Proofs.YtbgilebgdbgddaaGreatDoor
open Go.RowKit
section
variable {P : Program} {ops : Array Oper} {Q : Exit → Act → World → Prop} {md : Region.Mode} {S S0 : World → Prop} {V : Nat → Bool}
/-- S stands behind each operation of V, whatever the order. -/
def wpAnyT (P : Program) (md : Region.Mode) (ops : Array Oper) (Q : Exit → Act → World → Prop) (S : World → Prop) (V : Nat → Bool) : Nat → Array Bool → Act → World → Prop
  | 0, listed, a, w => Region.ready md ops listed = [] ∧ Q .normal a w
  | fuel + 1, listed, a, w => (Region.ready md ops listed = [] → Q .normal a w) ∧
    ∀ i ∈ Region.ready md ops listed, wpOp P ops Q i (fun a' w' => (V i = true → S w → S w') ∧ wpAnyT P md ops Q S V fuel (listed.setIfInBounds i true) a' w') a w
theorem wpAnyT_any : ∀ (fuel : Nat) (listed : Array Bool) (a : Act) (w : World), wpAnyT P md ops Q S V fuel listed a w → wpAny P md ops Q fuel listed a w
  | 0, _, _, _, h => h
  | fuel + 1, _, _, _, h => ⟨h.1, fun i hi => wpOp_mono (fun _ _ h' => wpAnyT_any fuel _ _ _ h'.2) (h.2 i hi)⟩
/-- What an operation waits for has come up before it. -/
def ClosedL (md : Region.Mode) (ops : Array Oper) (listed : Array Bool) : Prop := ∀ j oj, ops[j]? = some oj → listed.getD j false = true → ∀ e ∈ oj.after, Region.binds md e = true → listed.getD e.on false = true
theorem ClosedL.set {i : Nat} {listed : Array Bool} (h : ClosedL md ops listed) (hi : i ∈ Region.ready md ops listed) : ClosedL md ops (listed.setIfInBounds i true) := by
  obtain ⟨_, oi, hoi, hall⟩ := mem_ready.1 hi
  intro j oj hj hl e he hb
  by_cases hij : i = j
  · subst hij
    obtain rfl : oj = oi := Option.some.inj (hj.symm.trans hoi)
    exact getD_set_true (hall e he hb)
  · rw [getD_set_ne false hij] at hl
    exact getD_set_true (h j oj hj hl e he hb)
theorem ClosedL.start (n : Nat) : ClosedL md ops (Array.replicate n false) := fun j _ _ h => by
  rw [getD_replicate_false] at h; cases h
/-- A chain of waits. -/
def chainTo (md : Region.Mode) (ops : Array Oper) : List Nat → Bool
  | a :: b :: l => Region.waitsFor md ops a b && chainTo md ops (b :: l)
  | _ => true
theorem chain_listed {listed : Array Bool} (h : ClosedL md ops listed) : ∀ (l : List Nat) (a i : Nat), chainTo md ops (a :: l) = true → (a :: l).getLast? = some i → listed.getD a false = true → listed.getD i false = true
  | [], a, i, _, h2, h3 => by simp at h2; subst h2; exact h3
  | b :: l, a, i, h1, h2, h3 => by
    simp only [chainTo, Bool.and_eq_true] at h1
    obtain ⟨oa, hoa, e, he, hb, hon⟩ := Region.waitsFor_spec h1.1
    have := h a oa hoa h3 e he hb
    rw [hon] at this
    exact chain_listed h l b i h1.2 (by rw [List.getLast?_cons_cons] at h2; exact h2) this
theorem chain_ready {listed : Array Bool} (h : ClosedL md ops listed) {l : List Nat} {a b i : Nat} (h1 : chainTo md ops (a :: b :: l) = true) (h2 : (b :: l).getLast? = some i) (h3 : a ∈ Region.ready md ops listed) : listed.getD i false = true := by
  simp only [chainTo, Bool.and_eq_true] at h1
  obtain ⟨oa, hoa, e, he, hb, hon⟩ := Region.waitsFor_spec h1.1
  obtain ⟨_, o', ho', hall⟩ := mem_ready.1 h3
  obtain rfl : oa = o' := Option.some.inj (hoa.symm.trans ho')
  have := hall e he hb
  rw [hon] at this
  exact chain_listed h l b i h1.2 h2 this
/-- While i is to come, S0 stands behind whatever comes up. -/
def Stands (md : Region.Mode) (ops : Array Oper) (S S0 : World → Prop) (V : Nat → Bool) (i : Nat) : Prop := ∀ listed, ClosedL md ops listed → listed.getD i true = false → ∀ j ∈ Region.ready md ops listed, ∀ w w', (V j = true → S w → S w') → S0 w → S0 w'
theorem Stands.free (i : Nat) : Stands md ops S (fun _ => True) V i := fun _ _ _ _ _ _ _ _ _ => trivial
theorem Stands.of_chains {i : Nat} (n : Nat) (hs : ∀ j, V j = false → ∃ b l, chainTo md ops (j :: b :: l) = true ∧ (b :: l).getLast? = some i) : Stands md ops S S V i := fun listed hc hi j hj w w' h h0 => by
  cases hv : V j with
  | true => exact h hv h0
  | false =>
    obtain ⟨b, l, h1, h2⟩ := hs j hv
    have := chain_ready hc h1 h2 hj
    rcases Nat.lt_or_ge i listed.size with h' | h'
    · simp [h'] at this hi; rw [this] at hi; cases hi
    · simp [Array.getElem?_eq_none h'] at this
theorem wpAnyT_first {i : Nat} {oi : Oper} {v : Value} (hi : ops[i]? = some oi) (hsel : ∀ (j : Nat) (o : Oper) cs b, ops[j]? = some o → o.op ≠ .select cs b)
    (hQ : ∀ c a w, Q (.panic c) (a.put oi.dst v) w → Q (.panic c) a w) (hst : Stands md ops S S0 V i) :
    ∀ (fuel : Nat) (listed : Array Bool) (a : Act) (w : World), ClosedL md ops listed →
      (∀ j oj, ops[j]? = some oj → j ≠ i → listed.getD j true = false → (∀ e ∈ oj.after, Region.binds md e = true → e.on ≠ i) → oi.apart ops oj = true) →
      i ∈ Region.ready md ops listed → YieldsIf P ops S0 oi v a → S0 w →
      wpAnyT P md ops Q S V fuel (listed.setIfInBounds i true) (a.put oi.dst v) w → wpAnyT P md ops Q S V (fuel + 1) listed a w
  | 0, listed, a, w, _, _, hr, hy, hS, H => by
    refine ⟨fun h => (by rw [h] at hr; cases hr), fun j hj => ?_⟩
    by_cases hji : j = i
    · subst hji; exact hy.wpOp hi hS ⟨fun _ h => h, H⟩
    · have := ready_mono hj hji
      rw [H.1] at this
      cases this
  | fuel + 1, listed, a, w, hcl, hfree, hr, hy, hS, H => by
    refine ⟨fun h => (by rw [h] at hr; cases hr), fun j hj => ?_⟩
    by_cases hji : j = i
    · subst hji; exact hy.wpOp hi hS ⟨fun _ h => h, H⟩
    · obtain ⟨hjun, oj, hoj, hall⟩ := mem_ready.1 hj
      have hiun := (mem_ready.1 hr).1
      have hnot : ∀ e ∈ oj.after, Region.binds md e = true → e.on ≠ i := fun e he hb heq => by
        have h1 := hall e he hb
        rw [heq] at h1
        rcases Nat.lt_or_ge i listed.size with h' | h'
        · simp [h'] at hiun h1; rw [hiun] at h1; cases h1
        · simp [Array.getElem?_eq_none h'] at h1
      have h2 := wpOp_putIf hoj (hfree j oj hoj hji hjun hnot) (fun cs b => hsel i oi cs b hi) (fun cs b => hsel j oj cs b hoj) hQ hy (H.2 j (ready_mono hj hji))
      refine wpOp_mono (fun a' w' h3 => ⟨h3.2.1, wpAnyT_first hi hsel hQ hst fuel (listed.setIfInBounds j true) a' w' (hcl.set hj) (fun k ok hk hki hun hno => ?_) (ready_mono hr (Ne.symm hji)) h3.1 (hst listed hcl hiun j hj w w' h3.2.1 hS) ?_⟩) h2
      · refine hfree k ok hk hki ?_ hno
        by_cases hjk : j = k
        · subst hjk; exact hjun
        · rw [getD_set_ne true hjk] at hun; exact hun
      · rw [Array.setIfInBounds_comm _ _ hji]
        exact h3.2.2
/-- Number i first: a load under S, or what looks at no world. -/
theorem wpAnyT_take {i : Nat} {oi : Oper} {v : Value} {fuel : Nat} {listed : Array Bool} {a : Act} {w : World} (hi : ops[i]? = some oi)
    (hs : Region.noSelect ops = true) (hf : Region.free md ops listed i = true) (hr : (Region.ready md ops listed).contains i = true)
    (hQ : ∀ c a w, Q (.panic c) (a.put oi.dst v) w → Q (.panic c) a w) (hst : Stands md ops S S0 V i) (hcl : ClosedL md ops listed) (hy : YieldsIf P ops S0 oi v a) (hS : S0 w)
    (h : ClosedL md ops (listed.setIfInBounds i true) → wpAnyT P md ops Q S V fuel (listed.setIfInBounds i true) (a.put oi.dst v) w) : wpAnyT P md ops Q S V (fuel + 1) listed a w :=
  wpAnyT_first hi (Region.noSelect_spec hs) hQ hst fuel listed a w hcl (Region.free_spec hi hf) (by simpa using hr) hy hS (h (hcl.set (by simpa using hr)))
theorem wpAnyT_done {listed : Array Bool} {a : Act} {w : World} (hr : Region.ready md ops listed = []) (h : Q .normal a w) : ∀ fuel, wpAnyT P md ops Q S V fuel listed a w
  | 0 => ⟨hr, h⟩
  | _ + 1 => ⟨fun _ => h, by rw [hr]; simp⟩
/-- Those that may come up now, one after the other. -/
theorem wpAnyT_all {rs : List Nat} {fuel : Nat} {listed : Array Bool} {a : Act} {w : World} (hr : Region.ready md ops listed = rs) (hne : rs ≠ []) (hcl : ClosedL md ops listed)
    (h : ∀ i ∈ rs, ClosedL md ops (listed.setIfInBounds i true) → wpOp P ops Q i (fun a' w' => (V i = true → S w → S w') ∧ wpAnyT P md ops Q S V fuel (listed.setIfInBounds i true) a' w') a w) : wpAnyT P md ops Q S V (fuel + 1) listed a w :=
  ⟨fun h0 => absurd (hr ▸ h0) hne, fun i hi => h i (hr ▸ hi) (hcl.set hi)⟩
theorem op_of {i : Nat} {oi : Oper} {K : Act → World → Prop} {a : Act} {w : World} (hi : ops[i]? = some oi) (h : if Region.wanted oi (yielded ops a.tmps) = true then Oper.wp P oi a w K Q else K (a.put oi.dst undef) w) : wpOp P ops Q i K a w := by
  unfold wpOp
  simp only [hi]
  split
  · rename_i hw
    rw [if_pos hw] at h
    exact .inl h
  · rename_i hw
    rw [if_neg hw] at h
    exact h
theorem yields_build {a : Act} {o : Oper} {t : TypeId} {parts : Array (Nat × Operand)} {cells : Array Value} (ho : o.op = .build t parts) (hf : P.built t (parts.map fun (i, x) => (i, a.eval x)).toList = some cells) (w : World) : (execOp a.eval o).run P w = .ok (.value (.agg cells)) w := by
  unfold execOp
  simp only [ho, Sem.run_bind, run_build w t _ cells hf, Result.andThen_ok]
  rfl
theorem wp_region_T {id : Nat} {a : Act} {w : World} (hm : P.follows .mixedOrders = true) (h : ∀ w', w' = w.drew → wpAnyT P .any ops Q S V ops.size (Array.replicate ops.size false) a w') : (Code.region id ops true).wp P Q a w :=
  wp_region_any hm (wpAnyT_any _ _ _ _ (h _ rfl))
end
end Go.Proofs.YtbgilebgdbgddaaGreatDoor
