/- A contact line -/
import Derived.Test.YtbgilebgdbgddaaGreatDoorPsz
import Derived.Test.YtbgilebgdbgddaaGreatDoorDle
import Derived.Test.YtbgilebgdbgddaaGreatDoorGat
set_option linter.unusedVariables false
set_option linter.unusedSimpArgs false
namespace Go.Proofs.YtbgilebgdbgddaaGreatDoor
open Go.RowKit
/-- The bounds that the parser keeps. -/
structure PsOk (p : PS) : Prop where
  rungs : p.rungs.length ≤ 64
  con : ∀ r ∈ p.rungs, r.contacts.length ≤ 256
  coi : ∀ r ∈ p.rungs, r.coils.length ≤ 16
theorem TFr.skip {T : List TypeId} {B : Nat} {W w w' : World} {r : Option Nat} (h : TFr T B W w) (hg : w.grownBy w' r) (hr : ∀ g, r = some g → W.heap.size ≤ g) : TFr T B W w' :=
  ⟨hg.os.trans h.os, hg.tape.trans h.tape, hg.output.trans h.output, Nat.le_trans h.size hg.size, fun k hk ht => (hg.block k (Nat.lt_of_lt_of_le hk h.size) (fun e => by have := hr k e.symm; omega)).trans (h.block k hk ht)⟩
structure CurAt (Wk W0 W1 w : World) (Bp : Nat) (p : PS) (g c : Nat) (vl vj : Value) (cs : List Value) (r : Rung) (vc vo : Value) : Prop where
  bel : BelK Wk W0 w
  base : W0.heap.size ≤ Bp
  fr : TFr [275, 33, 3] W0.heap.size W1 w
  bel1 : Bel W0 W1
  isr : p.rungs[p.rungs.length - 1]? = some r
  blk : Blk w Bp #[.int .i64 p.i, .int .i64 p.q, .int .i64 p.m, .slice (some ⟨g, 0, none⟩) p.rungs.length c, .bool p.sized, vl, vj] 275
  row : w.ownsRow W0.heap.size 33 4 (.slice (some ⟨g, 0, none⟩) p.rungs.length c) p.rungs.length cs
  old : ∀ k r, k + 1 < p.rungs.length → p.rungs[k]? = some r → ∃ c4, RungO W0.heap.size W1 r c4 ∧ ∀ j u, c4[j]? = some u → cs[k * 4 + j]? = some u
  con : w.ownsRow W1.heap.size 108 5 vc r.contacts.length (r.contacts.flatMap contactC)
  coi : w.ownsRow W1.heap.size 131 3 vo r.coils.length (r.coils.flatMap coilC)
  cel : ∀ j u, ([.string r.label, vc, vo, .string r.jump] : List Value)[j]? = some u → cs[(p.rungs.length - 1) * 4 + j]? = some u
  lin : w.ownsRow W0.heap.size 3 1 vl p.lines.length (p.lines.flatMap intC)
  jmp : w.ownsRow W0.heap.size 3 1 vj p.jumps.length (p.jumps.flatMap intC)
  sep : ∀ g, vl.ownBlock = some g → vj.ownBlock ≠ some g
theorem PsAt.cur {Wk W0 W1 w : World} {Bp : Nat} {p : PS} (h : PsAt Wk W0 W1 w Bp p) (hn : 0 < p.rungs.length) : ∃ g c vl vj cs r vc vo, CurAt Wk W0 W1 w Bp p g c vl vj cs r vc vo := by
  obtain ⟨vr, vl, vj, cs, q, ho, h1, h2, hl, hj, hs⟩ := h.ex
  have hlt : p.rungs.length - 1 < p.rungs.length := by omega
  have hg := List.getElem?_eq_getElem hlt
  obtain ⟨c4, ⟨vc, vo, rfl, hc, hoo⟩, h4⟩ := h2 _ _ (by omega) hg
  rcases ho.2 with ⟨_, h0⟩ | ⟨g, cap, cur, rfl, r⟩
  · omega
  · exact ⟨g, cap, vl, vj, cs, _, vc, vo, h.bel, h.base, h.fr, h.bel1, hg, q, ho, h1, hc, hoo, h4, hl, hj, hs⟩
theorem CurAt.bel' {Wk W0 W1 w w' : World} {Bp : Nat} {p : PS} {g c : Nat} {vl vj : Value} {cs : List Value} {r : Rung} {vc vo : Value} (h : CurAt Wk W0 W1 w Bp p g c vl vj cs r vc vo) (hb : Bel w w') : CurAt Wk W0 W1 w' Bp p g c vl vj cs r vc vo :=
  ⟨h.bel.trans hb, h.base, h.fr.bel hb, h.bel1, h.isr, h.blk.bel hb, own_bel h.row hb, h.old, own_bel h.con hb, own_bel h.coi hb, h.cel, own_bel h.lin hb, own_bel h.jmp hb, h.sep⟩
/-- The current rung is replaced: its cells in the row, its rows. -/
theorem CurAt.back {Wk W0 W1 w : World} {Bp : Nat} {p : PS} {g c : Nat} {vl vj : Value} {cs : List Value} {r : Rung} {vc vo : Value} (h : CurAt Wk W0 W1 w Bp p g c vl vj cs r vc vo) : PsAt Wk W0 W1 w Bp p := by
  refine ⟨h.bel, h.base, h.fr, h.bel1, _, vl, vj, cs, h.blk, h.row, h.old, fun k r' hk hr => ?_, h.lin, h.jmp, h.sep⟩
  obtain rfl : k = p.rungs.length - 1 := by omega
  rw [h.isr] at hr
  injection hr with hr
  subst hr
  exact ⟨_, ⟨vc, vo, rfl, h.con, h.coi⟩, h.cel⟩
/-- A cell of the current rung. -/
theorem CurAt.cell {Wk W0 W1 w : World} {Bp : Nat} {p : PS} {g c : Nat} {vl vj : Value} {cs : List Value} {r : Rung} {vc vo : Value} (h : CurAt Wk W0 W1 w Bp p g c vl vj cs r vc vo) (j : Nat) {u : Value} (hu : ([.string r.label, vc, vo, .string r.jump] : List Value)[j]? = some u) :
    w.cell? ⟨g, (p.rungs.length - 1) * 4 + j, none⟩ = some u ∧ w.frozen? ⟨g, (p.rungs.length - 1) * 4 + j, none⟩ = false := own_cell h.row _ (h.cel j u hu)
/-- The contacts grew, and the row's cell is written. -/
theorem CurAt.contacts {Wk W0 W1 w w' : World} {Bp : Nat} {p : PS} {g c : Nat} {vl vj : Value} {cs : List Value} {r : Rung} {vc vo vc' : Value} {x : Contact} (h : CurAt Wk W0 W1 w Bp p g c vl vj cs r vc vo) (hn : 0 < p.rungs.length)
    (ho : w'.ownsRow W1.heap.size 108 5 vc' (r.contacts.length + 1) (r.contacts.flatMap contactC ++ contactC x)) (hg : w.grownBy w' vc.ownBlock) (hf : TFr [108] W1.heap.size w w') :
    PsAt Wk W0 W1 (w'.setCell ⟨g, (p.rungs.length - 1) * 4 + 1, none⟩ vc') Bp { p with rungs := p.rungs.set (p.rungs.length - 1) { r with contacts := r.contacts ++ [x] } } := by
  have hge := own_ge h.con
  have hskip := h.fr.skip hg (fun g' e => Nat.le_of_not_lt fun hlt => hge g' hlt e.symm)
  have hrow' := own_tfr h.row hf (by decide)
  have hgB : W0.heap.size ≤ g := by
    rcases h.row.2 with ⟨e, _⟩ | ⟨g', cap, cur, e, hb, _⟩
    · cases e
    · injection e with e1; injection e1 with e1; injection e1 with e1; omega
  obtain ⟨cur, hgq⟩ : ∃ cur, Blk w' g cur 33 := by
    rcases hrow'.2 with ⟨e, _⟩ | ⟨g', cap, cur, e, hb, hh, _⟩
    · cases e
    · injection e with e1; injection e1 with e1; injection e1 with e1; subst e1; exact ⟨cur, hh⟩
  have hS : TFr [33] W0.heap.size w' (w'.setCell ⟨g, (p.rungs.length - 1) * 4 + 1, none⟩ vc') := TFr.setC hgq (by simp) hgB _ _
  have hbel' : BelK Wk W0 w' := h.bel.tfr (hf.mono (show W0.heap.size ≤ W1.heap.size from h.bel1.size)) (by decide)
  have hlen : (p.rungs.set (p.rungs.length - 1) { r with contacts := r.contacts ++ [x] }).length = p.rungs.length := List.length_set
  refine ⟨hbel'.tfr hS (by decide), h.base, hskip.trans (hS.wider (by simp)), h.bel1, .slice (some ⟨g, 0, none⟩) p.rungs.length c, vl, vj, cs.set ((p.rungs.length - 1) * 4 + 1) vc', ?_, ?_, ?_, ?_, own_tfr (own_tfr h.lin hf (by decide)) hS (by decide), own_tfr (own_tfr h.jmp hf (by decide)) hS (by decide), h.sep⟩
  · exact hS.blk (hf.blk h.blk (.inr (by decide))) (.inr (by decide))
  · show World.ownsRow _ _ _ _ _ (List.length _) _
    rw [hlen]
    exact own_put hrow' _ _
  · intro k r' hk hr
    simp only [hlen] at hk
    rw [List.getElem?_set_ne (by omega)] at hr
    obtain ⟨c4, h1, h2⟩ := h.old k r' hk hr
    refine ⟨c4, h1, fun j u hu => ?_⟩
    have hj := (List.getElem?_eq_some_iff.1 hu).1
    have := h1.len
    rw [List.getElem?_set_ne (by omega)]
    exact h2 j u hu
  · intro k r' hk hr
    simp only [hlen] at hk
    obtain rfl : k = p.rungs.length - 1 := by omega
    rw [List.getElem?_set_self (by omega)] at hr
    injection hr with hr
    subst hr
    have hcl : cs.length = p.rungs.length * 4 := h.row.1
    refine ⟨[.string r.label, vc', vo, .string r.jump], ⟨vc', vo, rfl, ?_, own_tfr (own_tfr h.coi hf (by decide)) hS (by decide)⟩, fun j u hu => ?_⟩
    · have := own_tfr ho hS (by decide)
      simpa [List.flatMap_append] using this
    · have hj := (List.getElem?_eq_some_iff.1 hu).1
      simp only [List.length_cons, List.length_nil] at hj
      rcases (show j = 0 ∨ j = 1 ∨ j = 2 ∨ j = 3 by omega) with rfl | rfl | rfl | rfl
      · rw [List.getElem?_set_ne (by omega)]; exact h.cel 0 _ hu
      · rw [List.getElem?_set_self (by omega)]; exact hu
      · rw [List.getElem?_set_ne (by omega)]; exact h.cel 2 _ hu
      · rw [List.getElem?_set_ne (by omega)]; exact h.cel 3 _ hu
/-- The coils grew. -/
theorem CurAt.coils {Wk W0 W1 w w' : World} {Bp : Nat} {p : PS} {g c : Nat} {vl vj : Value} {cs : List Value} {r : Rung} {vc vo vo' : Value} {x : Coil} (h : CurAt Wk W0 W1 w Bp p g c vl vj cs r vc vo) (hn : 0 < p.rungs.length)
    (ho : w'.ownsRow W1.heap.size 131 3 vo' (r.coils.length + 1) (r.coils.flatMap coilC ++ coilC x)) (hg : w.grownBy w' vo.ownBlock) (hf : TFr [131] W1.heap.size w w') :
    PsAt Wk W0 W1 (w'.setCell ⟨g, (p.rungs.length - 1) * 4 + 2, none⟩ vo') Bp { p with rungs := p.rungs.set (p.rungs.length - 1) { r with coils := r.coils ++ [x] } } := by
  have hge := own_ge h.coi
  have hskip := h.fr.skip hg (fun g' e => Nat.le_of_not_lt fun hlt => hge g' hlt e.symm)
  have hrow' := own_tfr h.row hf (by decide)
  have hgB : W0.heap.size ≤ g := by
    rcases h.row.2 with ⟨e, _⟩ | ⟨g', cap, cur, e, hb, _⟩
    · cases e
    · injection e with e1; injection e1 with e1; injection e1 with e1; omega
  obtain ⟨cur, hgq⟩ : ∃ cur, Blk w' g cur 33 := by
    rcases hrow'.2 with ⟨e, _⟩ | ⟨g', cap, cur, e, hb, hh, _⟩
    · cases e
    · injection e with e1; injection e1 with e1; injection e1 with e1; subst e1; exact ⟨cur, hh⟩
  have hS : TFr [33] W0.heap.size w' (w'.setCell ⟨g, (p.rungs.length - 1) * 4 + 2, none⟩ vo') := TFr.setC hgq (by simp) hgB _ _
  have hbel' : BelK Wk W0 w' := h.bel.tfr (hf.mono (show W0.heap.size ≤ W1.heap.size from h.bel1.size)) (by decide)
  have hlen : (p.rungs.set (p.rungs.length - 1) { r with coils := r.coils ++ [x] }).length = p.rungs.length := List.length_set
  refine ⟨hbel'.tfr hS (by decide), h.base, hskip.trans (hS.wider (by simp)), h.bel1, .slice (some ⟨g, 0, none⟩) p.rungs.length c, vl, vj, cs.set ((p.rungs.length - 1) * 4 + 2) vo', ?_, ?_, ?_, ?_, own_tfr (own_tfr h.lin hf (by decide)) hS (by decide), own_tfr (own_tfr h.jmp hf (by decide)) hS (by decide), h.sep⟩
  · exact hS.blk (hf.blk h.blk (.inr (by decide))) (.inr (by decide))
  · show World.ownsRow _ _ _ _ _ (List.length _) _
    rw [hlen]
    exact own_put hrow' _ _
  · intro k r' hk hr
    simp only [hlen] at hk
    rw [List.getElem?_set_ne (by omega)] at hr
    obtain ⟨c4, h1, h2⟩ := h.old k r' hk hr
    refine ⟨c4, h1, fun j u hu => ?_⟩
    have hj := (List.getElem?_eq_some_iff.1 hu).1
    have := h1.len
    rw [List.getElem?_set_ne (by omega)]
    exact h2 j u hu
  · intro k r' hk hr
    simp only [hlen] at hk
    obtain rfl : k = p.rungs.length - 1 := by omega
    rw [List.getElem?_set_self (by omega)] at hr
    injection hr with hr
    subst hr
    have hcl : cs.length = p.rungs.length * 4 := h.row.1
    refine ⟨[.string r.label, vc, vo', .string r.jump], ⟨vc, vo', rfl, own_tfr (own_tfr h.con hf (by decide)) hS (by decide), ?_⟩, fun j u hu => ?_⟩
    · have := own_tfr ho hS (by decide)
      simpa [List.flatMap_append] using this
    · have hj := (List.getElem?_eq_some_iff.1 hu).1
      simp only [List.length_cons, List.length_nil] at hj
      rcases (show j = 0 ∨ j = 1 ∨ j = 2 ∨ j = 3 by omega) with rfl | rfl | rfl | rfl
      · rw [List.getElem?_set_ne (by omega)]; exact h.cel 0 _ hu
      · rw [List.getElem?_set_ne (by omega)]; exact h.cel 1 _ hu
      · rw [List.getElem?_set_self (by omega)]; exact hu
      · rw [List.getElem?_set_ne (by omega)]; exact h.cel 3 _ hu
end Go.Proofs.YtbgilebgdbgddaaGreatDoor
