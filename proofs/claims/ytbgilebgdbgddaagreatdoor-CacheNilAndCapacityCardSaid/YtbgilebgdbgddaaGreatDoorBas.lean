/- Base words: how Go's data lie in memory, as relations that stand while old blocks stand. No condition. -/
import Derived.Test.YtbgilebgdbgddaaGreatDoorProg
import Derived.WalkKit
import Derived.WalkSpells
import Derived.WalkLawsBesides
import Derived.Deep.QuietTactic
import Derived.BigQuiet
import Derived.Deep.DeepFit
import Derived.Deep.LoopGhost
import Derived.Deep.RegionWith
import Derived.Deep.RegionHeld3
import Derived.StillTailTactics
import Derived.Lib.Hide
import Derived.Deep.AppendLies
import Derived.Maps.AppendAt
import Derived.Deep.RegionLaw
import Derived.OwnWalk
set_option linter.unusedVariables false
set_option linter.unusedSimpArgs false
namespace Go.Proofs.YtbgilebgdbgddaaGreatDoor
open Go.RowKit

/-- Everything that was there stands; new blocks and draws alone. -/
abbrev Bel (w w' : World) : Prop := Below w.heap.size w w'
theorem Bel.refl (w : World) : Bel w w := Below.refl _ _
theorem Bel.trans {a b c : World} (h : Bel a b) (k : Bel b c) : Bel a c := Below.trans h (k.mono h.size)
theorem Bel.alloc {a b : World} (h : Bel a b) (o : Obj) : Bel a (b.alloc o) := Below.alloc h h.size o
theorem Bel.drew {a b : World} (h : Bel a b) : Bel a b.drew := Below.drew h
theorem Bel.drewN {a b : World} (h : Bel a b) (n : Nat) : Bel a (b.drewN n) := ⟨h.os, h.tape, h.output, h.size, h.block⟩
theorem Bel.setCell {a b : World} (h : Bel a b) {p : Addr} (hp : a.heap.size ≤ p.block) (u : Value) : Bel a (b.setCell p u) := Below.setCell h hp u
theorem lt_cell {w : World} {a : Addr} {v : Value} (h : w.cell? a = some v) : a.block < w.heap.size := World.block_lt_of_cell? w a h
theorem Bel.cell {w w' : World} (h : Bel w w') {a : Addr} {v : Value} (hc : w.cell? a = some v) : w'.cell? a = some v := (Below.cell h (lt_cell hc)).trans hc
theorem Bel.lt {w w' : World} (h : Bel w w') {b : Nat} (hb : b < w.heap.size) : b < w'.heap.size := Nat.lt_of_lt_of_le hb h.size

/-! What a region that draws its order keeps: cells that were there, and the frame. -/
theorem keep1 {w wx w1 : World} {a1 : Addr} {v1 : Value} (h : (wx.cell? a1 = some v1) ∧ Bel w wx) (hb : Bel wx w1) : (w1.cell? a1 = some v1) ∧ Bel w w1 :=
  let ⟨h1, h0⟩ := h; ⟨hb.cell h1, h0.trans hb⟩
theorem keep2 {w wx w1 : World} {a1 a2 : Addr} {v1 v2 : Value} (h : (wx.cell? a1 = some v1 ∧ wx.cell? a2 = some v2) ∧ Bel w wx) (hb : Bel wx w1) : (w1.cell? a1 = some v1 ∧ w1.cell? a2 = some v2) ∧ Bel w w1 :=
  let ⟨⟨h1, h2⟩, h0⟩ := h; ⟨⟨hb.cell h1, hb.cell h2⟩, h0.trans hb⟩
theorem keep3 {w wx w1 : World} {a1 a2 a3 : Addr} {v1 v2 v3 : Value} (h : (wx.cell? a1 = some v1 ∧ wx.cell? a2 = some v2 ∧ wx.cell? a3 = some v3) ∧ Bel w wx) (hb : Bel wx w1) : (w1.cell? a1 = some v1 ∧ w1.cell? a2 = some v2 ∧ w1.cell? a3 = some v3) ∧ Bel w w1 :=
  let ⟨⟨h1, h2, h3⟩, h0⟩ := h; ⟨⟨hb.cell h1, hb.cell h2, hb.cell h3⟩, h0.trans hb⟩
theorem keep4 {w wx w1 : World} {a1 a2 a3 a4 : Addr} {v1 v2 v3 v4 : Value} (h : (wx.cell? a1 = some v1 ∧ wx.cell? a2 = some v2 ∧ wx.cell? a3 = some v3 ∧ wx.cell? a4 = some v4) ∧ Bel w wx) (hb : Bel wx w1) : (w1.cell? a1 = some v1 ∧ w1.cell? a2 = some v2 ∧ w1.cell? a3 = some v3 ∧ w1.cell? a4 = some v4) ∧ Bel w w1 :=
  let ⟨⟨h1, h2, h3, h4⟩, h0⟩ := h; ⟨⟨hb.cell h1, hb.cell h2, hb.cell h3, hb.cell h4⟩, h0.trans hb⟩
theorem keep5 {w wx w1 : World} {a1 a2 a3 a4 a5 : Addr} {v1 v2 v3 v4 v5 : Value} (h : (wx.cell? a1 = some v1 ∧ wx.cell? a2 = some v2 ∧ wx.cell? a3 = some v3 ∧ wx.cell? a4 = some v4 ∧ wx.cell? a5 = some v5) ∧ Bel w wx) (hb : Bel wx w1) : (w1.cell? a1 = some v1 ∧ w1.cell? a2 = some v2 ∧ w1.cell? a3 = some v3 ∧ w1.cell? a4 = some v4 ∧ w1.cell? a5 = some v5) ∧ Bel w w1 :=
  let ⟨⟨h1, h2, h3, h4, h5⟩, h0⟩ := h; ⟨⟨hb.cell h1, hb.cell h2, hb.cell h3, hb.cell h4, hb.cell h5⟩, h0.trans hb⟩
theorem keep6 {w wx w1 : World} {a1 a2 a3 a4 a5 a6 : Addr} {v1 v2 v3 v4 v5 v6 : Value} (h : (wx.cell? a1 = some v1 ∧ wx.cell? a2 = some v2 ∧ wx.cell? a3 = some v3 ∧ wx.cell? a4 = some v4 ∧ wx.cell? a5 = some v5 ∧ wx.cell? a6 = some v6) ∧ Bel w wx) (hb : Bel wx w1) : (w1.cell? a1 = some v1 ∧ w1.cell? a2 = some v2 ∧ w1.cell? a3 = some v3 ∧ w1.cell? a4 = some v4 ∧ w1.cell? a5 = some v5 ∧ w1.cell? a6 = some v6) ∧ Bel w w1 :=
  let ⟨⟨h1, h2, h3, h4, h5, h6⟩, h0⟩ := h; ⟨⟨hb.cell h1, hb.cell h2, hb.cell h3, hb.cell h4, hb.cell h5, hb.cell h6⟩, h0.trans hb⟩
theorem keep7 {w wx w1 : World} {a1 a2 a3 a4 a5 a6 a7 : Addr} {v1 v2 v3 v4 v5 v6 v7 : Value} (h : (wx.cell? a1 = some v1 ∧ wx.cell? a2 = some v2 ∧ wx.cell? a3 = some v3 ∧ wx.cell? a4 = some v4 ∧ wx.cell? a5 = some v5 ∧ wx.cell? a6 = some v6 ∧ wx.cell? a7 = some v7) ∧ Bel w wx) (hb : Bel wx w1) : (w1.cell? a1 = some v1 ∧ w1.cell? a2 = some v2 ∧ w1.cell? a3 = some v3 ∧ w1.cell? a4 = some v4 ∧ w1.cell? a5 = some v5 ∧ w1.cell? a6 = some v6 ∧ w1.cell? a7 = some v7) ∧ Bel w w1 :=
  let ⟨⟨h1, h2, h3, h4, h5, h6, h7⟩, h0⟩ := h; ⟨⟨hb.cell h1, hb.cell h2, hb.cell h3, hb.cell h4, hb.cell h5, hb.cell h6, hb.cell h7⟩, h0.trans hb⟩
theorem keep8 {w wx w1 : World} {a1 a2 a3 a4 a5 a6 a7 a8 : Addr} {v1 v2 v3 v4 v5 v6 v7 v8 : Value} (h : (wx.cell? a1 = some v1 ∧ wx.cell? a2 = some v2 ∧ wx.cell? a3 = some v3 ∧ wx.cell? a4 = some v4 ∧ wx.cell? a5 = some v5 ∧ wx.cell? a6 = some v6 ∧ wx.cell? a7 = some v7 ∧ wx.cell? a8 = some v8) ∧ Bel w wx) (hb : Bel wx w1) : (w1.cell? a1 = some v1 ∧ w1.cell? a2 = some v2 ∧ w1.cell? a3 = some v3 ∧ w1.cell? a4 = some v4 ∧ w1.cell? a5 = some v5 ∧ w1.cell? a6 = some v6 ∧ w1.cell? a7 = some v7 ∧ w1.cell? a8 = some v8) ∧ Bel w w1 :=
  let ⟨⟨h1, h2, h3, h4, h5, h6, h7, h8⟩, h0⟩ := h; ⟨⟨hb.cell h1, hb.cell h2, hb.cell h3, hb.cell h4, hb.cell h5, hb.cell h6, hb.cell h7, hb.cell h8⟩, h0.trans hb⟩
theorem keep9 {w wx w1 : World} {a1 a2 a3 a4 a5 a6 a7 a8 a9 : Addr} {v1 v2 v3 v4 v5 v6 v7 v8 v9 : Value} (h : (wx.cell? a1 = some v1 ∧ wx.cell? a2 = some v2 ∧ wx.cell? a3 = some v3 ∧ wx.cell? a4 = some v4 ∧ wx.cell? a5 = some v5 ∧ wx.cell? a6 = some v6 ∧ wx.cell? a7 = some v7 ∧ wx.cell? a8 = some v8 ∧ wx.cell? a9 = some v9) ∧ Bel w wx) (hb : Bel wx w1) : (w1.cell? a1 = some v1 ∧ w1.cell? a2 = some v2 ∧ w1.cell? a3 = some v3 ∧ w1.cell? a4 = some v4 ∧ w1.cell? a5 = some v5 ∧ w1.cell? a6 = some v6 ∧ w1.cell? a7 = some v7 ∧ w1.cell? a8 = some v8 ∧ w1.cell? a9 = some v9) ∧ Bel w w1 :=
  let ⟨⟨h1, h2, h3, h4, h5, h6, h7, h8, h9⟩, h0⟩ := h; ⟨⟨hb.cell h1, hb.cell h2, hb.cell h3, hb.cell h4, hb.cell h5, hb.cell h6, hb.cell h7, hb.cell h8, hb.cell h9⟩, h0.trans hb⟩
theorem keep10 {w wx w1 : World} {a1 a2 a3 a4 a5 a6 a7 a8 a9 a10 : Addr} {v1 v2 v3 v4 v5 v6 v7 v8 v9 v10 : Value} (h : (wx.cell? a1 = some v1 ∧ wx.cell? a2 = some v2 ∧ wx.cell? a3 = some v3 ∧ wx.cell? a4 = some v4 ∧ wx.cell? a5 = some v5 ∧ wx.cell? a6 = some v6 ∧ wx.cell? a7 = some v7 ∧ wx.cell? a8 = some v8 ∧ wx.cell? a9 = some v9 ∧ wx.cell? a10 = some v10) ∧ Bel w wx) (hb : Bel wx w1) : (w1.cell? a1 = some v1 ∧ w1.cell? a2 = some v2 ∧ w1.cell? a3 = some v3 ∧ w1.cell? a4 = some v4 ∧ w1.cell? a5 = some v5 ∧ w1.cell? a6 = some v6 ∧ w1.cell? a7 = some v7 ∧ w1.cell? a8 = some v8 ∧ w1.cell? a9 = some v9 ∧ w1.cell? a10 = some v10) ∧ Bel w w1 :=
  let ⟨⟨h1, h2, h3, h4, h5, h6, h7, h8, h9, h10⟩, h0⟩ := h; ⟨⟨hb.cell h1, hb.cell h2, hb.cell h3, hb.cell h4, hb.cell h5, hb.cell h6, hb.cell h7, hb.cell h8, hb.cell h9, hb.cell h10⟩, h0.trans hb⟩
theorem keep11 {w wx w1 : World} {a1 a2 a3 a4 a5 a6 a7 a8 a9 a10 a11 : Addr} {v1 v2 v3 v4 v5 v6 v7 v8 v9 v10 v11 : Value} (h : (wx.cell? a1 = some v1 ∧ wx.cell? a2 = some v2 ∧ wx.cell? a3 = some v3 ∧ wx.cell? a4 = some v4 ∧ wx.cell? a5 = some v5 ∧ wx.cell? a6 = some v6 ∧ wx.cell? a7 = some v7 ∧ wx.cell? a8 = some v8 ∧ wx.cell? a9 = some v9 ∧ wx.cell? a10 = some v10 ∧ wx.cell? a11 = some v11) ∧ Bel w wx) (hb : Bel wx w1) : (w1.cell? a1 = some v1 ∧ w1.cell? a2 = some v2 ∧ w1.cell? a3 = some v3 ∧ w1.cell? a4 = some v4 ∧ w1.cell? a5 = some v5 ∧ w1.cell? a6 = some v6 ∧ w1.cell? a7 = some v7 ∧ w1.cell? a8 = some v8 ∧ w1.cell? a9 = some v9 ∧ w1.cell? a10 = some v10 ∧ w1.cell? a11 = some v11) ∧ Bel w w1 :=
  let ⟨⟨h1, h2, h3, h4, h5, h6, h7, h8, h9, h10, h11⟩, h0⟩ := h; ⟨⟨hb.cell h1, hb.cell h2, hb.cell h3, hb.cell h4, hb.cell h5, hb.cell h6, hb.cell h7, hb.cell h8, hb.cell h9, hb.cell h10, hb.cell h11⟩, h0.trans hb⟩
theorem keep12 {w wx w1 : World} {a1 a2 a3 a4 a5 a6 a7 a8 a9 a10 a11 a12 : Addr} {v1 v2 v3 v4 v5 v6 v7 v8 v9 v10 v11 v12 : Value} (h : (wx.cell? a1 = some v1 ∧ wx.cell? a2 = some v2 ∧ wx.cell? a3 = some v3 ∧ wx.cell? a4 = some v4 ∧ wx.cell? a5 = some v5 ∧ wx.cell? a6 = some v6 ∧ wx.cell? a7 = some v7 ∧ wx.cell? a8 = some v8 ∧ wx.cell? a9 = some v9 ∧ wx.cell? a10 = some v10 ∧ wx.cell? a11 = some v11 ∧ wx.cell? a12 = some v12) ∧ Bel w wx) (hb : Bel wx w1) : (w1.cell? a1 = some v1 ∧ w1.cell? a2 = some v2 ∧ w1.cell? a3 = some v3 ∧ w1.cell? a4 = some v4 ∧ w1.cell? a5 = some v5 ∧ w1.cell? a6 = some v6 ∧ w1.cell? a7 = some v7 ∧ w1.cell? a8 = some v8 ∧ w1.cell? a9 = some v9 ∧ w1.cell? a10 = some v10 ∧ w1.cell? a11 = some v11 ∧ w1.cell? a12 = some v12) ∧ Bel w w1 :=
  let ⟨⟨h1, h2, h3, h4, h5, h6, h7, h8, h9, h10, h11, h12⟩, h0⟩ := h; ⟨⟨hb.cell h1, hb.cell h2, hb.cell h3, hb.cell h4, hb.cell h5, hb.cell h6, hb.cell h7, hb.cell h8, hb.cell h9, hb.cell h10, hb.cell h11, hb.cell h12⟩, h0.trans hb⟩
theorem keep13 {w wx w1 : World} {a1 a2 a3 a4 a5 a6 a7 a8 a9 a10 a11 a12 a13 : Addr} {v1 v2 v3 v4 v5 v6 v7 v8 v9 v10 v11 v12 v13 : Value} (h : (wx.cell? a1 = some v1 ∧ wx.cell? a2 = some v2 ∧ wx.cell? a3 = some v3 ∧ wx.cell? a4 = some v4 ∧ wx.cell? a5 = some v5 ∧ wx.cell? a6 = some v6 ∧ wx.cell? a7 = some v7 ∧ wx.cell? a8 = some v8 ∧ wx.cell? a9 = some v9 ∧ wx.cell? a10 = some v10 ∧ wx.cell? a11 = some v11 ∧ wx.cell? a12 = some v12 ∧ wx.cell? a13 = some v13) ∧ Bel w wx) (hb : Bel wx w1) : (w1.cell? a1 = some v1 ∧ w1.cell? a2 = some v2 ∧ w1.cell? a3 = some v3 ∧ w1.cell? a4 = some v4 ∧ w1.cell? a5 = some v5 ∧ w1.cell? a6 = some v6 ∧ w1.cell? a7 = some v7 ∧ w1.cell? a8 = some v8 ∧ w1.cell? a9 = some v9 ∧ w1.cell? a10 = some v10 ∧ w1.cell? a11 = some v11 ∧ w1.cell? a12 = some v12 ∧ w1.cell? a13 = some v13) ∧ Bel w w1 :=
  let ⟨⟨h1, h2, h3, h4, h5, h6, h7, h8, h9, h10, h11, h12, h13⟩, h0⟩ := h; ⟨⟨hb.cell h1, hb.cell h2, hb.cell h3, hb.cell h4, hb.cell h5, hb.cell h6, hb.cell h7, hb.cell h8, hb.cell h9, hb.cell h10, hb.cell h11, hb.cell h12, hb.cell h13⟩, h0.trans hb⟩
theorem keep14 {w wx w1 : World} {a1 a2 a3 a4 a5 a6 a7 a8 a9 a10 a11 a12 a13 a14 : Addr} {v1 v2 v3 v4 v5 v6 v7 v8 v9 v10 v11 v12 v13 v14 : Value} (h : (wx.cell? a1 = some v1 ∧ wx.cell? a2 = some v2 ∧ wx.cell? a3 = some v3 ∧ wx.cell? a4 = some v4 ∧ wx.cell? a5 = some v5 ∧ wx.cell? a6 = some v6 ∧ wx.cell? a7 = some v7 ∧ wx.cell? a8 = some v8 ∧ wx.cell? a9 = some v9 ∧ wx.cell? a10 = some v10 ∧ wx.cell? a11 = some v11 ∧ wx.cell? a12 = some v12 ∧ wx.cell? a13 = some v13 ∧ wx.cell? a14 = some v14) ∧ Bel w wx) (hb : Bel wx w1) : (w1.cell? a1 = some v1 ∧ w1.cell? a2 = some v2 ∧ w1.cell? a3 = some v3 ∧ w1.cell? a4 = some v4 ∧ w1.cell? a5 = some v5 ∧ w1.cell? a6 = some v6 ∧ w1.cell? a7 = some v7 ∧ w1.cell? a8 = some v8 ∧ w1.cell? a9 = some v9 ∧ w1.cell? a10 = some v10 ∧ w1.cell? a11 = some v11 ∧ w1.cell? a12 = some v12 ∧ w1.cell? a13 = some v13 ∧ w1.cell? a14 = some v14) ∧ Bel w w1 :=
  let ⟨⟨h1, h2, h3, h4, h5, h6, h7, h8, h9, h10, h11, h12, h13, h14⟩, h0⟩ := h; ⟨⟨hb.cell h1, hb.cell h2, hb.cell h3, hb.cell h4, hb.cell h5, hb.cell h6, hb.cell h7, hb.cell h8, hb.cell h9, hb.cell h10, hb.cell h11, hb.cell h12, hb.cell h13, hb.cell h14⟩, h0.trans hb⟩
theorem keep15 {w wx w1 : World} {a1 a2 a3 a4 a5 a6 a7 a8 a9 a10 a11 a12 a13 a14 a15 : Addr} {v1 v2 v3 v4 v5 v6 v7 v8 v9 v10 v11 v12 v13 v14 v15 : Value} (h : (wx.cell? a1 = some v1 ∧ wx.cell? a2 = some v2 ∧ wx.cell? a3 = some v3 ∧ wx.cell? a4 = some v4 ∧ wx.cell? a5 = some v5 ∧ wx.cell? a6 = some v6 ∧ wx.cell? a7 = some v7 ∧ wx.cell? a8 = some v8 ∧ wx.cell? a9 = some v9 ∧ wx.cell? a10 = some v10 ∧ wx.cell? a11 = some v11 ∧ wx.cell? a12 = some v12 ∧ wx.cell? a13 = some v13 ∧ wx.cell? a14 = some v14 ∧ wx.cell? a15 = some v15) ∧ Bel w wx) (hb : Bel wx w1) : (w1.cell? a1 = some v1 ∧ w1.cell? a2 = some v2 ∧ w1.cell? a3 = some v3 ∧ w1.cell? a4 = some v4 ∧ w1.cell? a5 = some v5 ∧ w1.cell? a6 = some v6 ∧ w1.cell? a7 = some v7 ∧ w1.cell? a8 = some v8 ∧ w1.cell? a9 = some v9 ∧ w1.cell? a10 = some v10 ∧ w1.cell? a11 = some v11 ∧ w1.cell? a12 = some v12 ∧ w1.cell? a13 = some v13 ∧ w1.cell? a14 = some v14 ∧ w1.cell? a15 = some v15) ∧ Bel w w1 :=
  let ⟨⟨h1, h2, h3, h4, h5, h6, h7, h8, h9, h10, h11, h12, h13, h14, h15⟩, h0⟩ := h; ⟨⟨hb.cell h1, hb.cell h2, hb.cell h3, hb.cell h4, hb.cell h5, hb.cell h6, hb.cell h7, hb.cell h8, hb.cell h9, hb.cell h10, hb.cell h11, hb.cell h12, hb.cell h13, hb.cell h14, hb.cell h15⟩, h0.trans hb⟩
theorem keep16 {w wx w1 : World} {a1 a2 a3 a4 a5 a6 a7 a8 a9 a10 a11 a12 a13 a14 a15 a16 : Addr} {v1 v2 v3 v4 v5 v6 v7 v8 v9 v10 v11 v12 v13 v14 v15 v16 : Value} (h : (wx.cell? a1 = some v1 ∧ wx.cell? a2 = some v2 ∧ wx.cell? a3 = some v3 ∧ wx.cell? a4 = some v4 ∧ wx.cell? a5 = some v5 ∧ wx.cell? a6 = some v6 ∧ wx.cell? a7 = some v7 ∧ wx.cell? a8 = some v8 ∧ wx.cell? a9 = some v9 ∧ wx.cell? a10 = some v10 ∧ wx.cell? a11 = some v11 ∧ wx.cell? a12 = some v12 ∧ wx.cell? a13 = some v13 ∧ wx.cell? a14 = some v14 ∧ wx.cell? a15 = some v15 ∧ wx.cell? a16 = some v16) ∧ Bel w wx) (hb : Bel wx w1) : (w1.cell? a1 = some v1 ∧ w1.cell? a2 = some v2 ∧ w1.cell? a3 = some v3 ∧ w1.cell? a4 = some v4 ∧ w1.cell? a5 = some v5 ∧ w1.cell? a6 = some v6 ∧ w1.cell? a7 = some v7 ∧ w1.cell? a8 = some v8 ∧ w1.cell? a9 = some v9 ∧ w1.cell? a10 = some v10 ∧ w1.cell? a11 = some v11 ∧ w1.cell? a12 = some v12 ∧ w1.cell? a13 = some v13 ∧ w1.cell? a14 = some v14 ∧ w1.cell? a15 = some v15 ∧ w1.cell? a16 = some v16) ∧ Bel w w1 :=
  let ⟨⟨h1, h2, h3, h4, h5, h6, h7, h8, h9, h10, h11, h12, h13, h14, h15, h16⟩, h0⟩ := h; ⟨⟨hb.cell h1, hb.cell h2, hb.cell h3, hb.cell h4, hb.cell h5, hb.cell h6, hb.cell h7, hb.cell h8, hb.cell h9, hb.cell h10, hb.cell h11, hb.cell h12, hb.cell h13, hb.cell h14, hb.cell h15, hb.cell h16⟩, h0.trans hb⟩

/-- A block of cells that is known whole. -/
def Blk (w : World) (n : Nat) (cs : Array Value) (t : TypeId) : Prop := w.heap[n]? = some (.cells cs t (0, 0))
theorem Blk.new (w : World) (cs : Array Value) (t : TypeId) : Blk (w.alloc (.cells cs t (0, 0))) w.heap.size cs t := by
  show (w.heap.push _)[w.heap.size]? = _
  simp
theorem Blk.new1 (w : World) (o : Obj) (cs : Array Value) (t : TypeId) : Blk ((w.alloc o).alloc (.cells cs t (0, 0))) (w.heap.size + 1) cs t := by
  have := Blk.new (w.alloc o) cs t
  rwa [World.size_alloc] at this
theorem Blk.new2 (w : World) (o o1 : Obj) (cs : Array Value) (t : TypeId) : Blk (((w.alloc o).alloc o1).alloc (.cells cs t (0, 0))) (w.heap.size + 2) cs t := by
  have := Blk.new1 (w.alloc o) o1 cs t
  rwa [World.size_alloc] at this
theorem Blk.lt {w : World} {n : Nat} {cs : Array Value} {t : TypeId} (h : Blk w n cs t) : n < w.heap.size := (Array.getElem?_eq_some_iff.1 h).1
theorem Blk.bel {w w' : World} {n : Nat} {cs : Array Value} {t : TypeId} (h : Blk w n cs t) (hb : Bel w w') : Blk w' n cs t := (hb.block n h.lt).trans h
theorem Blk.cell {w : World} {n : Nat} {cs : Array Value} {t : TypeId} (h : Blk w n cs t) (i : Nat) {v : Value} (hv : cs[i]? = some v) : w.cell? ⟨n, i, none⟩ = some v := by
  unfold World.cell?
  rw [show w.heap[n]? = _ from h]
  exact hv
theorem Blk.frozen {w : World} {n : Nat} {cs : Array Value} {t : TypeId} (h : Blk w n cs t) (i : Nat) : w.frozen? ⟨n, i, none⟩ = false := by
  unfold World.frozen?
  rw [show w.heap[n]? = _ from h]
  simp
theorem Blk.drewN {w : World} {n : Nat} {cs : Array Value} {t : TypeId} (h : Blk w n cs t) (k : Nat) : Blk (w.drewN k) n cs t := h.bel ((Bel.refl w).drewN k)
theorem Blk.alloc {w : World} {n : Nat} {cs : Array Value} {t : TypeId} (h : Blk w n cs t) (o : Obj) : Blk (w.alloc o) n cs t := h.bel ((Bel.refl w).alloc o)
theorem Blk.set {w : World} {n : Nat} {cs : Array Value} {t : TypeId} (h : Blk w n cs t) (i : Nat) (v : Value) : Blk (w.setCell ⟨n, i, none⟩ v) n (cs.setIfInBounds i v) t := by
  unfold Blk World.setCell
  simp only [Array.getElem?_modify]
  rw [show w.heap[n]? = _ from h]
  simp
theorem Blk.set_other {w : World} {n : Nat} {cs : Array Value} {t : TypeId} (h : Blk w n cs t) {a : Addr} (ha : a.block ≠ n) (v : Value) : Blk (w.setCell a v) n cs t := by
  unfold Blk World.setCell
  simp only [Array.getElem?_modify]
  rw [if_neg ha]
  exact h

/-- How a datum lies in cells: a relation that may look at memory. -/
abbrev Enc (α : Type) := World → α → List Value → Prop
def Flat {α : Type} (f : α → List Value) : Enc α := fun _ x cs => cs = f x
/-- The relation stands as long as old blocks stand. -/
def Enc.Mono {α : Type} (E : Enc α) : Prop := ∀ w w' x cs, E w x cs → Bel w w' → E w' x cs
theorem Flat.mono {α : Type} (f : α → List Value) : (Flat f).Mono := fun _ _ _ _ h _ => h

/-- A slice value reads as a list. -/
structure SlAt {α : Type} (E : Enc α) (sz : Nat) (w : World) (v : Value) (xs : List α) : Prop where
  ex : ∃ a cap, v = .slice a xs.length cap ∧ xs.length ≤ cap ∧ cap ≤ 9223372036854775807 ∧ ∀ i x, xs[i]? = some x → ∃ b off cs, a = some ⟨b, off, none⟩ ∧ E w x cs ∧ cs.length = sz ∧ ∀ j u, cs[j]? = some u → w.cell? ⟨b, off + i * sz + j, none⟩ = some u

theorem SlAt.bel {α : Type} {E : Enc α} {sz : Nat} {w w' : World} {v : Value} {xs : List α} (h : SlAt E sz w v xs) (hE : E.Mono) (hb : Bel w w') : SlAt E sz w' v xs := by
  obtain ⟨a, cap, hv, hl, hc, hx⟩ := h.ex
  refine ⟨a, cap, hv, hl, hc, fun i x hi => ?_⟩
  obtain ⟨b, off, cs, ha, he, hsz, hcs⟩ := hx i x hi
  exact ⟨b, off, cs, ha, hE _ _ _ _ he hb, hsz, fun j u hu => hb.cell (hcs j u hu)⟩
theorem SlAt.nil {α : Type} (E : Enc α) (sz : Nat) (w : World) : SlAt E sz w (.slice none 0 0) [] := ⟨none, 0, rfl, by simp, by simp, fun i x h => by simp at h⟩

/-- A slice of one-cell values. -/
abbrev OneE {α : Type} (f : α → Value) : Enc α := Flat fun x => [f x]

structure Addr' where
  space : Int
  n : Int
  deriving DecidableEq, Repr
structure Contact where
  kind : Int
  space : Int
  n : Int
  from_ : ByteArray
  to_ : ByteArray
  deriving DecidableEq
structure Coil where
  kind : Int
  space : Int
  n : Int
  deriving DecidableEq, Repr
structure Rung where
  label : ByteArray
  contacts : List Contact
  coils : List Coil
  jump : ByteArray
  deriving DecidableEq
structure Ladder where
  i : Int
  q : Int
  m : Int
  rungs : List Rung
  deriving DecidableEq
structure Line where
  n : Int
  words : List ByteArray
  deriving DecidableEq
structure Ins where
  op : Int
  space : Int
  na : Int
  n : Int
  deriving DecidableEq, Repr
structure Size where
  i : Int
  q : Int
  m : Int
  e : Int
  deriving DecidableEq, Repr
structure Prg where
  size : Size
  code : List Ins
  deriving DecidableEq, Repr

def I (n : Int) : Value := .int .i64 n
def S (s : ByteArray) : Value := .string s
def contactC (c : Contact) : List Value := [.int .i64 c.kind, .int .i64 c.space, .int .i64 c.n, .string c.from_, .string c.to_]
def coilC (c : Coil) : List Value := [.int .i64 c.kind, .int .i64 c.space, .int .i64 c.n]
def insC (c : Ins) : List Value := [.int .i64 c.op, .int .i64 c.space, .int .i64 c.na, .int .i64 c.n]
abbrev ContactE : Enc Contact := Flat contactC
abbrev CoilE : Enc Coil := Flat coilC
abbrev InsE : Enc Ins := Flat insC
abbrev StrE : Enc ByteArray := OneE Value.string
abbrev IntE : Enc Int := OneE (Value.int .i64)
abbrev BoolE : Enc Bool := OneE Value.bool
/-- A rung lies in four cells. -/
def RungE : Enc Rung := fun w r cs => ∃ vc vo, cs = [.string r.label, vc, vo, .string r.jump] ∧ SlAt ContactE 5 w vc r.contacts ∧ SlAt CoilE 3 w vo r.coils
theorem RungE.mono : RungE.Mono := fun _ _ _ _ ⟨vc, vo, h, h1, h2⟩ hb => ⟨vc, vo, h, h1.bel (Flat.mono _) hb, h2.bel (Flat.mono _) hb⟩
def LineE : Enc Line := fun w l cs => ∃ v, cs = [.int .i64 l.n, v] ∧ SlAt StrE 1 w v l.words
theorem LineE.mono : LineE.Mono := fun _ _ _ _ ⟨v, h, h1⟩ hb => ⟨v, h, h1.bel (Flat.mono _) hb⟩
def LadderE : Enc Ladder := fun w l cs => ∃ v, cs = [.int .i64 l.i, .int .i64 l.q, .int .i64 l.m, v] ∧ SlAt RungE 4 w v l.rungs
theorem LadderE.mono : LadderE.Mono := fun _ _ _ _ ⟨v, h, h1⟩ hb => ⟨v, h, h1.bel RungE.mono hb⟩
def PrgE : Enc Prg := fun w p cs => ∃ v, cs = [.int .i64 p.size.i, .int .i64 p.size.q, .int .i64 p.size.m, .int .i64 p.size.e, v] ∧ SlAt InsE 4 w v p.code
theorem PrgE.mono : PrgE.Mono := fun _ _ _ _ ⟨v, h, h1⟩ hb => ⟨v, h, h1.bel (Flat.mono _) hb⟩

end Go.Proofs.YtbgilebgdbgddaaGreatDoor
/- Memory that a call owns and writes: frames by the blocks' types, rows that are appended to, read again as lists. -/
namespace Go.Proofs.YtbgilebgdbgddaaGreatDoor
open Go.RowKit

def TyIn (T : List TypeId) : Option Obj → Prop
  | some (.cells _ e _) => e ∈ T
  | _ => False
/-- Below B, and in every block whose type is not among T, the world is as it was. -/
structure TFr (T : List TypeId) (B : Nat) (w w' : World) : Prop where
  os : w'.os = w.os
  tape : w'.tape = w.tape
  output : w'.output = w.output
  size : w.heap.size ≤ w'.heap.size
  block : ∀ k, k < w.heap.size → (k < B ∨ ¬ TyIn T w.heap[k]?) → w'.heap[k]? = w.heap[k]?
theorem TFr.refl (T : List TypeId) (B : Nat) (w : World) : TFr T B w w := ⟨rfl, rfl, rfl, Nat.le_refl _, fun _ _ _ => rfl⟩
theorem TFr.trans {T : List TypeId} {B : Nat} {a b c : World} (h : TFr T B a b) (k : TFr T B b c) : TFr T B a c :=
  ⟨k.os.trans h.os, k.tape.trans h.tape, k.output.trans h.output, Nat.le_trans h.size k.size, fun i hi ht => by
    have e := h.block i hi ht
    rw [k.block i (Nat.lt_of_lt_of_le hi h.size) (by rw [e]; exact ht), e]⟩
theorem TFr.of_bel {w w' : World} (T : List TypeId) (B : Nat) (h : Bel w w') : TFr T B w w' := ⟨h.os, h.tape, h.output, h.size, fun k hk _ => h.block k hk⟩
theorem TFr.bel {T : List TypeId} {B : Nat} {a b c : World} (h : TFr T B a b) (k : Bel b c) : TFr T B a c := h.trans (.of_bel T B k)
theorem TFr.wider {T T' : List TypeId} {B : Nat} {w w' : World} (h : TFr T B w w') (hT : ∀ t ∈ T, t ∈ T') : TFr T' B w w' :=
  ⟨h.os, h.tape, h.output, h.size, fun k hk ht => h.block k hk (ht.imp id (fun hn hy => hn (by
    unfold TyIn at hy ⊢
    split at hy
    · exact hT _ hy
    · exact hy)))⟩
theorem TFr.mono {T : List TypeId} {B B' : Nat} {w w' : World} (h : TFr T B w w') (hB : B' ≤ B) : TFr T B' w w' :=
  ⟨h.os, h.tape, h.output, h.size, fun k hk ht => h.block k hk (ht.imp (fun h => Nat.lt_of_lt_of_le h hB) id)⟩
theorem TFr.below {T : List TypeId} {B : Nat} {w w' : World} (h : TFr T B w w') (hB : B ≤ w.heap.size) : Below B w w' :=
  ⟨h.os, h.tape, h.output, h.size, fun k hk => h.block k (Nat.lt_of_lt_of_le hk hB) (.inl hk)⟩
theorem TFr.blk {T : List TypeId} {B : Nat} {w w' : World} (h : TFr T B w w') {n : Nat} {cs : Array Value} {t : TypeId} (hb : Blk w n cs t) (ht : n < B ∨ t ∉ T) : Blk w' n cs t := by
  refine (h.block n hb.lt (ht.imp id (fun hn => ?_))).trans hb
  rw [show w.heap[n]? = _ from hb]
  exact hn
theorem TFr.cell {T : List TypeId} {B : Nat} {w w' : World} (h : TFr T B w w') {a : Addr} {v : Value} (hc : w.cell? a = some v) (ha : a.block < B) : w'.cell? a = some v :=
  (World.cell?_of_block (h.block a.block (lt_cell hc) (.inl ha))).trans hc
theorem TFr.set {T : List TypeId} {B : Nat} {w : World} {n : Nat} {cs : Array Value} {t : TypeId} (hb : Blk w n cs t) (ht : t ∈ T) (i : Nat) (v : Value) : TFr T B w (w.setCell ⟨n, i, none⟩ v) ∨ n < B := by
  rcases Nat.lt_or_ge n B with h | h
  · exact .inr h
  · refine .inl ⟨rfl, rfl, rfl, by simp [World.setCell], fun k hk ho => ?_⟩
    simp only [World.setCell, Array.getElem?_modify]
    rw [if_neg ?_]
    intro e
    subst e
    rcases ho with ho | ho
    · omega
    · apply ho
      rw [show w.heap[n]? = _ from hb]
      exact ht
theorem TFr.setC {T : List TypeId} {B : Nat} {w : World} {n : Nat} {cs : Array Value} {t : TypeId} (hb : Blk w n cs t) (ht : t ∈ T) (hn : B ≤ n) (i : Nat) (v : Value) : TFr T B w (w.setCell ⟨n, i, none⟩ v) :=
  (TFr.set hb ht i v).resolve_right (by omega)
theorem TFr.grown {T : List TypeId} {B : Nat} {w w' : World} {e : TypeId} {sz n : Nat} {v : Value} {xs : List Value} (ho : w.ownsRow B e sz v n xs) (hg : w.grownBy w' v.ownBlock) (he : e ∈ T) : TFr T B w w' := by
  refine ⟨hg.os, hg.tape, hg.output, hg.size, fun k hk hkk => hg.block k hk (fun hr => ?_)⟩
  rcases ho.2 with ⟨rfl, _⟩ | ⟨g, cap, cur, rfl, hb, hh, _⟩
  · simp [Value.ownBlock] at hr
  · have : k = g := by simpa [Value.ownBlock] using hr
    subst this
    rcases hkk with h | h
    · omega
    · apply h; rw [hh]; exact he
theorem own_tfr {T : List TypeId} {B B' : Nat} {w w' : World} {e : TypeId} {sz n : Nat} {v : Value} {xs : List Value} (ho : w.ownsRow B' e sz v n xs) (h : TFr T B w w') (he : e ∉ T) : w'.ownsRow B' e sz v n xs := by
  refine ⟨ho.1, ?_⟩
  rcases ho.2 with h1 | ⟨g, cap, cur, hv, hb, hh, r⟩
  · exact .inl h1
  · refine .inr ⟨g, cap, cur, hv, hb, ?_, r⟩
    rw [h.block g (Array.getElem?_eq_some_iff.1 hh).1 (.inr (by rw [hh]; exact he))]
    exact hh
theorem own_bel {B' : Nat} {w w' : World} {e : TypeId} {sz n : Nat} {v : Value} {xs : List Value} (ho : w.ownsRow B' e sz v n xs) (h : Bel w w') : w'.ownsRow B' e sz v n xs :=
  own_tfr ho (TFr.of_bel [] 0 h) (by simp)
theorem own_base {B B' : Nat} {w : World} {e : TypeId} {sz n : Nat} {v : Value} {xs : List Value} (ho : w.ownsRow B e sz v n xs) (h : B' ≤ B) : w.ownsRow B' e sz v n xs := by
  refine ⟨ho.1, ?_⟩
  rcases ho.2 with h1 | ⟨g, cap, cur, hv, hb, r⟩
  · exact .inl h1
  · exact .inr ⟨g, cap, cur, hv, Nat.le_trans h hb, r⟩
/-- A store into a block of another type leaves the row. -/
theorem own_set {B : Nat} {w : World} {e : TypeId} {sz n : Nat} {v : Value} {xs : List Value} (ho : w.ownsRow B e sz v n xs) {m : Nat} {cs : Array Value} {t : TypeId} (hb : Blk w m cs t) (ht : t ≠ e) (i : Nat) (u : Value) : (w.setCell ⟨m, i, none⟩ u).ownsRow B e sz v n xs :=
  own_tfr ho (TFr.setC (T := [t]) (B := 0) hb (by simp) (Nat.zero_le _) i u) (by simp; exact fun h => ht h.symm)
theorem TFr.toBel {T : List TypeId} {W0 w w' : World} (h : TFr T W0.heap.size w w') (hb : Bel W0 w) : Bel W0 w' := Below.trans hb (h.below hb.size)
/-- The row grows: another row, of another type or of another block, stays. -/
theorem own_grown {B B' : Nat} {w w' : World} {e e' : TypeId} {sz sz' n n' : Nat} {v v' : Value} {xs xs' : List Value} (ho : w.ownsRow B e sz v n xs) (ho' : w.ownsRow B' e' sz' v' n' xs') (hg : w.grownBy w' v'.ownBlock) (hne : e ≠ e') : w'.ownsRow B e sz v n xs :=
  own_tfr ho (TFr.grown (T := [e']) ho' hg (by simp)) (by simpa using hne)
theorem own_slice {w : World} {base n : Nat} {e : TypeId} {size : Nat} {v : Value} {xs : List Value} (h : w.ownsRow base e size v n xs) : ∃ A c, v = .slice A n c ∧ n ≤ c ∧ c ≤ 9223372036854775807 := by
  rcases h.2 with ⟨rfl, rfl⟩ | ⟨g, cap, cur, rfl, _, _, h1, h2, _⟩
  · exact ⟨none, 0, rfl, by simp, by simp⟩
  · exact ⟨_, cap, rfl, h1, h2⟩

theorem flatMap_at {α : Type} {f : α → List Value} {sz : Nat} (hf : ∀ x, (f x).length = sz) : ∀ (xs : List α) (i : Nat) (x : α), xs[i]? = some x → ∀ j u, (f x)[j]? = some u → (xs.flatMap f)[i * sz + j]? = some u := by
  intro xs
  induction xs with
  | nil => intro i x h; simp at h
  | cons a l ih =>
    intro i x h j u hu
    rw [List.flatMap_cons]
    have hj : j < sz := by
      have := (List.getElem?_eq_some_iff.1 hu).1
      rw [hf] at this; exact this
    cases i with
    | zero =>
      simp at h
      subst h
      rw [Nat.zero_mul, Nat.zero_add, List.getElem?_append_left (by rw [hf]; exact hj)]
      exact hu
    | succ i =>
      simp at h
      rw [List.getElem?_append_right (by rw [hf, Nat.succ_mul]; omega), hf]
      rw [show (i + 1) * sz + j - sz = i * sz + j by rw [Nat.succ_mul]; omega]
      exact ih i x h j u hu
theorem flatMap_len {α : Type} {f : α → List Value} {sz : Nat} (hf : ∀ x, (f x).length = sz) (xs : List α) : (xs.flatMap f).length = xs.length * sz := by
  induction xs with
  | nil => simp
  | cons a l ih => rw [List.flatMap_cons, List.length_append, hf, ih, List.length_cons, Nat.succ_mul]; omega
theorem Blk.news {w : World} {n : Nat} {cs : Array Value} {t : TypeId} (h : Blk w n cs t) : ∀ j u, cs.toList[j]? = some u → w.cell? ((⟨n, 0, none⟩ : Addr).add j) = some u := World.news_of_block h
/-- What is owned reads as a list. -/
theorem own_read {α : Type} {f : α → List Value} {sz : Nat} (hf : ∀ x, (f x).length = sz) {w : World} {B : Nat} {e : TypeId} {v : Value} {xs : List α} {n : Nat} (ho : w.ownsRow B e sz v n (xs.flatMap f)) (hn : n = xs.length) (E : Enc α) (hE : ∀ x ∈ xs, E w x (f x)) : SlAt E sz w v xs := by
  subst hn
  rcases ho.2 with ⟨rfl, h0⟩ | ⟨g, cap, cur, rfl, hb, hh, h1, h2, h3, h4⟩
  · have : xs = [] := List.eq_nil_of_length_eq_zero h0
    subst this
    exact SlAt.nil E sz w
  · refine ⟨_, cap, rfl, h1, h2, fun i x hi => ⟨g, 0, f x, rfl, hE x (List.mem_of_getElem? hi), hf x, fun j u hu => ?_⟩⟩
    have hfl := flatMap_at hf xs i x hi j u hu
    unfold World.cell?
    rw [show w.heap[(⟨g, 0 + i * sz + j, none⟩ : Addr).block]? = _ from hh]
    simp only [Option.isSome_none, Bool.false_eq_true, if_false]
    rw [← h4] at hfl
    rw [List.getElem?_take] at hfl
    split at hfl
    · rw [Nat.zero_add]
      simpa using hfl
    · cases hfl
/-- A cell of an owned row. -/
theorem own_cell {w : World} {B g n cap : Nat} {e : TypeId} {sz : Nat} {xs : List Value} (ho : w.ownsRow B e sz (.slice (some ⟨g, 0, none⟩) n cap) n xs) (j : Nat) {u : Value} (hu : xs[j]? = some u) : w.cell? ⟨g, j, none⟩ = some u ∧ w.frozen? ⟨g, j, none⟩ = false := by
  rcases ho.2 with ⟨h, _⟩ | ⟨g', cap', cur, hv, hb, hh, h1, h2, h3, h4⟩
  · cases h
  · injection hv with h5 h6 h7
    injection h5 with h5
    injection h5 with h5
    subst h5
    constructor
    · unfold World.cell?
      rw [show w.heap[(⟨g, j, none⟩ : Addr).block]? = _ from hh]
      rw [← h4, List.getElem?_take] at hu
      split at hu
      · simpa using hu
      · cases hu
    · unfold World.frozen?
      rw [show w.heap[(⟨g, j, none⟩ : Addr).block]? = _ from hh]
      simp
end Go.Proofs.YtbgilebgdbgddaaGreatDoor
/- What append asks of the element types. Printed by wip/geninf.py. -/
namespace Go.Proofs.YtbgilebgdbgddaaGreatDoor
open Go.RowKit
theorem und42 : Tryz.prog.underlying 42 = some (.slice 54) := by kernel_rfl
theorem info54 : (Tryz.prog.info? 54).map (fun i => (i.zero, i.size, i.bytes)) = some (some (.agg #[.int .i64 0, .int .i64 0, .int .i64 0, .int .i64 0]), 4, 32) := by kernel_rfl
theorem und330 : Tryz.prog.underlying 330 = some (.slice 332) := by kernel_rfl
theorem info332 : (Tryz.prog.info? 332).map (fun i => (i.zero, i.size, i.bytes)) = some (some (.agg #[.int .i64 0, .int .i64 0, .slice none 0 0]), 3, 40) := by kernel_rfl
theorem und27 : Tryz.prog.underlying 27 = some (.slice 3) := by kernel_rfl
theorem info3 : (Tryz.prog.info? 3).map (fun i => (i.zero, i.size, i.bytes)) = some (some (.int .i64 0), 1, 8) := by kernel_rfl
theorem und56 : Tryz.prog.underlying 56 = some (.slice 9) := by kernel_rfl
theorem info9 : (Tryz.prog.info? 9).map (fun i => (i.zero, i.size, i.bytes)) = some (some (.string ByteArray.empty), 1, 16) := by kernel_rfl
theorem und24 : Tryz.prog.underlying 24 = some (.slice 33) := by kernel_rfl
theorem info33 : (Tryz.prog.info? 33).map (fun i => (i.zero, i.size, i.bytes)) = some (some (.agg #[.string ByteArray.empty, .slice none 0 0, .slice none 0 0, .string ByteArray.empty]), 4, 80) := by kernel_rfl
theorem und30 : Tryz.prog.underlying 30 = some (.slice 108) := by kernel_rfl
theorem info108 : (Tryz.prog.info? 108).map (fun i => (i.zero, i.size, i.bytes)) = some (some (.agg #[.int .i64 0, .int .i64 0, .int .i64 0, .string ByteArray.empty, .string ByteArray.empty]), 5, 56) := by kernel_rfl
theorem und31 : Tryz.prog.underlying 31 = some (.slice 131) := by kernel_rfl
theorem info131 : (Tryz.prog.info? 131).map (fun i => (i.zero, i.size, i.bytes)) = some (some (.agg #[.int .i64 0, .int .i64 0, .int .i64 0]), 3, 24) := by kernel_rfl
theorem und270 : Tryz.prog.underlying 270 = some (.slice 278) := by kernel_rfl
theorem info278 : (Tryz.prog.info? 278).map (fun i => (i.zero, i.size, i.bytes)) = some (some (.agg #[.int .i64 0, .slice none 0 0]), 2, 32) := by kernel_rfl
theorem und351 : Tryz.prog.underlying 351 = some (.slice 355) := by kernel_rfl
theorem info355 : (Tryz.prog.info? 355).map (fun i => (i.zero, i.size, i.bytes)) = some (some (.agg #[.string ByteArray.empty, .string ByteArray.empty, .int .i64 0, .int .i64 0, .slice none 0 0]), 5, 72) := by kernel_rfl
theorem und79 : Tryz.prog.underlying 79 = some (.slice 85) := by kernel_rfl
theorem info85 : (Tryz.prog.info? 85).map (fun i => (i.zero, i.size, i.bytes)) = some (some (.agg #[.int .i64 0, .int .i64 0]), 2, 16) := by kernel_rfl
theorem und96 : Tryz.prog.underlying 96 = some (.slice 104) := by kernel_rfl
theorem info104 : (Tryz.prog.info? 104).map (fun i => (i.zero, i.size, i.bytes)) = some (some (.agg #[.int .i64 0, .slice none 0 0]), 2, 32) := by kernel_rfl
theorem und34 : Tryz.prog.underlying 34 = some (.slice 36) := by kernel_rfl
theorem info36 : (Tryz.prog.info? 36).map (fun i => (i.zero, i.size, i.bytes)) = some (some (.agg #[.int .i64 0, .int .i64 0, .slice none 0 0]), 3, 40) := by kernel_rfl
theorem und106 : Tryz.prog.underlying 106 = some (.slice 110) := by kernel_rfl
theorem info110 : (Tryz.prog.info? 110).map (fun i => (i.zero, i.size, i.bytes)) = some (some (.agg #[.string ByteArray.empty, .string ByteArray.empty, .int .i64 0, .int .i64 0, .slice none 0 0]), 5, 72) := by kernel_rfl
/-- append at a step of a region that draws. -/
theorem step_app {t e : TypeId} {z : Value} {size bytes : Nat} (ht : Tryz.prog.underlying t = some (.slice e)) (hin : (Tryz.prog.info? e).map (fun i => (i.zero, i.size, i.bytes)) = some (some z, size, bytes)) (hzs : z.cells.size = size) (hsz : 0 < size) (hbb : bytes ≤ 1000)
    {w : World} {ops : Array Oper} {o : Oper} {a : Act} {K : Act → World → Prop} {Q : Exit → Act → World → Prop} {E : Prop} (hgd : o.guard = none) (s x : Operand)
    (ho : o.op = .call { callee := .builtin .append, args := #[s, x], argTypes := #[t, t] }) {base : Nat} {v : Value} {n : Nat} {xs : List Value} (hs : a.eval s = v) (hown : w.ownsRow base e size v n xs)
    {ad : Addr} {m c : Nat} {news : List Value} (hx : a.eval x = .slice (some ad) m c) (hl : news.length = m * size) (hnews : ∀ j u, news[j]? = some u → w.cell? (ad.add j) = some u) (h1 : ∀ u ∈ news, u.oneCell' = true)
    (hm : 0 < m) (hn : n + m ≤ 1000000000) (hbase : base ≤ w.heap.size)
    (h : ∀ g cap w', w'.ownsRow base e size (.slice (some ⟨g, 0, none⟩) (n + m) cap) (n + m) (xs ++ news) → w.grownBy w' v.ownBlock → TFr [e] base w w' → (v.ownBlock = some g ∨ g = w.heap.size) → K (a.put o.dst (.slice (some ⟨g, 0, none⟩) (n + m) cap)) w') :
    if Region.wanted o (yielded ops a.tmps) = true then Oper.wp Tryz.prog o a w K Q else E := by
  obtain ⟨i0, hi, hz0, hz1, hz2⟩ := info_parts hin
  have hby : (n + m) * bytes ≤ 140737488355328 := Nat.le_trans (Nat.mul_le_mul hn hbb) (by decide)
  exact step_append_lies w hgd s x t ho base e i0 z size bytes ht hi hz0 hz1 hz2 hzs hsz v n xs hs hown ad m c news hx hl hnews h1 hm (by simp [maxLen]; omega) hby hbase _ rfl fun g cap w1 h2 h3 h4 h5 => h g cap w1 h2 h3 (TFr.grown hown h3 (by simp)) h4
theorem list_app {t e : TypeId} {z : Value} {size bytes : Nat} (ht : Tryz.prog.underlying t = some (.slice e)) (hin : (Tryz.prog.info? e).map (fun i => (i.zero, i.size, i.bytes)) = some (some z, size, bytes)) (hzs : z.cells.size = size) (hsz : 0 < size) (hbb : bytes ≤ 1000)
    {w : World} {ops : Array Oper} {rest : List Oper} {o : Oper} {a : Act} {Q : Exit → Act → World → Prop} (hgd : o.guard = none) (s x : Operand)
    (ho : o.op = .call { callee := .builtin .append, args := #[s, x], argTypes := #[t, t] }) {base : Nat} {v : Value} {n : Nat} {xs : List Value} (hs : a.eval s = v) (hown : w.ownsRow base e size v n xs)
    {ad : Addr} {m c : Nat} {news : List Value} (hx : a.eval x = .slice (some ad) m c) (hl : news.length = m * size) (hnews : ∀ j u, news[j]? = some u → w.cell? (ad.add j) = some u) (h1 : ∀ u ∈ news, u.oneCell' = true)
    (hm : 0 < m) (hn : n + m ≤ 1000000000) (hbase : base ≤ w.heap.size)
    (h : ∀ g cap w', w'.ownsRow base e size (.slice (some ⟨g, 0, none⟩) (n + m) cap) (n + m) (xs ++ news) → w.grownBy w' v.ownBlock → TFr [e] base w w' → (v.ownBlock = some g ∨ g = w.heap.size) → wpList Tryz.prog ops Q rest (a.put o.dst (.slice (some ⟨g, 0, none⟩) (n + m) cap)) w') : wpList Tryz.prog ops Q (o :: rest) a w := by
  obtain ⟨i0, hi, hz0, hz1, hz2⟩ := info_parts hin
  have hby : (n + m) * bytes ≤ 140737488355328 := Nat.le_trans (Nat.mul_le_mul hn hbb) (by decide)
  exact wpList_append_lies w hgd s x t ho base e i0 z size bytes ht hi hz0 hz1 hz2 hzs hsz v n xs hs hown ad m c news hx hl hnews h1 hm (by simp [maxLen]; omega) hby hbase _ rfl fun g cap w1 h2 h3 h4 h5 => h g cap w1 h2 h3 (TFr.grown hown h3 (by simp)) h4
end Go.Proofs.YtbgilebgdbgddaaGreatDoor
