/- build.Build and build.Valid, over the law of codegen.Ladder. -/
import Derived.Test.YtbgilebgdbgddaaGreatDoorBld
set_option linter.unusedVariables false
set_option linter.unusedSimpArgs false
namespace Go.Proofs.YtbgilebgdbgddaaGreatDoor
open Go.RowKit
def BuildPost (w : World) (b : CRes) (e : Ending) (w' : World) : Prop := ∃ vc, e = .returned (.tuple #[.agg #[.int .i64 b.prg.size.i, .int .i64 b.prg.size.q, .int .i64 b.prg.size.m, .int .i64 b.prg.size.e, vc], .int .i64 b.at_, .int .i64 b.err]) ∧ Hangs w.heap.size none w' (fun w'' => SlAt InsE 4 w'' vc b.prg.code) ∧ Bel w w'
theorem buildF_bad {C : Ladder → CRes} {text : ByteArray} (h : (buildF C text).err ≠ 0) : (buildF C text).prg = prgN := by
  unfold buildF at h ⊢
  split
  · rfl
  · rename_i g; rw [if_neg g] at h
    split
    · rfl
    · rename_i g2; rw [if_neg g2] at h; exact absurd rfl h
set_option maxRecDepth 100000 in
set_option maxHeartbeats 4000000 in
theorem build17 (C : Ladder → CRes) (text : ByteArray) (w : World) (hs : text.size ≤ 1073741824) (hE : Env w) (hC : CompLaw C (parseF text)) :
    Calls Tryz.prog 17 #[.string text] w (BuildPost w (buildF C text)) := by
  have hrun := fun W (hb : Bel w W) => run44 C text W hs (hE.bel hb) hC
  have hbad := buildF_bad (C := C) (text := text)
  generalize buildF C text = b at *
  generalize parseF text = r at *
  generalize C r.lad = c at *
  have q2 := Blk.new w #[.int .i64 0, .int .i64 0, .int .i64 0, .int .i64 0, .slice none 0 0] 44
  have hb1 : Bel w (w.alloc (.cells #[.int .i64 0, .int .i64 0, .int .i64 0, .int .i64 0, .slice none 0 0] 44)) := (Bel.refl w).alloc _
  have HR := Lib.hid hrun; have HBD := Lib.hid hbad
  clear hrun hbad hC hE hs
  go_enter Tryz.func17, Tryz.ntmps17
  go_wp2_with fail
  have hlt := q2.lt
  generalize (w.alloc (.cells #[.int .i64 0, .int .i64 0, .int .i64 0, .int .i64 0, .slice none 0 0] 44)) = W at *
  refine (HR.out W hb1).mono ?_
  rintro e w1 (⟨her, rfl, hb2⟩ | ⟨hr0, hc0, hbe, J, vr, vl, vc, rfl, hq, -, hhc, hb2⟩)
  · have hz1 : (b.err == 0) = false := by simpa using her
    have hz2 : (b.err != 0) = true := by simpa using her
    have hpr := HBD.out her
    have HP := Lib.hid hpr
    have q3 := q2.bel hb2
    have hbw := hb1.trans hb2
    have c0 := q3.cell 0 rfl; have c1 := q3.cell 1 rfl; have c2 := q3.cell 2 rfl; have c3 := q3.cell 3 rfl; have c4 := q3.cell 4 rfl
    have f0 := q3.frozen 0; have f1 := q3.frozen 1; have f2 := q3.frozen 2; have f3 := q3.frozen 3; have f4 := q3.frozen 4
    have z := ((((q3.set 0 (.int .i64 0)).set 1 (.int .i64 0)).set 2 (.int .i64 0)).set 3 (.int .i64 0)).set 4 (.slice none 0 0)
    have hz : Bel w (((((w1.setCell ⟨w.heap.size, 0, none⟩ (.int .i64 0)).setCell ⟨w.heap.size, 1, none⟩ (.int .i64 0)).setCell ⟨w.heap.size, 2, none⟩ (.int .i64 0)).setCell ⟨w.heap.size, 3, none⟩ (.int .i64 0)).setCell ⟨w.heap.size, 4, none⟩ (.slice none 0 0)) := ((((hbw.setCell (Nat.le_refl _) _).setCell (Nat.le_refl _) _).setCell (Nat.le_refl _) _).setCell (Nat.le_refl _) _).setCell (Nat.le_refl _) _
    obtain ⟨ba, hba⟩ : ∃ ba, ba = b.at_ := ⟨_, rfl⟩
    obtain ⟨be, hbe⟩ : ∃ be, be = b.err := ⟨_, rfl⟩
    rw [← hba]
    rw [← hbe] at hz1 hz2 ⊢
    have HA := Lib.hid hba; have HB := Lib.hid hbe
    clear hpr her hba hbe
    go_wp2_with fail
    have y0 := z.cell 0 rfl; have y1 := z.cell 1 rfl; have y2 := z.cell 2 rfl; have y3 := z.cell 3 rfl; have y4 := z.cell 4 rfl
    refine bodyPost_ret (v := .tuple #[.agg #[.int .i64 0, .int .i64 0, .int .i64 0, .int .i64 0, .slice none 0 0], .int .i64 ba, .int .i64 be]) (by simp [results, Tryz.results17, go_sem, y0, y1, y2, y3, y4]) rfl ?_
    unfold BuildPost
    rw [HP.out, HA.out, HB.out]
    exact ⟨_, rfl, fun _ _ => SlAt.nil _ _ _, hz⟩
  · have HBE := Lib.hid hbe
    obtain ⟨⟨⟨si, sq, sm, se⟩, code⟩, at_, er⟩ := c
    dsimp only at *
    obtain ⟨ac, cc, rfl, _⟩ := hhc.here.ex
    have q3 := q2.bel hb2
    have hbw := hb1.trans hb2
    have c0 := q3.cell 0 rfl; have c1 := q3.cell 1 rfl; have c2 := q3.cell 2 rfl; have c3 := q3.cell 3 rfl; have c4 := q3.cell 4 rfl
    have f0 := q3.frozen 0; have f1 := q3.frozen 1; have f2 := q3.frozen 2; have f3 := q3.frozen 3; have f4 := q3.frozen 4
    have k6 : w1.cell? ⟨J, 6, none⟩ = some (.int .i64 si) := hq.cell 6 rfl
    have k7 : w1.cell? ⟨J, 7, none⟩ = some (.int .i64 sq) := hq.cell 7 rfl
    have k8 : w1.cell? ⟨J, 8, none⟩ = some (.int .i64 sm) := hq.cell 8 rfl
    have k9 : w1.cell? ⟨J, 9, none⟩ = some (.int .i64 se) := hq.cell 9 rfl
    have k10 : w1.cell? ⟨J, 10, none⟩ = some (.slice ac code.length cc) := hq.cell 10 rfl
    have z := ((((q3.set 0 (.int .i64 si)).set 1 (.int .i64 sq)).set 2 (.int .i64 sm)).set 3 (.int .i64 se)).set 4 (.slice ac code.length cc)
    have hz : Bel w (((((w1.setCell ⟨w.heap.size, 0, none⟩ (.int .i64 si)).setCell ⟨w.heap.size, 1, none⟩ (.int .i64 sq)).setCell ⟨w.heap.size, 2, none⟩ (.int .i64 sm)).setCell ⟨w.heap.size, 3, none⟩ (.int .i64 se)).setCell ⟨w.heap.size, 4, none⟩ (.slice ac code.length cc)) := ((((hbw.setCell (Nat.le_refl _) _).setCell (Nat.le_refl _) _).setCell (Nat.le_refl _) _).setCell (Nat.le_refl _) _).setCell (Nat.le_refl _) _
    have hh5 := ((((hhc.set w.heap.size 0 (.int .i64 si) hlt).set w.heap.size 1 (.int .i64 sq) hlt).set w.heap.size 2 (.int .i64 sm) hlt).set w.heap.size 3 (.int .i64 se) hlt).set w.heap.size 4 (.slice ac code.length cc) hlt
    have hh6 := Hangs.younger (r := none) hh5 hb1.size (fun g hg => by cases hg)
    clear hhc hh5 hbe hr0 hc0
    go_wp2_with fail
    have y0 := z.cell 0 rfl; have y1 := z.cell 1 rfl; have y2 := z.cell 2 rfl; have y3 := z.cell 3 rfl; have y4 := z.cell 4 rfl
    refine bodyPost_ret (v := .tuple #[.agg #[.int .i64 si, .int .i64 sq, .int .i64 sm, .int .i64 se, .slice ac code.length cc], .int .i64 0, .int .i64 0]) (by simp [results, Tryz.results17, go_sem, y0, y1, y2, y3, y4]) rfl ?_
    rw [HBE.out]
    exact ⟨_, rfl, hh6, hz⟩
set_option maxHeartbeats 4000000 in
theorem valid16 (C : Ladder → CRes) (text : ByteArray) (w : World) (hs : text.size ≤ 1073741824) (hE : Env w) (hC : CompLaw C (parseF text)) :
    Calls Tryz.prog 16 #[.string text] w fun e w' => e = .returned (.bool (decide ((buildF C text).err = 0))) ∧ Bel w w' := by
  have hrun := run44 C text w hs hE hC
  generalize buildF C text = b at *
  generalize parseF text = r at *
  generalize C r.lad = c at *
  go_enter Tryz.func16, Tryz.ntmps16
  go_wp2_with fail
  refine hrun.mono ?_
  rintro e w1 (⟨her, rfl, hb2⟩ | ⟨hr0, hc0, hbe, J, vr, vl, vc, rfl, hq, -, hhc, hb2⟩)
  · have hz1 : (b.err == 0) = false := by simpa using her
    have Her := Lib.hid her
    clear hrun her
    go_wp2_with fail
    go_ret
    exact ⟨by rw [decide_eq_false Her.out]; rfl, hb2⟩
  · have HB := Lib.hid hbe
    clear hrun hbe hr0 hc0
    go_wp2_with fail
    go_ret
    exact ⟨by rw [HB.out]; rfl, hb2⟩
end Go.Proofs.YtbgilebgdbgddaaGreatDoor
