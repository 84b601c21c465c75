/- cache.Get, again. -/
import Derived.Test.YtbgilebgdbgddaaGreatDoorGet
set_option linter.unusedVariables false
set_option linter.unusedSimpArgs false
namespace Go.Proofs.YtbgilebgdbgddaaGreatDoor
open Go.RowKit Go.MuLone
set_option maxRecDepth 100000 in
set_option maxHeartbeats 4000000 in
theorem get24_old (text : ByteArray) (C E N : Nat) (vE : Value) (most : Int) (bm : Nat) (bu asks : Int) (L : List (ByteArray × Value)) (b : CRes) (w : World) (g0 : 0 ≤ asks) (g1 : asks ≤ 1000000)
    (hC : Blk w C (cacheC most 0 bm bu asks) 146) (hm : MapAt Value.string w bm L) (hg : asGet L text = some (.pointer (some ⟨E, 0, none⟩))) (qE : Blk w E (entC 1 0 b.prg.size vE b.at_ b.err) 157) (hh : Hangs N none w (fun w'' => SlAt InsE 4 w'' vE b.prg.code)) (hCN : C < N) (hN : N ≤ w.heap.size) (hcl : b.prg.code.length ≤ 100000000) :
    Calls Tryz.prog 24 #[.pointer (some ⟨C, 0, none⟩), .string text] w (GetOld C most bm bu asks b w) := by
  have hadd := fun W (hq : Blk W C (cacheC most 0 bm bu asks) 146) => add54 C 5 asks 1 W (hq.cell 5 rfl) (hq.frozen 5) g0 (by omega) (by omega) (by omega)
  have hne := map_ne_blk hm hC
  have nE : E ≠ C := fun e => by
    subst e
    have := qE.symm.trans hC
    injection this with this; injection this with _ this; exact absurd this (by decide)
  have HG := Lib.hid hg
  have HCL := Lib.hid hcl
  clear g0 g1 hg hcl
  have hCl := hC.lt; have hml := hm.lt; have hEl := qE.lt
  go_enter Tryz.func24, Tryz.ntmps24
  go_wp2_with fail
  have qc : Blk (((w.alloc (.cells #[.pointer (some ⟨C, 0, none⟩)] 58)).alloc (.cells #[.string text] 9)).alloc (.cells #[.int .i64 0, .int .i64 0, .int .i64 0, .int .i64 0, .slice none 0 0, .int .i64 0, .int .i64 0] 66)) w.heap.size #[.pointer (some ⟨C, 0, none⟩)] 58 := ((Blk.new w _ _).alloc _).alloc _
  have qt : Blk (((w.alloc (.cells #[.pointer (some ⟨C, 0, none⟩)] 58)).alloc (.cells #[.string text] 9)).alloc (.cells #[.int .i64 0, .int .i64 0, .int .i64 0, .int .i64 0, .slice none 0 0, .int .i64 0, .int .i64 0] 66)) (w.heap.size + 1) #[.string text] 9 := (Blk.new1 w _ _ _).alloc _
  have qr : Blk (((w.alloc (.cells #[.pointer (some ⟨C, 0, none⟩)] 58)).alloc (.cells #[.string text] 9)).alloc (.cells #[.int .i64 0, .int .i64 0, .int .i64 0, .int .i64 0, .slice none 0 0, .int .i64 0, .int .i64 0] 66)) (w.heap.size + 1 + 1) #[.int .i64 0, .int .i64 0, .int .i64 0, .int .i64 0, .slice none 0 0, .int .i64 0, .int .i64 0] 66 := by
    have := Blk.new1 (w.alloc (.cells #[.pointer (some ⟨C, 0, none⟩)] 58)) (.cells #[.string text] 9) #[.int .i64 0, .int .i64 0, .int .i64 0, .int .i64 0, .slice none 0 0, .int .i64 0, .int .i64 0] 66
    simpa using this
  have hb1 : Bel w (((w.alloc (.cells #[.pointer (some ⟨C, 0, none⟩)] 58)).alloc (.cells #[.string text] 9)).alloc (.cells #[.int .i64 0, .int .i64 0, .int .i64 0, .int .i64 0, .slice none 0 0, .int .i64 0, .int .i64 0] 66)) := (((Bel.refl w).alloc _).alloc _).alloc _
  generalize (((w.alloc (.cells #[.pointer (some ⟨C, 0, none⟩)] 58)).alloc (.cells #[.string text] 9)).alloc (.cells #[.int .i64 0, .int .i64 0, .int .i64 0, .int .i64 0, .slice none 0 0, .int .i64 0, .int .i64 0] 66)) = X at *
  refine (hadd X (hC.bel hb1)).mono ?_
  rintro e w1 ⟨rfl, hw1⟩
  have f1 : Fr [C] w w1 := by rw [hw1]; exact (Fr.of_bel _ hb1).set (by simp)
  have hC1 : Blk w1 C (cacheC most 0 bm bu (asks + 1)) 146 := by rw [hw1]; exact (hC.bel hb1).set 5 _
  have qc1 := qc.set_other (a := ⟨C, 5, none⟩) (by simp; omega) (.int .i64 (asks + 1))
  have qt1 := qt.set_other (a := ⟨C, 5, none⟩) (by simp; omega) (.int .i64 (asks + 1))
  have qr1 := qr.set_other (a := ⟨C, 5, none⟩) (by simp; omega) (.int .i64 (asks + 1))
  rw [← hw1] at qc1 qt1 qr1
  have hm1 := f1.map hm (by simp; exact fun e => hne e.symm)
  have k1 := qc1.cell 0 rfl; have k2 := qt1.cell 0 rfl
  clear hadd hb1 hw1 qc qt qr
  go_wp2_with fail
  have qE1 := f1.blk qE (by simpa using nE)
  have hh1 := f1.hangs hh (by simpa using hCN)
  refine (find_hit C most bm bu (asks + 1) L text ⟨E, 0, none⟩ w1 hC1 hm1 HG.out).mono ?_
  rintro e w2 ⟨rfl, hC2, f2⟩
  have hsz1 := qr1.lt
  have qc2 := f2.blk qc1 (by simp; omega)
  have qt2 := f2.blk qt1 (by simp; omega)
  have qr2 := f2.blk qr1 (by simp; omega)
  have qE2 := f2.blk qE1 (by simpa using nE)
  have hh2 := f2.hangs hh1 (by simpa using hCN)
  have k3 := qc2.cell 0 rfl; have k4 := qt2.cell 0 rfl
  have f03 := f1.trans f2
  clear k1 k2 qc1 qt1 qr1 hC1 hm1 f1
  go_wp2_with fail
  have hb3 : Bel w2 (w2.alloc (.cells #[.pointer (some ⟨E, 0, none⟩)] 149)) := (Bel.refl w2).alloc _
  have qx4 : Blk (w2.alloc (.cells #[.pointer (some ⟨E, 0, none⟩)] 149)) w2.heap.size #[.pointer (some ⟨E, 0, none⟩)] 149 := Blk.new w2 _ _
  have hC4 := hC2.bel hb3; have qE4 := qE2.bel hb3; have qr4 := qr2.bel hb3
  have f04 := f03.bel hb3
  have hh4 := hh2.bel hb3
  generalize (w2.alloc (.cells #[.pointer (some ⟨E, 0, none⟩)] 149)) = w4 at *
  clear hC2 qE2 qc2 qt2 qr2 k3 k4 f2 hb3
  refine (do_done E _ w4 (qE4.cell 0 rfl)).mono ?_
  rintro e w9 ⟨rfl, hw9⟩
  rw [hw9]; clear hw9 w9
  have k0 := qx4.cell 0 rfl
  have hv4 := hh4.here
  have hex := hv4.ex
  obtain ⟨ac, cc, rfl, _⟩ := hex
  have e3 : w4.cell? ⟨E, 3, none⟩ = some (.int .i64 b.prg.size.i) := qE4.cell 3 rfl
  have e4 : w4.cell? ⟨E, 4, none⟩ = some (.int .i64 b.prg.size.q) := qE4.cell 4 rfl
  have e5 : w4.cell? ⟨E, 5, none⟩ = some (.int .i64 b.prg.size.m) := qE4.cell 5 rfl
  have e6 : w4.cell? ⟨E, 6, none⟩ = some (.int .i64 b.prg.size.e) := qE4.cell 6 rfl
  have e7 : w4.cell? ⟨E, 7, none⟩ = some (.slice ac b.prg.code.length cc) := qE4.cell 7 rfl
  have e8 : w4.cell? ⟨E, 8, none⟩ = some (.int .i64 b.at_) := qE4.cell 8 rfl
  have e9 : w4.cell? ⟨E, 9, none⟩ = some (.int .i64 b.err) := qE4.cell 9 rfl
  have HV4 := Lib.hid hv4
  clear hv4
  go_wp2_with fail
  have hb5 : Bel w4 (w4.alloc (.cells #[.int .i64 b.prg.size.i, .int .i64 b.prg.size.q, .int .i64 b.prg.size.m, .int .i64 b.prg.size.e, .slice ac b.prg.code.length cc, .int .i64 b.at_, .int .i64 b.err] 66)) := (Bel.refl w4).alloc _
  have qb5 : Blk (w4.alloc (.cells #[.int .i64 b.prg.size.i, .int .i64 b.prg.size.q, .int .i64 b.prg.size.m, .int .i64 b.prg.size.e, .slice ac b.prg.code.length cc, .int .i64 b.at_, .int .i64 b.err] 66)) w4.heap.size #[.int .i64 b.prg.size.i, .int .i64 b.prg.size.q, .int .i64 b.prg.size.m, .int .i64 b.prg.size.e, .slice ac b.prg.code.length cc, .int .i64 b.at_, .int .i64 b.err] 66 := Blk.new w4 _ _
  have nr4 := qr4.lt
  generalize (w4.alloc (.cells #[.int .i64 b.prg.size.i, .int .i64 b.prg.size.q, .int .i64 b.prg.size.m, .int .i64 b.prg.size.e, .slice ac b.prg.code.length cc, .int .i64 b.at_, .int .i64 b.err] 66)) = w5 at *
  refine (clone58 _ b.prg.code w5 (HV4.out.bel (Flat.mono _) hb5) HCL.out).mono ?_
  rintro e w6 ⟨vc, rfl, hb6, hhc⟩
  obtain ⟨a2, c2, rfl, _⟩ := hhc.here.ex
  have hb46 := hb5.trans hb6
  have qb6 := qb5.bel hb6; have qr6 := qr4.bel hb46
  have b4 : w6.cell? ⟨w4.heap.size, 4, none⟩ = some (.slice ac b.prg.code.length cc) := qb6.cell 4 rfl
  have z4 := qb6.frozen 4
  have nb5 := qb5.lt
  have HB := Lib.hid hb46; have HX := Lib.hid hhc
  clear hb5 qb5 hb6 hb46 hhc
  have x0 : w6.cell? ⟨w4.heap.size, 0, none⟩ = some (.int .i64 b.prg.size.i) := qb6.cell 0 rfl
  have x1 : w6.cell? ⟨w4.heap.size, 1, none⟩ = some (.int .i64 b.prg.size.q) := qb6.cell 1 rfl
  have x2 : w6.cell? ⟨w4.heap.size, 2, none⟩ = some (.int .i64 b.prg.size.m) := qb6.cell 2 rfl
  have x3 : w6.cell? ⟨w4.heap.size, 3, none⟩ = some (.int .i64 b.prg.size.e) := qb6.cell 3 rfl
  have x5 : w6.cell? ⟨w4.heap.size, 5, none⟩ = some (.int .i64 b.at_) := qb6.cell 5 rfl
  have x6 : w6.cell? ⟨w4.heap.size, 6, none⟩ = some (.int .i64 b.err) := qb6.cell 6 rfl
  have y0 : w6.cell? ⟨w.heap.size + 1 + 1, 0, none⟩ = some (.int .i64 0) := qr6.cell 0 rfl
  have v0 := qr6.frozen 0
  have y1 : w6.cell? ⟨w.heap.size + 1 + 1, 1, none⟩ = some (.int .i64 0) := qr6.cell 1 rfl
  have v1 := qr6.frozen 1
  have y2 : w6.cell? ⟨w.heap.size + 1 + 1, 2, none⟩ = some (.int .i64 0) := qr6.cell 2 rfl
  have v2 := qr6.frozen 2
  have y3 : w6.cell? ⟨w.heap.size + 1 + 1, 3, none⟩ = some (.int .i64 0) := qr6.cell 3 rfl
  have v3 := qr6.frozen 3
  have y4 : w6.cell? ⟨w.heap.size + 1 + 1, 4, none⟩ = some (.slice none 0 0) := qr6.cell 4 rfl
  have v4 := qr6.frozen 4
  have y5 : w6.cell? ⟨w.heap.size + 1 + 1, 5, none⟩ = some (.int .i64 0) := qr6.cell 5 rfl
  have v5 := qr6.frozen 5
  have y6 : w6.cell? ⟨w.heap.size + 1 + 1, 6, none⟩ = some (.int .i64 0) := qr6.cell 6 rfl
  have v6 := qr6.frozen 6
  have n1 : w4.heap.size ≠ w.heap.size + 1 + 1 := by omega
  have n2 : ¬ w.heap.size + 1 + 1 = w4.heap.size := by omega
  have n3 : ¬ w4.heap.size = w.heap.size + 1 + 1 := by omega
  go_wp2_with fail
  have hsz12 := f04.size
  have fR := ((((((((Fr.refl [w4.heap.size, w.heap.size + 1 + 1] w6).set (n := w4.heap.size) (i := 4) (v := .slice a2 b.prg.code.length c2) (by simp)).set (n := w.heap.size + 1 + 1) (i := 0) (v := .int .i64 b.prg.size.i) (by simp)).set (n := w.heap.size + 1 + 1) (i := 1) (v := .int .i64 b.prg.size.q) (by simp)).set (n := w.heap.size + 1 + 1) (i := 2) (v := .int .i64 b.prg.size.m) (by simp)).set (n := w.heap.size + 1 + 1) (i := 3) (v := .int .i64 b.prg.size.e) (by simp)).set (n := w.heap.size + 1 + 1) (i := 4) (v := .slice a2 b.prg.code.length c2) (by simp)).set (n := w.heap.size + 1 + 1) (i := 5) (v := .int .i64 b.at_) (by simp)).set (n := w.heap.size + 1 + 1) (i := 6) (v := .int .i64 b.err) (by simp)
  have qF := blk_set7 (qr6.set_other (a := ⟨w4.heap.size, 4, none⟩) n1 (.slice a2 b.prg.code.length c2)) (.int .i64 b.prg.size.i) (.int .i64 b.prg.size.q) (.int .i64 b.prg.size.m) (.int .i64 b.prg.size.e) (.slice a2 b.prg.code.length c2) (.int .i64 b.at_) (.int .i64 b.err)
  generalize ((((((((w6.setCell ⟨w4.heap.size, 4, none⟩ (.slice a2 b.prg.code.length c2)).setCell ⟨w.heap.size + 1 + 1, 0, none⟩ (.int .i64 b.prg.size.i)).setCell ⟨w.heap.size + 1 + 1, 1, none⟩ (.int .i64 b.prg.size.q)).setCell ⟨w.heap.size + 1 + 1, 2, none⟩ (.int .i64 b.prg.size.m)).setCell ⟨w.heap.size + 1 + 1, 3, none⟩ (.int .i64 b.prg.size.e)).setCell ⟨w.heap.size + 1 + 1, 4, none⟩ (.slice a2 b.prg.code.length c2)).setCell ⟨w.heap.size + 1 + 1, 5, none⟩ (.int .i64 b.at_)).setCell ⟨w.heap.size + 1 + 1, 6, none⟩ (.int .i64 b.err)) = W at *
  have r0 : W.cell? ⟨w.heap.size + 1 + 1, 0, none⟩ = some (.int .i64 b.prg.size.i) := qF.cell 0 rfl
  have r1 : W.cell? ⟨w.heap.size + 1 + 1, 1, none⟩ = some (.int .i64 b.prg.size.q) := qF.cell 1 rfl
  have r2 : W.cell? ⟨w.heap.size + 1 + 1, 2, none⟩ = some (.int .i64 b.prg.size.m) := qF.cell 2 rfl
  have r3 : W.cell? ⟨w.heap.size + 1 + 1, 3, none⟩ = some (.int .i64 b.prg.size.e) := qF.cell 3 rfl
  have r4 : W.cell? ⟨w.heap.size + 1 + 1, 4, none⟩ = some (.slice a2 b.prg.code.length c2) := qF.cell 4 rfl
  have r5 : W.cell? ⟨w.heap.size + 1 + 1, 5, none⟩ = some (.int .i64 b.at_) := qF.cell 5 rfl
  have r6 : W.cell? ⟨w.heap.size + 1 + 1, 6, none⟩ = some (.int .i64 b.err) := qF.cell 6 rfl
  have fA : Fr [w4.heap.size, w.heap.size + 1 + 1] w4 W := (Fr.of_bel _ HB.out).trans fR
  have h23 := qx4.lt
  refine bodyPost_ret (v := .tuple #[.agg #[.int .i64 b.prg.size.i, .int .i64 b.prg.size.q, .int .i64 b.prg.size.m, .int .i64 b.prg.size.e, .slice a2 b.prg.code.length c2, .int .i64 b.at_, .int .i64 b.err], .int .i64 0]) (by simp [results, Tryz.results24, go_sem, r0, r1, r2, r3, r4, r5, r6]) rfl ⟨_, rfl, fA.blk hC4 (by simp; omega), (HX.out.to fR.size (fun k k1 k2 _ => fR.block k k2 (by simp; omega)) (by simp)).younger (by omega) (by simp), f04.young fA (by simp; omega)⟩
end Go.Proofs.YtbgilebgdbgddaaGreatDoor
