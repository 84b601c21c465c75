/- same, Same, Equal at nothing. -/
import Derived.Test.YtbgilebgdbgddaaGreatDoorLks
import Derived.Test.YtbgilebgdbgddaaGreatDoorAlv
set_option linter.unusedVariables false
set_option linter.unusedSimpArgs false
namespace Go.Proofs.YtbgilebgdbgddaaGreatDoor
open Go.RowKit Go.MuLone
theorem equal106_zero (w : World) : Calls Tryz.prog 106 #[.agg #[.int .i64 0, .int .i64 0, .int .i64 0, .int .i64 0, .slice none 0 0], .agg #[.int .i64 0, .int .i64 0, .int .i64 0, .int .i64 0, .slice none 0 0]] w fun e w' => e = .returned (.bool true) ∧ Bel w w' := by
  go_enter Tryz.func106, Tryz.ntmps106
  go_wp2_with fail
  refine wp_loop_rounds 1 ?_
  rw [rounds_succ]
  go_wp2_with fail
  go_ret
  exact ⟨rfl, ((Bel.refl w).alloc _).alloc _⟩
theorem same59_zero (w : World) : Calls Tryz.prog 59 #[.agg #[.int .i64 0, .int .i64 0, .int .i64 0, .int .i64 0, .slice none 0 0, .int .i64 0, .int .i64 0], .agg #[.int .i64 0, .int .i64 0, .int .i64 0, .int .i64 0, .slice none 0 0, .int .i64 0, .int .i64 0]] w fun e w' => e = .returned (.bool true) ∧ Bel w w' := by
  have hq := fun W => equal106_zero W
  go_enter Tryz.func59, Tryz.ntmps59
  go_wp2_with fail
  refine (hq _).mono ?_
  rintro e w' ⟨rfl, hb⟩
  have qa := ((Blk.new w #[.int .i64 0, .int .i64 0, .int .i64 0, .int .i64 0, .slice none 0 0, .int .i64 0, .int .i64 0] 70).alloc (.cells #[.int .i64 0, .int .i64 0, .int .i64 0, .int .i64 0, .slice none 0 0, .int .i64 0, .int .i64 0] 70)).bel hb
  have qb := (Blk.new1 w (.cells #[.int .i64 0, .int .i64 0, .int .i64 0, .int .i64 0, .slice none 0 0, .int .i64 0, .int .i64 0] 70) #[.int .i64 0, .int .i64 0, .int .i64 0, .int .i64 0, .slice none 0 0, .int .i64 0, .int .i64 0] 70).bel hb
  have a5 : w'.cell? ⟨w.heap.size, 5, none⟩ = some (.int .i64 0) := qa.cell 5 rfl
  have a6 : w'.cell? ⟨w.heap.size, 6, none⟩ = some (.int .i64 0) := qa.cell 6 rfl
  have b5 : w'.cell? ⟨w.heap.size + 1, 5, none⟩ = some (.int .i64 0) := qb.cell 5 rfl
  have b6 : w'.cell? ⟨w.heap.size + 1, 6, none⟩ = some (.int .i64 0) := qb.cell 6 rfl
  go_wp2_with fail
  go_ret
  exact ⟨rfl, (((Bel.refl w).alloc _).alloc _).trans hb⟩
theorem same26_zero (w : World) : Calls Tryz.prog 26 #[.agg #[.int .i64 0, .int .i64 0, .int .i64 0, .int .i64 0, .slice none 0 0, .int .i64 0, .int .i64 0], .agg #[.int .i64 0, .int .i64 0, .int .i64 0, .int .i64 0, .slice none 0 0, .int .i64 0, .int .i64 0]] w fun e w' => e = .returned (.bool true) ∧ Bel w w' := by
  have hq := fun W => same59_zero W
  go_enter Tryz.func26, Tryz.ntmps26
  go_wp2_with fail
  refine (hq _).mono ?_
  rintro e w' ⟨rfl, hb⟩
  go_wp2_with fail
  go_ret
  exact ⟨rfl, (((Bel.refl w).alloc _).alloc _).trans hb⟩
end Go.Proofs.YtbgilebgdbgddaaGreatDoor
/- CacheNilAndCapacity: the walk. -/
namespace Go.Proofs.YtbgilebgdbgddaaGreatDoor
open Go.RowKit Go.MuLone
set_option maxRecDepth 100000 in
set_option maxHeartbeats 4000000 in
theorem cap8 (n : Int) (text : ByteArray) (w : World) (hE : Env w) : Calls Tryz.prog 8 #[.int .i64 n, .string text] w fun e w' => e = .returned (.bool true) ∧ Bel w w' := by
  have hg := get24_nil text
  have hga := getall35_nil
  have hs := same26_zero
  have hl := len27_nil; have hb := builds28_nil; have hk := lookups29_nil
  have hal := alive21
  by_cases hn : 1 ≤ n ∧ n ≤ 4096
  · have hnw := fun W => new22 n W hn
    have d1 : decide (n < 1) = false := by simp; omega
    have d2 : decide ((4096 : Int) < n) = false := by simp; omega
    clear hn
    go_enter Tryz.func8, Tryz.ntmps8
    go_wp2_with fail
    refine (hg _).mono ?_
    rintro e w1 ⟨rfl, hb1⟩
    go_wp2_with fail
    have q1 := (Blk.new w1 #[.int .i64 0, .int .i64 0, .int .i64 0, .int .i64 0, .slice none 0 0, .int .i64 0, .int .i64 0] 66).alloc (.cells #[.string text] 9)
    have hb2 : Bel w ((w1.alloc (.cells #[.int .i64 0, .int .i64 0, .int .i64 0, .int .i64 0, .slice none 0 0, .int .i64 0, .int .i64 0] 66)).alloc (.cells #[.string text] 9)) := (hb1.alloc _).alloc _
    generalize ((w1.alloc (.cells #[.int .i64 0, .int .i64 0, .int .i64 0, .int .i64 0, .slice none 0 0, .int .i64 0, .int .i64 0] 66)).alloc (.cells #[.string text] 9)) = X at *
    refine (hga _ _ _ _ X).mono ?_
    rintro e w2 ⟨rfl, hb3⟩
    have q2 := q1.bel hb3
    replace hb2 := hb2.trans hb3
    have x0 : w2.cell? ⟨w1.heap.size, 0, none⟩ = some (.int .i64 0) := q2.cell 0 rfl
    have x1 : w2.cell? ⟨w1.heap.size, 1, none⟩ = some (.int .i64 0) := q2.cell 1 rfl
    have x2 : w2.cell? ⟨w1.heap.size, 2, none⟩ = some (.int .i64 0) := q2.cell 2 rfl
    have x3 : w2.cell? ⟨w1.heap.size, 3, none⟩ = some (.int .i64 0) := q2.cell 3 rfl
    have x4 : w2.cell? ⟨w1.heap.size, 4, none⟩ = some (.slice none 0 0) := q2.cell 4 rfl
    have x5 : w2.cell? ⟨w1.heap.size, 5, none⟩ = some (.int .i64 0) := q2.cell 5 rfl
    have x6 : w2.cell? ⟨w1.heap.size, 6, none⟩ = some (.int .i64 0) := q2.cell 6 rfl
    go_wp2_with fail
    refine (hs _).mono ?_
    rintro e w3 ⟨rfl, hb4⟩
    replace hb2 := hb2.trans hb4
    go_wp2_with fail
    refine (hl _).mono ?_
    rintro e z ⟨rfl, hz⟩
    rw [hz]; clear hz z
    go_wp2_with fail
    refine (hb _).mono ?_
    rintro e z ⟨rfl, hz⟩
    rw [hz]; clear hz z
    go_wp2_with fail
    refine (hk _).mono ?_
    rintro e z ⟨rfl, hz⟩
    rw [hz]; clear hz z
    clear x0 x1 x2 x3 x4 x5 x6 q1 q2 hb3 hb4
    go_wp2_with fail
    refine (hnw _).mono ?_
    rintro e w4 ⟨rfl, hC, hm, hb5⟩
    go_wp2_with fail
    refine (hal _ (hE.bel (hb2.trans hb5))).mono ?_
    rintro e w5 ⟨rfl, hb6⟩
    have hC5 := hC.bel hb6
    have hm5 := hm.bel hb6
    have hb7 := (hb2.trans hb5).trans hb6
    have hsz := (hb2.trans hb5).size
    have hsw := hb2.size
    clear hC hm hb6
    go_wp2_with fail
    refine (len27 _ n _ 0 0 _ w5 hC5 hm5).mono ?_
    rintro e w6 ⟨rfl, hC6, f6⟩
    simp only [List.length_nil]
    have hbF := f6.toBel hb7 (by simp; omega)
    go_wp2_with fail
    go_ret
    exact ⟨rfl, hbF⟩
  · have hnw := fun W => new22_bad n W (by omega)
    by_cases hn1 : n < 1
    · have d1 : decide (n < 1) = true := by simpa using hn1
      clear hn
      go_enter Tryz.func8, Tryz.ntmps8
      go_wp2_with fail
      refine (hg _).mono ?_
      rintro e w1 ⟨rfl, hb1⟩
      go_wp2_with fail
      have q1 := (Blk.new w1 #[.int .i64 0, .int .i64 0, .int .i64 0, .int .i64 0, .slice none 0 0, .int .i64 0, .int .i64 0] 66).alloc (.cells #[.string text] 9)
      have hb2 : Bel w ((w1.alloc (.cells #[.int .i64 0, .int .i64 0, .int .i64 0, .int .i64 0, .slice none 0 0, .int .i64 0, .int .i64 0] 66)).alloc (.cells #[.string text] 9)) := (hb1.alloc _).alloc _
      generalize ((w1.alloc (.cells #[.int .i64 0, .int .i64 0, .int .i64 0, .int .i64 0, .slice none 0 0, .int .i64 0, .int .i64 0] 66)).alloc (.cells #[.string text] 9)) = X at *
      refine (hga _ _ _ _ X).mono ?_
      rintro e w2 ⟨rfl, hb3⟩
      have q2 := q1.bel hb3
      replace hb2 := hb2.trans hb3
      have x0 : w2.cell? ⟨w1.heap.size, 0, none⟩ = some (.int .i64 0) := q2.cell 0 rfl
      have x1 : w2.cell? ⟨w1.heap.size, 1, none⟩ = some (.int .i64 0) := q2.cell 1 rfl
      have x2 : w2.cell? ⟨w1.heap.size, 2, none⟩ = some (.int .i64 0) := q2.cell 2 rfl
      have x3 : w2.cell? ⟨w1.heap.size, 3, none⟩ = some (.int .i64 0) := q2.cell 3 rfl
      have x4 : w2.cell? ⟨w1.heap.size, 4, none⟩ = some (.slice none 0 0) := q2.cell 4 rfl
      have x5 : w2.cell? ⟨w1.heap.size, 5, none⟩ = some (.int .i64 0) := q2.cell 5 rfl
      have x6 : w2.cell? ⟨w1.heap.size, 6, none⟩ = some (.int .i64 0) := q2.cell 6 rfl
      go_wp2_with fail
      refine (hs _).mono ?_
      rintro e w3 ⟨rfl, hb4⟩
      replace hb2 := hb2.trans hb4
      go_wp2_with fail
      refine (hl _).mono ?_
      rintro e z ⟨rfl, hz⟩
      rw [hz]; clear hz z
      go_wp2_with fail
      refine (hb _).mono ?_
      rintro e z ⟨rfl, hz⟩
      rw [hz]; clear hz z
      go_wp2_with fail
      refine (hk _).mono ?_
      rintro e z ⟨rfl, hz⟩
      rw [hz]; clear hz z
      clear x0 x1 x2 x3 x4 x5 x6 q1 q2 hb3 hb4
      go_wp2_with fail
      refine (hnw _).mono ?_
      rintro e z ⟨rfl, hz⟩
      rw [hz]; clear hz z
      go_wp2_with fail
      refine (hal _ (hE.bel hb2)).mono ?_
      rintro e w5 ⟨rfl, hb6⟩
      replace hb2 := hb2.trans hb6
      go_wp2_with fail
      go_ret
      exact ⟨rfl, hb2⟩
    · have d1 : decide (n < 1) = false := by simpa using hn1
      have d2 : decide ((4096 : Int) < n) = true := by simp; omega
      clear hn
      go_enter Tryz.func8, Tryz.ntmps8
      go_wp2_with fail
      refine (hg _).mono ?_
      rintro e w1 ⟨rfl, hb1⟩
      go_wp2_with fail
      have q1 := (Blk.new w1 #[.int .i64 0, .int .i64 0, .int .i64 0, .int .i64 0, .slice none 0 0, .int .i64 0, .int .i64 0] 66).alloc (.cells #[.string text] 9)
      have hb2 : Bel w ((w1.alloc (.cells #[.int .i64 0, .int .i64 0, .int .i64 0, .int .i64 0, .slice none 0 0, .int .i64 0, .int .i64 0] 66)).alloc (.cells #[.string text] 9)) := (hb1.alloc _).alloc _
      generalize ((w1.alloc (.cells #[.int .i64 0, .int .i64 0, .int .i64 0, .int .i64 0, .slice none 0 0, .int .i64 0, .int .i64 0] 66)).alloc (.cells #[.string text] 9)) = X at *
      refine (hga _ _ _ _ X).mono ?_
      rintro e w2 ⟨rfl, hb3⟩
      have q2 := q1.bel hb3
      replace hb2 := hb2.trans hb3
      have x0 : w2.cell? ⟨w1.heap.size, 0, none⟩ = some (.int .i64 0) := q2.cell 0 rfl
      have x1 : w2.cell? ⟨w1.heap.size, 1, none⟩ = some (.int .i64 0) := q2.cell 1 rfl
      have x2 : w2.cell? ⟨w1.heap.size, 2, none⟩ = some (.int .i64 0) := q2.cell 2 rfl
      have x3 : w2.cell? ⟨w1.heap.size, 3, none⟩ = some (.int .i64 0) := q2.cell 3 rfl
      have x4 : w2.cell? ⟨w1.heap.size, 4, none⟩ = some (.slice none 0 0) := q2.cell 4 rfl
      have x5 : w2.cell? ⟨w1.heap.size, 5, none⟩ = some (.int .i64 0) := q2.cell 5 rfl
      have x6 : w2.cell? ⟨w1.heap.size, 6, none⟩ = some (.int .i64 0) := q2.cell 6 rfl
      go_wp2_with fail
      refine (hs _).mono ?_
      rintro e w3 ⟨rfl, hb4⟩
      replace hb2 := hb2.trans hb4
      go_wp2_with fail
      refine (hl _).mono ?_
      rintro e z ⟨rfl, hz⟩
      rw [hz]; clear hz z
      go_wp2_with fail
      refine (hb _).mono ?_
      rintro e z ⟨rfl, hz⟩
      rw [hz]; clear hz z
      go_wp2_with fail
      refine (hk _).mono ?_
      rintro e z ⟨rfl, hz⟩
      rw [hz]; clear hz z
      clear x0 x1 x2 x3 x4 x5 x6 q1 q2 hb3 hb4
      go_wp2_with fail
      refine (hnw _).mono ?_
      rintro e z ⟨rfl, hz⟩
      rw [hz]; clear hz z
      go_wp2_with fail
      refine (hal _ (hE.bel hb2)).mono ?_
      rintro e w5 ⟨rfl, hb6⟩
      replace hb2 := hb2.trans hb6
      go_wp2_with fail
      go_ret
      exact ⟨rfl, hb2⟩
end Go.Proofs.YtbgilebgdbgddaaGreatDoor
