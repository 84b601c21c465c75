/- codegen.Ladder -/
import Derived.Test.YtbgilebgdbgddaaGreatDoorWho
import Derived.Test.YtbgilebgdbgddaaGreatDoorBui
import Derived.Test.YtbgilebgdbgddaaGreatDoorPok
set_option linter.unusedVariables false
set_option linter.unusedSimpArgs false
namespace Go.Proofs.YtbgilebgdbgddaaGreatDoor
open Go.RowKit
set_option maxRecDepth 100000 in
set_option maxHeartbeats 4000000 in
theorem ladder_143 (l : Ladder) (cs : List Value) (w : World) (henv : Env w) (hl : LadderE w l cs) (hok : LadderOk l) (hj : ∀ r ∈ l.rungs, r.jump.size = 0) (hS : ∀ r ∈ l.rungs, sortOk r) :
    Calls Tryz.prog 143 #[.agg cs.toArray] w fun e w' => ∃ a b c d A n k i er, e = .returned (.tuple #[.agg #[.int .i64 a, .int .i64 b, .int .i64 c, .int .i64 d, .slice A n k], .int .i64 i, .int .i64 er]) ∧ Bel w w' ∧ WholeIs l w.heap.size w' (.agg #[.int .i64 a, .int .i64 b, .int .i64 c, .int .i64 d, .slice A n k]) i er := by
  have hwh := fun W (hb : Bel w W) => whole_175 l cs W (henv.bel hb) (LadderE.mono _ _ _ _ hl hb) hok hj hS
  obtain ⟨vr, rfl, hr⟩ := hl
  obtain ⟨ar, cr, rfl, _⟩ := hr.ex
  clear hr
  go_enter Tryz.func143, Tryz.ntmps143
  go_wp2_with fail
  have hB : Bel w ((w.alloc (.cells #[.int .i64 l.i, .int .i64 l.q, .int .i64 l.m, .slice ar l.rungs.length cr] 26)).alloc (.cells #[.int .i64 0, .int .i64 0, .int .i64 0, .int .i64 0, .slice none 0 0] 44)) := ((Bel.refl w).alloc _).alloc _
  have q2 : Blk ((w.alloc (.cells #[.int .i64 l.i, .int .i64 l.q, .int .i64 l.m, .slice ar l.rungs.length cr] 26)).alloc (.cells #[.int .i64 0, .int .i64 0, .int .i64 0, .int .i64 0, .slice none 0 0] 44)) (w.heap.size + 1) #[.int .i64 0, .int .i64 0, .int .i64 0, .int .i64 0, .slice none 0 0] 44 := Blk.new1 w _ _ _
  generalize ((w.alloc (.cells #[.int .i64 l.i, .int .i64 l.q, .int .i64 l.m, .slice ar l.rungs.length cr] 26)).alloc (.cells #[.int .i64 0, .int .i64 0, .int .i64 0, .int .i64 0, .slice none 0 0] 44)) = W at *
  refine (hwh W hB).mono ?_
  rintro en w1 ⟨c, vs, n, er, rfl, hb1, hwi⟩
  obtain ⟨B2, hB2⟩ : ∃ B2, B2 = w.heap.size + 1 := ⟨_, rfl⟩
  rw [← hB2] at q2 ⊢
  have g2 : w.heap.size ≤ B2 := by omega
  clear hB2
  have hBW : B2 < W.heap.size := q2.lt
  have q21 := q2.bel hb1
  have hB1 := hB.trans hb1
  obtain ⟨a, b, c', d, A, m, k, rfl⟩ : ∃ a b c' d A m k, c = .agg #[.int .i64 a, .int .i64 b, .int .i64 c', .int .i64 d, .slice A m k] := by
    unfold WholeIs at hwi
    split at hwi
    · exact ⟨_, _, _, _, _, _, _, hwi.1⟩
    · obtain ⟨_, _, pc, rfl, hpc⟩ := hwi
      obtain ⟨v, rfl, hs⟩ := hpc.here
      obtain ⟨A, cap, rfl, _⟩ := hs.ex
      exact ⟨_, _, _, _, _, _, _, rfl⟩
  have l0 := fun o => (q21.alloc o).cell 0 rfl; have l1 := fun o => (q21.alloc o).cell 1 rfl; have l2 := fun o => (q21.alloc o).cell 2 rfl; have l3 := fun o => (q21.alloc o).cell 3 rfl; have l4 := fun o => (q21.alloc o).cell 4 rfl
  have m0 := fun o => (q21.alloc o).frozen 0; have m1 := fun o => (q21.alloc o).frozen 1; have m2 := fun o => (q21.alloc o).frozen 2; have m3 := fun o => (q21.alloc o).frozen 3; have m4 := fun o => (q21.alloc o).frozen 4
  clear hwh
  go_wp2_with fail
  have hBw : Bel w ((((((w1.alloc (.cells #[.int .i64 a, .int .i64 b, .int .i64 c', .int .i64 d, .slice A m k] 44)).setCell ⟨B2, 0, none⟩ (.int .i64 a)).setCell ⟨B2, 1, none⟩ (.int .i64 b)).setCell ⟨B2, 2, none⟩ (.int .i64 c')).setCell ⟨B2, 3, none⟩ (.int .i64 d)).setCell ⟨B2, 4, none⟩ (.slice A m k)) := (((((hB1.alloc _).setCell (by exact g2) _).setCell (by exact g2) _).setCell (by exact g2) _).setCell (by exact g2) _).setCell (by exact g2) _
  have z6 := (((((q21.alloc (.cells #[.int .i64 a, .int .i64 b, .int .i64 c', .int .i64 d, .slice A m k] 44)).set 0 (.int .i64 a)).set 1 (.int .i64 b)).set 2 (.int .i64 c')).set 3 (.int .i64 d)).set 4 (.slice A m k)
  have hh : ∀ P, Hangs W.heap.size none w1 P → Hangs w.heap.size none ((((((w1.alloc (.cells #[.int .i64 a, .int .i64 b, .int .i64 c', .int .i64 d, .slice A m k] 44)).setCell ⟨B2, 0, none⟩ (.int .i64 a)).setCell ⟨B2, 1, none⟩ (.int .i64 b)).setCell ⟨B2, 2, none⟩ (.int .i64 c')).setCell ⟨B2, 3, none⟩ (.int .i64 d)).setCell ⟨B2, 4, none⟩ (.slice A m k)) P := fun P h => by
    have h1 := h.bel ((Bel.refl w1).alloc (.cells #[.int .i64 a, .int .i64 b, .int .i64 c', .int .i64 d, .slice A m k] 44))
    have h2 := ((((h1.set B2 0 (.int .i64 a) hBW).set B2 1 (.int .i64 b) hBW).set B2 2 (.int .i64 c') hBW).set B2 3 (.int .i64 d) hBW).set B2 4 (.slice A m k) hBW
    exact h2.younger hB.size (fun g hg => by cases hg)
  have hW : WholeIs l w.heap.size ((((((w1.alloc (.cells #[.int .i64 a, .int .i64 b, .int .i64 c', .int .i64 d, .slice A m k] 44)).setCell ⟨B2, 0, none⟩ (.int .i64 a)).setCell ⟨B2, 1, none⟩ (.int .i64 b)).setCell ⟨B2, 2, none⟩ (.int .i64 c')).setCell ⟨B2, 3, none⟩ (.int .i64 d)).setCell ⟨B2, 4, none⟩ (.slice A m k)) (.agg #[.int .i64 a, .int .i64 b, .int .i64 c', .int .i64 d, .slice A m k]) n er := by
    unfold WholeIs at hwi ⊢
    split at hwi
    · first
        | exact hwi
        | (rename_i i hi; rw [hi]; exact hwi)
    · try (rename_i hi; rw [hi])
      obtain ⟨h1, h2, pc, h3, h4⟩ := hwi
      exact ⟨h1, h2, pc, h3, hh _ h4⟩
  generalize ((((((w1.alloc (.cells #[.int .i64 a, .int .i64 b, .int .i64 c', .int .i64 d, .slice A m k] 44)).setCell ⟨B2, 0, none⟩ (.int .i64 a)).setCell ⟨B2, 1, none⟩ (.int .i64 b)).setCell ⟨B2, 2, none⟩ (.int .i64 c')).setCell ⟨B2, 3, none⟩ (.int .i64 d)).setCell ⟨B2, 4, none⟩ (.slice A m k)) = W9 at *
  have y0 := z6.cell 0 rfl; have y1 := z6.cell 1 rfl; have y2 := z6.cell 2 rfl; have y3 := z6.cell 3 rfl; have y4 := z6.cell 4 rfl
  exact bodyPost_ret (v := .tuple #[.agg #[.int .i64 a, .int .i64 b, .int .i64 c', .int .i64 d, .slice A m k], .int .i64 n, .int .i64 er]) (by simp [results, Tryz.results143, go_sem, y0, y1, y2, y3, y4]) rfl ⟨_, _, _, _, _, _, _, _, _, rfl, hBw, hW⟩
end Go.Proofs.YtbgilebgdbgddaaGreatDoor
/- The law's example: a ladder of one contact. -/
namespace Go.Proofs.YtbgilebgdbgddaaGreatDoor
open Go.RowKit
/-- What is compiled, at a ladder without jumps. -/
def compN (l : Ladder) : CRes := match l.rungs.findIdx? badB with
  | some i => ⟨prgN, i, contactsE ((l.rungs.getD i ⟨.empty, [], [], .empty⟩).contacts)⟩
  | none => ⟨⟨⟨l.i, l.q, l.m, slotAt l.rungs⟩, codeOf 0 l.rungs ++ [⟨16, 0, 0, 0⟩]⟩, l.rungs.length, 0⟩
theorem compN_law (l : Ladder) (hok : LadderOk l) (hj : ∀ r ∈ l.rungs, r.jump.size = 0) (hS : ∀ r ∈ l.rungs, sortOk r) : LadLaw l (compN l) := by
  intro cs w hE hl
  refine (ladder_143 l cs w hE hl hok hj hS).mono ?_
  rintro e w' ⟨a, b, c, d, A, n, k, i, er, rfl, hb, hw⟩
  unfold WholeIs at hw
  unfold compN
  cases hf : l.rungs.findIdx? badB with
  | some j =>
    rw [hf] at hw
    obtain ⟨h1, h2, h3⟩ := hw
    simp only [Value.agg.injEq, Array.mk.injEq, List.cons.injEq, and_true, Value.int.injEq, true_and, Value.slice.injEq] at h1
    obtain ⟨rfl, rfl, rfl, rfl, rfl, rfl, rfl⟩ := h1
    subst h2; subst h3
    exact ⟨_, rfl, hb, fun w'' _ => SlAt.nil _ _ _⟩
  | none =>
    rw [hf] at hw
    obtain ⟨h1, h2, pc, hpc, hh⟩ := hw
    subst h1; subst h2
    have hpc' : pc = [.int .i64 a, .int .i64 b, .int .i64 c, .int .i64 d, .slice A n k] := by
      injection hpc with hpc
      have h5 := congrArg Array.toList hpc
      simpa using h5.symm
    subst hpc'
    obtain ⟨v, hv, _⟩ := hh.here
    simp only [List.cons.injEq, and_true, Value.int.injEq, true_and] at hv
    obtain ⟨rfl, rfl, rfl, rfl, rfl⟩ := hv
    refine ⟨_, rfl, hb, fun w'' h'' => ?_⟩
    obtain ⟨v, hv, hs⟩ := hh w'' h''
    simp only [List.cons.injEq, and_true, true_and] at hv
    subst hv
    exact hs
/-- The example's text. -/
def exT : ByteArray := ⟨#[115, 105, 122, 101, 32, 49, 32, 49, 32, 48, 10, 114, 117, 110, 103, 10, 110, 111, 32, 73, 48, 32, 76, 32, 82, 10, 111, 117, 116, 32, 81, 48]⟩
theorem exT_size : exT.size = 32 := rfl
theorem ex_err : (parseF exT).err = 0 := by kernel_rfl
theorem ex_rungs : (parseF exT).lad.rungs = [⟨⟨#[]⟩, [⟨0, 0, 0, ⟨#[76]⟩, ⟨#[82]⟩⟩], [⟨0, 1, 0⟩], ⟨#[]⟩⟩] := by kernel_rfl
theorem ex_red : redOne [⟨0, 0, 0, ⟨#[76]⟩, ⟨#[82]⟩⟩] = some (.node 0 0 []) := by kernel_rfl
theorem ex_comp : (compN (parseF exT).lad).err = 0 := by kernel_rfl
theorem ex_law : CompLaw compN (parseF exT) where
  lad := fun h => by
    refine compN_law _ (parse_ok h) ?_ ?_
    · rw [ex_rungs]
      intro r hr
      rw [List.mem_singleton.1 hr]
      rfl
    · rw [ex_rungs]
      intro r hr
      rw [List.mem_singleton.1 hr]
      refine .inl fun t ht => ?_
      rw [ex_red] at ht
      injection ht with ht
      subst ht
      exact ⟨by decide, fun k hk => by cases hk⟩
  at_ := fun _ h => absurd ex_comp h
theorem ex_bad : (buildF compN exT).err = 0 := by kernel_rfl
theorem ex_code : (buildF compN exT).prg.code.length = 3 := by kernel_rfl
end Go.Proofs.YtbgilebgdbgddaaGreatDoor
