/- The keyword table -/
import Derived.Test.YtbgilebgdbgddaaGreatDoorPct
import Derived.Laws.IdiomRangeMap
set_option linter.unusedVariables false
set_option linter.unusedSimpArgs false
namespace Go.Proofs.YtbgilebgdbgddaaGreatDoor
open Go.RowKit
def wordV (Bp : Nat) (lo hi : Int) (sz inn : Bool) (f : Nat) : Value := .agg #[.int .i64 lo, .int .i64 hi, .bool sz, .bool inn, .func (.func f) #[.pointer (some ⟨Bp, 0, none⟩)] #[]]
def wordL (Bp : Nat) : List (ByteArray × Value) :=
  [(⟨#[115, 105, 122, 101]⟩, wordV Bp 4 4 false false 203),
   (⟨#[114, 117, 110, 103]⟩, wordV Bp 1 2 true false 204),
   (⟨#[106, 117, 109, 112]⟩, wordV Bp 2 2 true true 205),
   (⟨#[110, 111]⟩, wordV Bp 4 4 true true 206),
   (⟨#[110, 99]⟩, wordV Bp 4 4 true true 206),
   (⟨#[117, 112]⟩, wordV Bp 4 4 true true 206),
   (⟨#[100, 111, 119, 110]⟩, wordV Bp 4 4 true true 206),
   (⟨#[111, 117, 116]⟩, wordV Bp 2 2 true true 207),
   (⟨#[110, 111, 116]⟩, wordV Bp 2 2 true true 207),
   (⟨#[115, 101, 116]⟩, wordV Bp 2 2 true true 207),
   (⟨#[114, 101, 115, 101, 116]⟩, wordV Bp 2 2 true true 207)]
theorem und276 : Tryz.prog.underlying 276 = some (.map 9 306) := by kernel_rfl
theorem row_load {w : World} {b : Nat} {a0 a1 a2 a3 : Value} (h : ∀ j u, ([a0, a1, a2, a3] : List Value)[j]? = some u → w.cell? ⟨b, j, none⟩ = some u) : w.cell? ⟨b, 0, none⟩ = some a0 ∧ w.cell? ⟨b, 1, none⟩ = some a1 ∧ w.cell? ⟨b, 2, none⟩ = some a2 ∧ w.cell? ⟨b, 3, none⟩ = some a3 := ⟨h 0 _ rfl, h 1 _ rfl, h 2 _ rfl, h 3 _ rfl⟩
set_option maxRecDepth 100000 in
set_option maxHeartbeats 4000000 in
theorem words172 (Bp : Nat) (w : World) (henv : Env w) :
    Calls Tryz.prog 172 #[.pointer (some ⟨Bp, 0, none⟩)] w fun e w' => ∃ b, e = .returned (.map (some b)) ∧ w.heap.size ≤ b ∧ MapAt Value.string w' b (wordL Bp) ∧ Bel w w' := by
  have hmm := @run_makeMap Tryz.prog
  have hm0 : MapAt Value.string (w.alloc (.map #[] 0)) w.heap.size [] := MapAt.made w
  have hb0 : Bel w (w.alloc (.map #[] 0)) := (Bel.refl w).alloc _
  obtain ⟨w1, hr1, hm1, hg1⟩ := run_put strKey und276 hm0 ⟨#[115, 105, 122, 101]⟩ (.agg #[.int .i64 4, .int .i64 4, .bool false, .bool false, .func (.func 203) #[.pointer (some ⟨Bp, 0, none⟩)] #[]])
  have hb1 : Bel w w1 := grown_bel hb0 hg1 (Nat.le_refl _)
  obtain ⟨w2, hr2, hm2, hg2⟩ := run_put strKey und276 hm1 ⟨#[114, 117, 110, 103]⟩ (.agg #[.int .i64 1, .int .i64 2, .bool true, .bool false, .func (.func 204) #[.pointer (some ⟨Bp, 0, none⟩)] #[]])
  have hb2 : Bel w w2 := grown_bel hb1 hg2 (Nat.le_refl _)
  obtain ⟨w3, hr3, hm3, hg3⟩ := run_put strKey und276 hm2 ⟨#[106, 117, 109, 112]⟩ (.agg #[.int .i64 2, .int .i64 2, .bool true, .bool true, .func (.func 205) #[.pointer (some ⟨Bp, 0, none⟩)] #[]])
  have hb3 : Bel w w3 := grown_bel hb2 hg3 (Nat.le_refl _)
  obtain ⟨w4, hr4, hm4, hg4⟩ := run_put strKey und276 hm3 ⟨#[110, 111]⟩ (.agg #[.int .i64 4, .int .i64 4, .bool true, .bool true, .func (.func 206) #[.pointer (some ⟨Bp, 0, none⟩)] #[]])
  have hb4 : Bel w w4 := grown_bel hb3 hg4 (Nat.le_refl _)
  obtain ⟨w5, hr5, hm5, hg5⟩ := run_put strKey und276 hm4 ⟨#[110, 99]⟩ (.agg #[.int .i64 4, .int .i64 4, .bool true, .bool true, .func (.func 206) #[.pointer (some ⟨Bp, 0, none⟩)] #[]])
  have hb5 : Bel w w5 := grown_bel hb4 hg5 (Nat.le_refl _)
  obtain ⟨w6, hr6, hm6, hg6⟩ := run_put strKey und276 hm5 ⟨#[117, 112]⟩ (.agg #[.int .i64 4, .int .i64 4, .bool true, .bool true, .func (.func 206) #[.pointer (some ⟨Bp, 0, none⟩)] #[]])
  have hb6 : Bel w w6 := grown_bel hb5 hg6 (Nat.le_refl _)
  obtain ⟨w7, hr7, hm7, hg7⟩ := run_put strKey und276 hm6 ⟨#[100, 111, 119, 110]⟩ (.agg #[.int .i64 4, .int .i64 4, .bool true, .bool true, .func (.func 206) #[.pointer (some ⟨Bp, 0, none⟩)] #[]])
  have hb7 : Bel w w7 := grown_bel hb6 hg7 (Nat.le_refl _)
  obtain ⟨w8, hr8, hm8, hg8⟩ := run_put strKey und276 hm7 ⟨#[111, 117, 116]⟩ (.agg #[.int .i64 2, .int .i64 2, .bool true, .bool true, .func (.func 207) #[.pointer (some ⟨Bp, 0, none⟩)] #[]])
  have hb8 : Bel w w8 := grown_bel hb7 hg8 (Nat.le_refl _)
  obtain ⟨w9, hr9, hm9, hg9⟩ := run_put strKey und276 hm8 ⟨#[110, 111, 116]⟩ (.agg #[.int .i64 2, .int .i64 2, .bool true, .bool true, .func (.func 207) #[.pointer (some ⟨Bp, 0, none⟩)] #[]])
  have hb9 : Bel w w9 := grown_bel hb8 hg9 (Nat.le_refl _)
  obtain ⟨w10, hr10, hm10, hg10⟩ := run_put strKey und276 hm9 ⟨#[115, 101, 116]⟩ (.agg #[.int .i64 2, .int .i64 2, .bool true, .bool true, .func (.func 207) #[.pointer (some ⟨Bp, 0, none⟩)] #[]])
  have hb10 : Bel w w10 := grown_bel hb9 hg10 (Nat.le_refl _)
  obtain ⟨w11, hr11, hm11, hg11⟩ := run_put strKey und276 hm10 ⟨#[114, 101, 115, 101, 116]⟩ (.agg #[.int .i64 2, .int .i64 2, .bool true, .bool true, .func (.func 207) #[.pointer (some ⟨Bp, 0, none⟩)] #[]])
  have hb11 : Bel w w11 := grown_bel hb10 hg11 (Nat.le_refl _)
  obtain ⟨c0, c1, c2, c3⟩ := row_load (henv.bel hb3).contacts
  obtain ⟨d0, d1, d2, d3⟩ := row_load (henv.bel hb7).coils
  have hfin : MapAt Value.string w11 w.heap.size (wordL Bp) := hm11
  clear hm0 hb0 hm1 hg1 hm2 hg2 hm3 hg3 hm4 hg4 hm5 hg5 hm6 hg6 hm7 hg7 hm8 hg8 hm9 hg9 hm10 hg10 hm11 hg11 hb1 hb2 hb3 hb4 hb5 hb6 hb7 hb8 hb9 hb10
  have i00 : ∀ w, (Instr.index 205 (.agg #[.string ⟨#[110, 111]⟩, .string ⟨#[110, 99]⟩, .string ⟨#[117, 112]⟩, .string ⟨#[100, 111, 119, 110]⟩]) (.int .i64 0)).run Tryz.prog w = .ok (.string ⟨#[110, 111]⟩) w := fun _ => by kernel_rfl
  have i01 : ∀ w, (Instr.index 205 (.agg #[.string ⟨#[110, 111]⟩, .string ⟨#[110, 99]⟩, .string ⟨#[117, 112]⟩, .string ⟨#[100, 111, 119, 110]⟩]) (.int .i64 1)).run Tryz.prog w = .ok (.string ⟨#[110, 99]⟩) w := fun _ => by kernel_rfl
  have i02 : ∀ w, (Instr.index 205 (.agg #[.string ⟨#[110, 111]⟩, .string ⟨#[110, 99]⟩, .string ⟨#[117, 112]⟩, .string ⟨#[100, 111, 119, 110]⟩]) (.int .i64 2)).run Tryz.prog w = .ok (.string ⟨#[117, 112]⟩) w := fun _ => by kernel_rfl
  have i03 : ∀ w, (Instr.index 205 (.agg #[.string ⟨#[110, 111]⟩, .string ⟨#[110, 99]⟩, .string ⟨#[117, 112]⟩, .string ⟨#[100, 111, 119, 110]⟩]) (.int .i64 3)).run Tryz.prog w = .ok (.string ⟨#[100, 111, 119, 110]⟩) w := fun _ => by kernel_rfl
  have i10 : ∀ w, (Instr.index 205 (.agg #[.string ⟨#[111, 117, 116]⟩, .string ⟨#[110, 111, 116]⟩, .string ⟨#[115, 101, 116]⟩, .string ⟨#[114, 101, 115, 101, 116]⟩]) (.int .i64 0)).run Tryz.prog w = .ok (.string ⟨#[111, 117, 116]⟩) w := fun _ => by kernel_rfl
  have i11 : ∀ w, (Instr.index 205 (.agg #[.string ⟨#[111, 117, 116]⟩, .string ⟨#[110, 111, 116]⟩, .string ⟨#[115, 101, 116]⟩, .string ⟨#[114, 101, 115, 101, 116]⟩]) (.int .i64 1)).run Tryz.prog w = .ok (.string ⟨#[110, 111, 116]⟩) w := fun _ => by kernel_rfl
  have i12 : ∀ w, (Instr.index 205 (.agg #[.string ⟨#[111, 117, 116]⟩, .string ⟨#[110, 111, 116]⟩, .string ⟨#[115, 101, 116]⟩, .string ⟨#[114, 101, 115, 101, 116]⟩]) (.int .i64 2)).run Tryz.prog w = .ok (.string ⟨#[115, 101, 116]⟩) w := fun _ => by kernel_rfl
  have i13 : ∀ w, (Instr.index 205 (.agg #[.string ⟨#[111, 117, 116]⟩, .string ⟨#[110, 111, 116]⟩, .string ⟨#[115, 101, 116]⟩, .string ⟨#[114, 101, 115, 101, 116]⟩]) (.int .i64 3)).run Tryz.prog w = .ok (.string ⟨#[114, 101, 115, 101, 116]⟩) w := fun _ => by kernel_rfl
  go_enter Tryz.func172, Tryz.ntmps172
  go_wp2_with fail
  refine wp_loop_rounds 5 ?_
  iterate 5
    rw [rounds_succ]
    go_wp2_with fail
  refine wp_loop_rounds 5 ?_
  iterate 5
    rw [rounds_succ]
    go_wp2_with fail
  exact bodyPost_ret (v := .map (some w.heap.size)) (by simp [results, Tryz.results172, go_sem]) rfl ⟨_, rfl, Nat.le_refl _, hfin, hb11⟩
end Go.Proofs.YtbgilebgdbgddaaGreatDoor
