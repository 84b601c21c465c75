/- sync.Mutex, sync.Once and the atomic counters in a run of one goroutine. -/
import Derived.Test.YtbgilebgdbgddaaGreatDoorBas
import Derived.Conc.MuLone
import Derived.Conc.MuData
import Derived.KernelRfl
import Derived.Defers
import Derived.Laws.LoneSync
import Derived.Laws.EntriesVeiled
import Derived.RegionTactic
import Derived.RegionCalls
import Derived.ChangeAlike
set_option linter.unusedVariables false
set_option linter.unusedSimpArgs false
namespace Go.Proofs.YtbgilebgdbgddaaGreatDoor
open Go.RowKit Go.MuLone
abbrev muLink : Go.Conc.Locks.MuLink := { lock := 60, unlock := 61, ilock := 107, iunlock := 108, lockSlow := 152, unlockSlow := 154, disable := 116, enable := 117, acquire := 128, relMerge := 115, cas32 := 151, add32 := 153, tMutex := 140, tIMutex := 138, tPMutex := 215, tPIMutex := 253, tPI32 := 255, tUP := 223, tNoCopy := 135, tU32 := 136 }
theorem muLib : Go.Conc.Locks.MuLib Tryz.prog muLink :=
  ⟨Tryz.func60, Tryz.func61, Tryz.func107, Tryz.func108, Tryz.func116, Tryz.func117, Tryz.func128, Tryz.func115, Tryz.func151, Tryz.func153, Tryz.underlying138, Tryz.runUnderlying138, Tryz.sizeOf138, Tryz.isAgg138, Tryz.zeroValue138, Tryz.underlying140, Tryz.runUnderlying140, Tryz.sizeOf140, Tryz.isAgg140, Tryz.zeroValue140, Tryz.underlying215, Tryz.runUnderlying215, Tryz.sizeOf215, Tryz.isAgg215, Tryz.zeroValue215, Tryz.underlying253, Tryz.runUnderlying253, Tryz.sizeOf253, Tryz.isAgg253, Tryz.zeroValue253, Tryz.underlying255, Tryz.runUnderlying255, Tryz.sizeOf255, Tryz.isAgg255, Tryz.zeroValue255, Tryz.underlying223, Tryz.runUnderlying223, Tryz.sizeOf223, Tryz.isAgg223, Tryz.zeroValue223, Tryz.underlying135, Tryz.runUnderlying135, Tryz.sizeOf135, Tryz.isAgg135, Tryz.zeroValue135, Tryz.underlying21, Tryz.runUnderlying21, Tryz.sizeOf21, Tryz.isAgg21, Tryz.zeroValue21, (by kernel_rfl)⟩
theorem add54 (b o : Nat) (v d : Int) (w : World) (hc : w.cell? ⟨b, o, none⟩ = some (.int .i64 v)) (hz : w.frozen? ⟨b, o, none⟩ = false) (h0 : 0 ≤ v) (h1 : v ≤ 1000000000) (h2 : 0 ≤ d) (h3 : d ≤ 1000000000) :
    Calls Tryz.prog 54 #[.pointer (some ⟨b, o, none⟩), .int .i64 d] w fun e w' => e = .returned (.int .i64 (v + d)) ∧ w' = w.setCell ⟨b, o, none⟩ (.int .i64 (v + d)) := by
  have hw : IntKind.i64.wrap (v + d) = v + d := by simp [IntKind.wrap, IntKind.bits, IntKind.signed]; omega
  have hadd := run_call_add (P := Tryz.prog) Tryz.func103 (by kernel_rfl) (by kernel_rfl) (by kernel_rfl) .i64 (by kernel_rfl) (x := v) (y := d) (s := v + d) hc hz (by simp [Op.intArith, hw])
  clear hw h0 h1 h2 h3
  go_enter Tryz.func54, Tryz.ntmps54
  go_wp2
  go_ret
  exact ⟨rfl, rfl⟩
theorem load62 (b o : Nat) (v : Int) (w : World) (hc : w.cell? ⟨b, o, none⟩ = some (.int .i64 v)) :
    Calls Tryz.prog 62 #[.pointer (some ⟨b, o, none⟩)] w fun e w' => e = .returned (.int .i64 v) ∧ w' = w := by
  have hl := run_call_load (P := Tryz.prog) Tryz.func109 (by kernel_rfl) (by kernel_rfl) (by kernel_rfl) .i64 (by kernel_rfl) hc
  go_enter Tryz.func62, Tryz.ntmps62
  go_wp2
  go_ret
  exact ⟨rfl, rfl⟩
theorem load104 (b o : Nat) (v : Int) (w : World) (hc : w.cell? ⟨b, o, none⟩ = some (.int .u32 v)) :
    Calls Tryz.prog 104 #[.pointer (some ⟨b, o, none⟩)] w fun e w' => e = .returned (.bool (v != 0)) ∧ w' = w := by
  have hl := run_call_load (P := Tryz.prog) Tryz.func149 (by kernel_rfl) (by kernel_rfl) (by kernel_rfl) .u32 (by kernel_rfl) hc
  go_enter Tryz.func104, Tryz.ntmps104
  go_wp2
  go_ret
  exact ⟨rfl, rfl⟩
theorem store_deferred (a : Addr) (x : Value) (u : FrameMode) (w : World) (hc : w.cell? a = some x) (hz : w.frozen? a = false) :
    CallsD Tryz.prog 150 #[.pointer (some a), .bool true] u w fun e u' w' => u' = u ∧ (e = .returned (.tuple #[]) ∧ w' = w.drew.setCell a (.int .u32 1)) := by
  have hc' : w.drew.cell? a = some x := by go_simp
  have hz' : w.drew.frozen? a = false := by go_simp
  have hst := run_call_store (P := Tryz.prog) Tryz.func182 (by kernel_rfl) (by kernel_rfl) (by kernel_rfl) (by kernel_rfl) (k := .u32) (y := 1) hc' hz'
  go_enter_d Tryz.func150, Tryz.ntmps150
  go_wp2
  go_region_calls
  all_goals (go_end0; exact ⟨rfl, rfl⟩)
/-- sync.Once's slow road: f is called under the lock; it keeps the lock's cell and the mark's. -/
theorem slow105 (b : Nat) (fn : Nat) (cap : Array Value) (w : World) (R : World → Prop) (hen : ∀ args w, (callFunc fn args).run Tryz.prog w = .ok (.enter fn args) w)
    (h0 : w.cell? ⟨b, 0, none⟩ = some (.int .u32 0)) (h1 : w.cell? ⟨b, 1, none⟩ = some (.int .i32 0)) (f0 : w.frozen? ⟨b, 0, none⟩ = false) (f1 : w.frozen? ⟨b, 1, none⟩ = false)
    (hf : Calls Tryz.prog fn cap (w.setCell ⟨b, 1, none⟩ (.int .i32 1)) fun e w' => e = .returned (.tuple #[]) ∧ R w')
    (hR : ∀ w', R w' → (∃ x, w'.cell? ⟨b, 0, none⟩ = some x) ∧ w'.cell? ⟨b, 1, none⟩ = some (.int .i32 1) ∧ w'.frozen? ⟨b, 0, none⟩ = false ∧ w'.frozen? ⟨b, 1, none⟩ = false) :
    Calls Tryz.prog 105 #[.pointer (some ⟨b, 0, none⟩), .func (.func fn) #[] cap] w fun e w' => e = .returned (.tuple #[]) ∧ ∃ w2, R w2 ∧ w' = (w2.drew.setCell ⟨b, 0, none⟩ (.int .u32 1)).setCell ⟨b, 1, none⟩ (.int .i32 0) := by
  have hl0 : (w.setCell ⟨b, 1, none⟩ (.int .i32 1)).cell? ⟨b, 0, none⟩ = some (.int .u32 0) := (World.cell?_setCell_other _ ⟨b, 1, none⟩ ⟨b, 0, none⟩ _ (by simp)).trans h0
  have hl := load104 b 0 0 (w.setCell ⟨b, 1, none⟩ (.int .i32 1)) hl0
  have hnot : ∀ (x : Bool) (w : World), (Op.unary .not (.bool x)).run Tryz.prog w = .ok (.bool (!x)) w := fun _ _ => rfl
  have hlk := lock_free muLib ⟨b, 1, none⟩ w h1 f1
  generalize (w.setCell ⟨b, 1, none⟩ (.int .i32 1)) = W1 at *
  clear hl0 h0 f0
  go_enter_defers Tryz.func105, Tryz.ntmps105
  go_wp2_with fail
  refine hlk.mono ?_
  rintro e w' ⟨rfl, rfl⟩
  go_wp2_with fail
  refine hl.mono ?_
  rintro e w' ⟨rfl, rfl⟩
  go_wp2_with fail
  refine hf.mono ?_
  rintro e w2 ⟨rfl, hr⟩
  obtain ⟨⟨x, c0⟩, c1, z0, z1⟩ := hR w2 hr
  go_wp2_with fail
  refine leaves_cons (f := 150) (args := #[.pointer (some ⟨b, 0, none⟩), .bool true]) (by simp) (by simp [go_sem]) ?_
  refine (store_deferred ⟨b, 0, none⟩ x .returning w2 c0 z0).mono ?_
  rintro e u' w'' ⟨rfl, rfl, rfl⟩
  refine leaves_cons (f := 61) (args := #[.pointer (some ⟨b, 1, none⟩)]) (by simp [settle]) (by simp [go_sem]) ?_
  refine (unlock_deferred muLib ⟨b, 1, none⟩ _ _ ?_ (by simp [z1])).mono ?_
  · refine (World.cell?_setCell_other _ ⟨b, 0, none⟩ ⟨b, 1, none⟩ _ (by simp)).trans ?_
    rw [World.cell?_drew]
    exact c1
  rintro e u' w'' ⟨rfl, rfl, rfl⟩
  exact ⟨_, results_none rfl _ _ _, rfl, w2, hr, rfl⟩
/-- sync.Once.Do, not yet done. -/
theorem do_first (b : Nat) (fn : Nat) (cap : Array Value) (w : World) (R : World → Prop) (hen : ∀ args w, (callFunc fn args).run Tryz.prog w = .ok (.enter fn args) w)
    (h0 : w.cell? ⟨b, 0, none⟩ = some (.int .u32 0)) (h1 : w.cell? ⟨b, 1, none⟩ = some (.int .i32 0)) (f0 : w.frozen? ⟨b, 0, none⟩ = false) (f1 : w.frozen? ⟨b, 1, none⟩ = false)
    (hf : Calls Tryz.prog fn cap (w.setCell ⟨b, 1, none⟩ (.int .i32 1)) fun e w' => e = .returned (.tuple #[]) ∧ R w')
    (hR : ∀ w', R w' → (∃ x, w'.cell? ⟨b, 0, none⟩ = some x) ∧ w'.cell? ⟨b, 1, none⟩ = some (.int .i32 1) ∧ w'.frozen? ⟨b, 0, none⟩ = false ∧ w'.frozen? ⟨b, 1, none⟩ = false) :
    Calls Tryz.prog 56 #[.pointer (some ⟨b, 0, none⟩), .func (.func fn) #[] cap] w fun e w' => e = .returned (.tuple #[]) ∧ ∃ w2, R w2 ∧ w' = (w2.drew.setCell ⟨b, 0, none⟩ (.int .u32 1)).setCell ⟨b, 1, none⟩ (.int .i32 0) := by
  have hl := load104 b 0 0 w h0
  have hs := slow105 b fn cap w R hen h0 h1 f0 f1 hf hR
  have hnot : ∀ (x : Bool) (w : World), (Op.unary .not (.bool x)).run Tryz.prog w = .ok (.bool (!x)) w := fun _ _ => rfl
  clear hf hR h0 h1
  go_enter Tryz.func56, Tryz.ntmps56
  go_wp2_with fail
  refine hl.mono ?_
  rintro e w' ⟨rfl, rfl⟩
  go_wp2_with fail
  refine hs.mono ?_
  rintro e w' ⟨rfl, h⟩
  go_wp2_with fail
  go_end0
  exact ⟨rfl, h⟩
theorem do_done (b : Nat) (fv : Value) (w : World) (h0 : w.cell? ⟨b, 0, none⟩ = some (.int .u32 1)) :
    Calls Tryz.prog 56 #[.pointer (some ⟨b, 0, none⟩), fv] w fun e w' => e = .returned (.tuple #[]) ∧ w' = w := by
  have hl := load104 b 0 1 w h0
  have hnot : ∀ (x : Bool) (w : World), (Op.unary .not (.bool x)).run Tryz.prog w = .ok (.bool (!x)) w := fun _ _ => rfl
  go_enter Tryz.func56, Tryz.ntmps56
  go_wp2_with fail
  refine hl.mono ?_
  rintro e w' ⟨rfl, rfl⟩
  go_wp2_with fail
  go_end0
  exact ⟨rfl, rfl⟩
end Go.Proofs.YtbgilebgdbgddaaGreatDoor
