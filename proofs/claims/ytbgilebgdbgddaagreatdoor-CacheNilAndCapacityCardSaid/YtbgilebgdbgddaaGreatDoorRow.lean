/- CacheNilAndCapacity: the row, lifted from the walk. -/
import Derived.Test.YtbgilebgdbgddaaGreatDoorSam
import Derived.Test.YtbgilebgdbgddaaGreatDoorEnv
import Derived.Conc.HoldsTime
import Derived.Conc.LeavingOf
import Derived.Leaving
import Derived.Lay
import Derived.LaidMore
import Derived.Stop.Joined
import Derived.Deep.DeepHandedRow
set_option linter.unusedVariables false
set_option linter.unusedSimpArgs false
namespace Go.Proofs.YtbgilebgdbgddaaGreatDoor
open Go.ChangeShapes Go.WideShapes Go.ChangeAt Go.RowKit Go.Conc
theorem runs_of_calls {P : Program} {f : FuncId} {args : Array Value} {W : World} {R : Value → World → Prop} (hi : P.inits.idxOf? f = none) (h : Calls P f args W fun | .returned v, w' => R v w' | _, _ => False) :
    ∃ M last o w' t', runNT P (M + 1) (solo (G (Frame.enter P f args .normal) []) W) #[] = (.ended o w', t') ∧ runN P M (solo (G (Frame.enter P f args .normal) []) W) = .next last ∧ step P last = .ended o w' ∧ Conc.Good P R last o w' t' := by
  obtain ⟨n, v, w', fr, hn, hend, hp⟩ := h.done_lone hi
  have hal := alone_of_lone (w' := w') hn
  have hrace : ∀ said, ¬ Race said (runNT P (n + 1) (lone (Frame.enter P f args .normal) [] W) #[]).2 := fun said => (no_race_of_lone P n _ _ hn (by simp [lone]) rfl).2
  exact ⟨n, _, .done v, w', (runNT P (n + 1) (lone (Frame.enter P f args .normal) [] W) #[]).2, Prod.ext (by rw [runNT_fst]; exact hend) rfl, hn, step_of_runs hn hend, v, rfl, hp, hrace, hal.2.1, onlyLeaving_of_quiet hal.1, hal.2.2⟩
section
variable {H : Type} {enc : TypeId × Value → H}
/-- From a contract over one goroutine to the leaving row that may pass the time. -/
theorem leaving_row {a : Assume} {C : Checked} {os : Os} {f : FuncId} {fn : Func} {s : ChangeSpec} {F : Stop.Interp} {conds : List PathCond} {apart fresh handsOn : Bool} {laid : List (String × DataW Unit)}
    (own : ownKnob C.prog.godebug = none) (started : os.Started) (noInit : C.prog.inits.idxOf? f = none) (hfn : C.prog.funcs[f]? = some fn)
    (witness : ∃ (w : World) (tape : Tape) (i : Input), w.os = os ∧ (w.forCall tape i).Shaped C.prog ∧ i.vars = [] ∧ Input.okWide C.prog (w.forCall tape i) .any w.heap.size f i ∧
      (OpenSpec.ofChange s).preRow enc C.prog fn conds apart laid (w.forCall tape i).memory i.args ∧ a.holds C.prog (lone (Frame.enter C.prog f i.args .normal) [] (w.forCall tape i)))
    (contract : ∀ (W : World) (base : Nat) (args : Array Value) (ds gs : List (DataW H)) (before : List MemPlace),
      (∀ (j : Nat) t v, fn.params[j]? = some t → args[j]? = some v → Value.okWide C.prog W .any base t v) →
      DataW.Whole enc C.prog fn.params.toList s.vars apart W args.toList ds gs before →
      laidMetH C.prog laid W →
      W.ShapedOpen C.prog →
      Calls C.prog f args W fun e W' => ∃ v, e = .returned v ∧ W'.os = W.os ∧ s.post enc C.prog fn apart fresh handsOn false W args v W') :
    ReturnsInLeavingWide a C os f .any ((OpenSpec.ofChange s).preRow enc C.prog fn conds apart laid) ((OpenSpec.ofChange s).postWith enc C.prog fn F (outsideKept [.timePasses]) apart fresh handsOn) := by
  refine returnsInLeavingWide_of_good own started witness ?_
  intro w tape i _ hsh _ hok hpre hholds
  obtain ⟨_, _, _, fn', hfn', _, _, _, _, hval⟩ := hok
  have e : fn' = fn := Option.some.inj (hfn'.symm.trans hfn)
  subst e
  obtain ⟨⟨hp, hl⟩, hz⟩ := hpre
  obtain ⟨ds, gs, before, hw, hc, hk⟩ := OpenSpec.pre_parts hp
  have hw' := DataW.Whole.of_heap (w' := w.forCall tape i) (by rfl) hw
  have hcl := contract (w.forCall tape i) w.heap.size i.args ds gs before hval hw' (hl.of_heap (by rfl)) hsh
  refine runs_of_calls noInit (hcl.mono fun e W' ⟨v, he, ho, hp⟩ => ?_)
  subst he
  have e1 : ({ W' with os := (w.forCall tape i).os } : World) = W' := by
    rw [← ho]
  exact postWith_blind (postWith_of_post (by rw [e1]; exact hp) (by rw [ho]; exact ConcM.OsLater.refl _))
end
theorem ownT : ownKnob Tryz.prog.godebug = none := by kernel_rfl
noncomputable def capW (os : Os) : World := World.laidAll Tryz.prog os CapL
def capA : Array Value := #[.int .i64 0, .string ⟨#[]⟩]
theorem cap_met (os : Os) : laidMet Tryz.prog CapL ((capW os).forCall (fun _ _ => 0) ⟨#[], capA, []⟩).memory := laidMet_laidAll _ (by kernel_rfl) (by kernel_rfl)
theorem cap_shaped (os : Os) : ((capW os).forCall (fun _ _ => 0) ⟨#[], capA, []⟩).Shaped Tryz.prog := World.shaped_of_ZipB (by kernel_rfl) (by kernel_rfl)
theorem cap_reads (os : Os) {H : Type} (enc : TypeId × Value → H) : ∃ places, DataW.whole enc Tryz.prog ((capW os).forCall (fun _ _ => 0) ⟨#[], capA, []⟩).memory Tryz.f8.params.toList Rows.cacheNilAndCapacitySpec.vars false capA.toList 8 = some ([.lit (.int .i64 0), .lit (.string [])], [], places) :=
  ⟨[], by kernel_rfl⟩
theorem cap_okB (os : Os) : Input.okWideB Tryz.prog ((capW os).forCall (fun _ _ => 0) ⟨#[], capA, []⟩) 8 ⟨#[], capA, []⟩ = true := by kernel_rfl
theorem cap_row (os : Os) {H : Type} (enc : TypeId × Value → H) : (OpenSpec.ofChange Rows.cacheNilAndCapacitySpec).preRow enc Tryz.prog Tryz.f8 [] false CapL ((capW os).forCall (fun _ _ => 0) ⟨#[], capA, []⟩).memory capA := by
  obtain ⟨places, hx⟩ := cap_reads os enc
  refine OpenSpec.preRow_of_cond 8 hx (by kernel_rfl) (fun k hk => by cases hk) (by kernel_rfl) ?_
  rw [MakeChecks.laidMetH_plain _ _ _ capl_plain]
  exact cap_met os
theorem params8 : Tryz.f8.params = #[3, 9] := by kernel_rfl
end Go.Proofs.YtbgilebgdbgddaaGreatDoor
