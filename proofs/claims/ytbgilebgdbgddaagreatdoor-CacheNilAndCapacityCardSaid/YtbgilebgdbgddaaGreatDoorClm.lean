/- busbarlaw21.CacheNilAndCapacity returns true for every n and every text, and its arguments read as they read before: on every schedule, in calm company, where the listed variables hold what the program's text lays. -/
import Derived.Test.YtbgilebgdbgddaaGreatDoorRow
import Derived.Test.YtbgilebgdbgddaaGreatDoorFac
import Derived.Test.YtbgilebgdbgddaaGreatDoorCards
import Derived.Test.YtbgilebgdbgddaaGreatDoorTie
import Derived.SevenTiedAt
import Derived.ChangeMaps5
import Derived.SevenTold
set_option linter.unusedVariables false
set_option linter.unusedSimpArgs false
namespace Go.Proofs.YtbgilebgdbgddaaGreatDoor
open Go.ChangeShapes Go.WideShapes Go.ChangeAt Go.RowKit Go.Conc Go.ChangeMaps
theorem kept_of_bel {W W' : World} (hb : Bel W W') (may : MemPlace → Prop) : W.keptBut W' may := by
  refine ⟨hb.os, hb.output, fun i hi => ?_⟩
  rw [hb.block i hi]
  split
  · rename_i h1 h2
    rw [h1] at h2
    simp only [Option.some.injEq, Obj.cells.injEq] at h2
    obtain ⟨rfl, rfl, rfl⟩ := h2
    exact ⟨rfl, rfl, rfl, fun _ _ => rfl⟩
  · rename_i h1 h2
    rw [h1] at h2
    simp only [Option.some.injEq, Obj.map.injEq] at h2
    obtain ⟨rfl, rfl⟩ := h2
    exact .inr ⟨rfl, rfl⟩
  · rfl
theorem frozen_of_bel {W W' : World} (hb : Bel W W') (a : Addr) (ha : a.block < W.heap.size) : W'.frozen? a = W.frozen? a := by
  unfold World.frozen?
  rw [hb.block _ ha]
theorem post_bel {H : Type} {enc : TypeId × Value → H} {P : Program} {f : Func} {s : ChangeSpec} {apart fresh handsOn again : Bool} {W W' : World} {args : Array Value} {v : Value} {ds gs : List (DataW H)} {before pa pv : List MemPlace}
    (hW : DataW.Whole enc P f.params.toList s.vars apart W args.toList ds gs before)
    (hres : ∀ (b : Nat) (sp : Nat → Bool) (hd : Bool), DataW.TrodAll enc P W' b sp hd f.resultTypes.toList (v.resultList f.resultTypes.size) (s.fn H (ds ++ gs)).results [])
    (hargs : ∀ sp : Nat → Bool, (∀ p ∈ before, sp p.block = true) → DataW.TrodAll enc P W' 0 sp true f.params.toList args.toList (s.fn H (ds ++ gs)).args pa)
    (hvars : ∀ sp : Nat → Bool, (∀ p ∈ before, sp p.block = true) → DataW.TrodVars enc P W' sp s.vars (s.fn H (ds ++ gs)).vars pv)
    (hps : before = pa ++ pv) (hb : Bel W W')
    (hok : ∀ (j : Nat) (t : TypeId) (r : Value), f.resultTypes[j]? = some t → (v.resultList f.resultTypes.size)[j]? = some r → Value.okWide P W' .any 0 t r) :
    s.post enc P f apart fresh handsOn again W args v W' := by
  have hold : ∀ p ∈ before, (fun b => decide (b < W.heap.size)) p.block = true := fun p hp => by simpa using hW.lt p hp
  have hlt := hW.lt
  refine ⟨ds, gs, before, [], pa, pv, hW, hres _ _ _, hargs _ hold, hvars _ hold, World.keptBut_mono (fun p hp => ⟨hp, ?_⟩) (kept_of_bel hb (· ∈ before)), fun _ => ?_⟩
  · rw [hps, List.mem_append] at hp
    exact Or.inr hp
  · obtain ⟨_, _, _, _, _, hz, hn⟩ := hW
    refine ⟨hok, _, _, ([] ++ pa) ++ pv, ⟨[] ++ pa, pv, trodAll_append (hargs _ (fun _ _ => rfl)) (hres _ _ _), hvars _ (fun _ _ => rfl), rfl, ?_, ?_⟩, ?_⟩
    · intro b off hp
      have hp' : MemPlace.cell b off ∈ before := by rw [hps]; simpa using hp
      rw [frozen_of_bel hb _ (hlt _ hp')]
      exact hz b off hp'
    · intro ha
      have := hn ha
      rw [hps] at this
      simpa using this
    · intro p hp _
      rw [hps]
      simpa using hp
set_option maxRecDepth 100000 in
theorem lifted (os : Os) (started : os.Started) (H : Type) (enc : TypeId × Value → H) (F : Stop.Interp) :
    ReturnsInLeavingWide { calm := true } Tryz.checked os 8 .any ((OpenSpec.ofChange Rows.cacheNilAndCapacitySpec).preRow enc Tryz.prog Tryz.f8 [] false CapL) ((OpenSpec.ofChange Rows.cacheNilAndCapacitySpec).postWith enc Tryz.prog Tryz.f8 F (outsideKept [.timePasses]) false true false) := by
  refine leaving_row (C := Tryz.checked) ownT started (by kernel_rfl) Tryz.func8
    ⟨capW os, fun _ _ => 0, ⟨#[], capA, []⟩, World.laidAll_os _ _ _, cap_shaped os, rfl, (Input.okWide_of_okWideB (base := (capW os).heap.size) (cap_okB os)).2, cap_row os enc, by
      simp only [Assume.holds]
      exact ⟨by simp, fun _ _ _ _ => rfl, by simp, by simp, by simp⟩⟩ ?_
  intro W base args ds gs before hval0 hW hL hsh
  have hval : ∀ (j : Nat) t v, Tryz.f8.params[j]? = some t → args[j]? = some v → Value.okWide Tryz.prog W .any base t v := hval0
  have hW' := hW
  obtain ⟨p, q, hA0, hV, rfl, hfz, hnd⟩ := hW
  have hA : DataW.TrodAll enc Tryz.prog W 0 (fun _ => true) true Tryz.f8.params.toList args.toList ds p := hA0
  rw [params8] at hA hval
  obtain ⟨v0, v1, d0, d1, p0, p1, rfl, rfl, rfl, h0, h1⟩ := trodAll_two hA
  obtain ⟨rfl, rfl⟩ := trodVars_none hV
  obtain ⟨n, rfl, rfl, rfl, wn⟩ := open_int Tryz.underlying3 (hval 0 3 v0 rfl rfl) h0
  obtain ⟨t, rfl, rfl, rfl, wt⟩ := open_string Tryz.underlying9 (hval 1 9 v1 rfl rfl) h1
  clear hA0 hval0
  simp only [List.append_nil] at hW'
  refine (cap8 n t W (env_of hL hsh)).mono fun e W' ⟨he, hb⟩ => ?_
  subst he
  exact ⟨_, rfl, hb.os, post_bel (pa := []) (pv := []) hW' (fun _ _ _ => trodAll_mk1 (shut_bool Tryz.underlying4 _)) (fun sp _ => trodAll_mk2 (shut_int Tryz.underlying3 wn) (shut_string Tryz.underlying9 wt)) (fun _ _ => rfl) rfl hb (ok_one (by kernel_rfl) rfl (okWide_bool_mk Tryz.underlying4 _))⟩
theorem said : Rows.CacheNilAndCapacitySaid :=
  OpenClaim.holds_of_wide_leaving_time 8 Tryz.f8 rfl rfl rfl rfl rfl rfl rfl ⟨rfl, rfl, rfl, rfl, rfl⟩ rfl rfl rfl rfl rfl (by kernel_rfl) Tryz.func8 cap_closed
    (of_decide_eq_true (by kernel_rfl)) (by unfold Func.isWrapper; first | (rw [if_pos (by decide +kernel)]; kernel_rfl) | (rw [if_neg (by decide +kernel)]; exact ⟨rfl, rfl⟩))
    (fun os started H enc _ F => by rw [OpenClaim.pre_eq_preRow]; exact lifted os started H enc F)
/-- The tied card's builder, with the cell 'goes'. -/
theorem holds_tied_goes (Lk : Looks) {p : Pinned} {s : OpenSpec} {c : OpenClaim} (al : List (List PathCond)) (kinds : List LaidKind) (tests : Bool) (har : Bool × String) (lk g : Bool)
    (hc : c.holds p s) (hal : ∀ D ∈ al, (c.withDomain D).holds p s) (hw : c.wfByText s = true) (hwal : ∀ D ∈ al, (c.withDomain D).wfByText s = true)
    (htie : c.laidByTextAt Lk p kinds tests)
    (hst : c.start = .entering) (hnb : c.noBlocks = false ∧ c.again = false) (hm : p.checked.prog.mainIs = some (har.1, har.2.toList)) (hn : (!har.1 && har.2.isEmpty && !lk) = false)
    (hl : ∀ f fn, p.checked.prog.funcNamed c.func = some f → p.checked.prog.funcs[f]? = some fn → lk = p.checked.prog.looks [] ∧ ∀ (j : Nat) t, fn.params[j]? = some t → p.checked.prog.wantsStandIn t = false)
    (hg : g = c.goesBy p.checked.prog) :
    Claim7.holds p (.plain s) { stood := { row := c, standIns := [], harness := har, looks := lk }, kinds := [], alts := al, goes := g, laidByText := true, laidKinds := kinds, laidTests := tests, laidLooks := Lk } := by
  have h6 : ∀ r : OpenClaim, Claim7.isSixth { stood := { row := r, standIns := [], harness := har, looks := lk }, kinds := [] } = false := fun r => by simpa [Claim7.isSixth] using hn
  refine ⟨Claim7.tied_new_at Lk kinds tests (Claim7.new_of_sixth hc har lk hst hnb hm (h6 c) hl) hw, fun D hD => ?_, htie, (fun h => by cases h), hg⟩
  exact Claim7.tied_new_at Lk kinds tests (Claim7.new_of_sixth (hal D hD) har lk hst hnb hm (h6 _) hl) (hwal D hD)
theorem cap_main : Tryz.pinned.checked.prog.mainIs = some (true, "bbbd6ba9d55044f5f88da91e1386ffb82d17cf23b5e8ecd7f2a27fd51695b257".toList) := by kernel_rfl
theorem cap_looks : true = Tryz.pinned.checked.prog.looks [] := by kernel_rfl
theorem cap_goes : true = Rows.cacheNilAndCapacityRow.goesBy Tryz.pinned.checked.prog := by kernel_rfl
theorem cap_wf : Rows.cacheNilAndCapacityRow.wfByText (OpenSpec.ofChange Rows.cacheNilAndCapacitySpec) = true := by kernel_rfl
theorem plain (f : FuncId) (fn : Func) (hf : Tryz.pinned.checked.prog.funcNamed "busbar/busbarlaw21.CacheNilAndCapacity" = some f) (hfn : Tryz.pinned.checked.prog.funcs[f]? = some fn) :
    true = Tryz.pinned.checked.prog.looks [] ∧ ∀ (j : Nat) t, fn.params[j]? = some t → Tryz.pinned.checked.prog.wantsStandIn t = false := by
  obtain rfl : f = 8 := Option.some.inj ((show Tryz.prog.funcNamed "busbar/busbarlaw21.CacheNilAndCapacity" = some 8 by kernel_rfl).symm.trans hf) |>.symm
  obtain rfl : fn = Tryz.f8 := (Option.some.inj (Tryz.func8.symm.trans hfn)).symm
  refine ⟨cap_looks, fun j t ht => ?_⟩
  rw [params8] at ht
  have h : t = 3 ∨ t = 9 := by simpa using Array.mem_of_getElem? ht
  rcases h with rfl | rfl
  · exact (show Tryz.prog.wantsStandIn 3 = false by kernel_rfl)
  · exact (show Tryz.prog.wantsStandIn 9 = false by kernel_rfl)
/-- THE CARD. -/
theorem cacheNilAndCapacity_holds : Rows.CacheNilAndCapacityCardSaid :=
  holds_tied_goes .later [] _ _ _ _ _ said (fun _ h => by cases h) cap_wf (fun _ h => by cases h) cacheNilAndCapacity_row_tie rfl ⟨rfl, rfl⟩ cap_main rfl plain cap_goes
end Go.Proofs.YtbgilebgdbgddaaGreatDoor
