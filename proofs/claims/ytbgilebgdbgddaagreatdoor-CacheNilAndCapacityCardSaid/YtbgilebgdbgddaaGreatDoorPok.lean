/- What is parsed is a valid ladder. -/
import Derived.Test.YtbgilebgdbgddaaGreatDoorPrf
import Derived.Test.YtbgilebgdbgddaaGreatDoorPrc
set_option linter.unusedVariables false
set_option linter.unusedSimpArgs false
namespace Go.Proofs.YtbgilebgdbgddaaGreatDoor
open Go.RowKit
abbrev szOf (p : PS) : Size := ⟨p.i, p.q, p.m, 0⟩
structure POk (p : PS) : Prop where
  inn : PsIn p
  sz : checkSizeF (szOf p) = 0
  un : p.sized = false → p.rungs = []
  rungs : ∀ k r, p.rungs[k]? = some r → RungOk (szOf p) (p.rungs.take k) r
theorem ps0_ok : POk ps0 := ⟨ps0_in, by decide, fun _ => rfl, fun k r h => by simp [ps0] at h⟩
theorem number_bounds {s : ByteArray} (h : ¬ (numberF s 256).2 ≠ 0) : 0 ≤ (numberF s 256).1 ∧ (numberF s 256).1 ≤ 256 := by
  unfold numberF at h ⊢
  split
  · split
    · omega
    · constructor
      · exact Int.natCast_nonneg _
      · show (decV 0 s.data.toList : Int) ≤ 256
        omega
  · omega
theorem within_of {n m : Int} (h0 : 0 ≤ n) (h1 : n ≤ m) : withinB n m = true := by simp [withinB, h0, h1]
theorem kwIdx_in {l : List ByteArray} {s : ByteArray} (h : s ∈ l) : 0 ≤ kwIdx l s ∧ kwIdx l s < l.length := by
  unfold kwIdx idxOf
  cases hf : l.findIdx? (fun x => decide (x = s)) with
  | none =>
    rw [List.findIdx?_eq_none_iff] at hf
    have := hf s h
    simp at this
  | some i =>
    have := (List.findIdx?_eq_some_iff_findIdx_eq.1 hf).1
    simp; omega
theorem kw_word {s : ByteArray} {k : Kw} (h : kwFind kwTab s = some k) : (k.f = 206 → s ∈ conKw) ∧ (k.f = 207 → s ∈ coiKw) := by
  simp only [kwTab, kwFind] at h
  repeat' split at h
  all_goals first
    | (injection h with h; subst h; (refine ⟨fun e => ?_, fun e => ?_⟩) <;> first | (exact absurd e (by decide)) | (simp_all [conKw, coiKw]; done))
    | (exact absurd h (by simp))
theorem address_ok {i q m : Int} {s : ByteArray} (h : ¬ (addressF i q m s).2.2 ≠ 0) : checkAddrF ⟨i, q, m, 0⟩ (addressF i q m s).1 (addressF i q m s).2.1 = 0 := by
  unfold addressF at h ⊢
  split
  · rename_i h0
    rw [if_pos h0] at h
    exact Decidable.not_not.1 h
  · rename_i h0
    rw [if_neg h0] at h
    exact absurd (Decidable.not_not.1 h) h0
theorem take_set_le {α : Type} (l : List α) (n k : Nat) (a : α) (h : k ≤ n) : (l.set n a).take k = l.take k := by
  apply List.ext_getElem?
  intro i
  simp only [List.getElem?_take, List.getElem?_set]
  split
  · rw [if_neg (by omega)]
  · rfl
/-- The last rung is changed: its label stands. -/
theorem POk.last {p : PS} (h : POk p) {r' : Rung} {js : List Int} (hs : p.sized = true) (hin : PsIn { p with rungs := p.rungs.set (p.rungs.length - 1) r', jumps := js })
    (hr : ∀ s ahead, RungOk s ahead (curR p) → s = szOf p → RungOk s ahead r') (hcur : p.rungs.length ≠ 0 → p.rungs[p.rungs.length - 1]? = some (curR p)) : POk { p with rungs := p.rungs.set (p.rungs.length - 1) r', jumps := js } := by
  refine ⟨hin, h.sz, fun e => ?_, fun k r hk => ?_⟩
  · have : p.sized = false := e
    rw [hs] at this; cases this
  · show RungOk (szOf p) _ r
    have hk' : (p.rungs.set (p.rungs.length - 1) r')[k]? = some r := hk
    show RungOk (szOf p) ((p.rungs.set (p.rungs.length - 1) r').take k) r
    have hlt : k < p.rungs.length := by
      have := (List.getElem?_eq_some_iff.1 hk').1
      simpa using this
    rw [take_set_le _ _ _ _ (by omega)]
    by_cases he : k = p.rungs.length - 1
    · subst he
      rw [List.getElem?_set_self (by omega)] at hk'
      injection hk' with hk'
      subst hk'
      exact hr _ _ (h.rungs _ _ (hcur (by omega))) rfl
    · rw [List.getElem?_set_ne (fun e => he e.symm)] at hk'
      exact h.rungs _ _ hk'
theorem doF_ok {p : PS} {l : Line} {k : Kw} (h : POk p) (hk : kwFind kwTab (wrd l 0) = some k) (hs : k.sz = true → p.sized = true) (hn : k.inn = true → p.rungs.length ≠ 0) (hw : k.f = 204 → l.words.length ≤ 2) (h0 : (doF p l k.f).1 = 0) : POk (doF p l k.f).2 := by
  have hin := doF_in h.inn h0
  have hcur : p.rungs.length ≠ 0 → p.rungs[p.rungs.length - 1]? = some (curR p) := fun h => by
    unfold curR
    rw [List.getElem?_eq_getElem (by omega)]
    rfl
  have hkw := kw_word hk
  rcases kw_cases hk with rfl | rfl | rfl | rfl | rfl
  · have e : doF p l 203 = sizeF p l := rfl
    dsimp only at h0 hin ⊢
    rw [e] at h0 hin ⊢
    unfold sizeF at h0 hin ⊢
    split
    · exact h
    rename_i g1; rw [if_neg g1] at h0 hin
    split
    · exact h
    rename_i g2; rw [if_neg g2] at h0 hin
    split
    · exact h
    rename_i g3; rw [if_neg g3] at h0 hin
    split
    · exact h
    rename_i g4; rw [if_neg g4] at h0 hin
    have hun := h.un (by cases hb : p.sized with | true => exact absurd hb g1 | false => rfl)
    obtain ⟨a1, a2⟩ := number_bounds g2
    obtain ⟨b1, b2⟩ := number_bounds g3
    obtain ⟨c1, c2⟩ := number_bounds g4
    refine ⟨hin, ?_, fun e => (by cases e), fun k r hr => ?_⟩
    · unfold checkSizeF
      rw [if_pos]
      simp only [szOf, Bool.and_eq_true]
      exact ⟨⟨⟨by decide, within_of a1 a2⟩, within_of b1 b2⟩, within_of c1 c2⟩
    · have hr' : p.rungs[k]? = some r := hr
      rw [hun] at hr'; simp at hr'
  · have e : doF p l 204 = beginF p l := rfl
    dsimp only at h0 hin hs hw ⊢
    rw [e] at h0 hin ⊢
    have hsz := hs rfl
    unfold beginF at h0 hin ⊢
    split
    · exact h
    rename_i g1; rw [if_neg g1] at h0 hin
    split
    · exact h
    rename_i g2; rw [if_neg g2] at h0 hin
    split
    · exact h
    rename_i g3; rw [if_neg g3] at h0 hin
    refine ⟨hin, h.sz, fun e => ?_, fun k r hr => ?_⟩
    · have e : p.sized = false := e
      rw [hsz] at e; cases e
    · have hr' : (p.rungs ++ [(⟨if 1 < l.words.length then wrd l 1 else .empty, [], [], .empty⟩ : Rung)])[k]? = some r := hr
      show RungOk (szOf p) ((p.rungs ++ [(⟨if 1 < l.words.length then wrd l 1 else .empty, [], [], .empty⟩ : Rung)]).take k) r
      rcases Nat.lt_or_ge k p.rungs.length with hlt | hge
      · rw [List.getElem?_append_left hlt] at hr'
        rw [List.take_append_of_le_length (by omega)]
        exact h.rungs _ _ hr'
      · have hkl := (List.getElem?_eq_some_iff.1 hr').1
        simp at hkl
        obtain rfl : k = p.rungs.length := by omega
        rw [List.getElem?_append_right (Nat.le_refl _)] at hr'
        simp at hr'
        subst hr'
        rw [List.take_append_of_le_length (Nat.le_refl _), List.take_length]
        refine ⟨?_, by simp, fun c hc => (by cases hc), by simp, fun c hc => (by cases hc), .inl rfl⟩
        by_cases h1 : 1 < l.words.length
        · rw [if_pos h1]
          refine .inr ⟨?_, fun x hx hxl => g2 ⟨h1, ?_⟩⟩
          · cases hi : isNameB (wrd l 1) with
            | true => rfl
            | false => exact absurd ⟨h1, hi⟩ g1
          · rw [List.any_eq_true]
            exact ⟨x, hx, by simpa using hxl⟩
        · rw [if_neg h1]; exact .inl rfl
  · have e : doF p l 205 = jumpF p (curR p) l := rfl
    dsimp only at h0 hin hs ⊢
    rw [e] at h0 hin ⊢
    unfold jumpF at h0 hin ⊢
    split
    · exact h
    rename_i g1; rw [if_neg g1] at h0 hin
    split
    · exact h
    rename_i g2; rw [if_neg g2] at h0 hin
    exact h.last (hs rfl) hin (fun s a hr _ => ⟨hr.label, hr.nc, hr.contacts, hr.no, hr.coils, .inr (by cases hi : isNameB (wrd l 1) with | true => rfl | false => exact absurd hi g2)⟩) hcur
  · have e : doF p l 206 = contactF p (curR p) l := rfl
    dsimp only at h0 hin hs hkw ⊢
    rw [e] at h0 hin ⊢
    unfold contactF at h0 hin ⊢
    split
    · exact h
    rename_i g1; rw [if_neg g1] at h0 hin
    split
    · exact h
    rename_i g2; rw [if_neg g2] at h0 hin
    split
    · exact h
    rename_i g3; rw [if_neg g3] at h0 hin
    split
    · exact h
    rename_i g4; rw [if_neg g4] at h0 hin
    refine h.last (hs rfl) hin (fun s a hr hse => ⟨hr.label, ?_, fun c hc => ?_, hr.no, hr.coils, hr.jump⟩) hcur
    · have := hr.nc
      show ((curR p).contacts ++ [_]).length ≤ 256
      rw [List.length_append, List.length_singleton]; omega
    · rcases List.mem_append.1 hc with hc | hc
      · exact hr.contacts c hc
      · rw [List.mem_singleton.1 hc]
        obtain ⟨k0, k1⟩ := kwIdx_in (hkw.1 rfl)
        refine ⟨k0, k1, ?_, ?_, ?_⟩
        · rw [hse]; exact address_ok g3
        · cases hi : isNameB (wrd l 2) with | true => rfl | false => exact absurd (.inl hi) g4
        · cases hi : isNameB (wrd l 3) with | true => rfl | false => exact absurd (.inr hi) g4
  · have e : doF p l 207 = coilLF p (curR p) l := rfl
    dsimp only at h0 hin hs hkw ⊢
    rw [e] at h0 hin ⊢
    unfold coilLF at h0 hin ⊢
    split
    · exact h
    rename_i g1; rw [if_neg g1] at h0 hin
    split
    · exact h
    rename_i g2; rw [if_neg g2] at h0 hin
    split
    · exact h
    rename_i g3; rw [if_neg g3] at h0 hin
    split
    · exact h
    rename_i g4; rw [if_neg g4] at h0 hin
    refine h.last (hs rfl) hin (fun s a hr hse => ⟨hr.label, hr.nc, hr.contacts, ?_, fun c hc => ?_, hr.jump⟩) hcur
    · have := hr.no
      show ((curR p).coils ++ [_]).length ≤ 16
      rw [List.length_append, List.length_singleton]; omega
    · rcases List.mem_append.1 hc with hc | hc
      · exact hr.coils c hc
      · rw [List.mem_singleton.1 hc]
        obtain ⟨k0, k1⟩ := kwIdx_in (hkw.2 rfl)
        exact ⟨k0, k1, by rw [hse]; exact address_ok g3, g4⟩
theorem stepF_ok {p : PS} {l : Line} (h : POk p) (h0 : (stepF p l).1 = 0) : POk (stepF p l).2 := by
  unfold stepF lineF at h0 ⊢
  split
  · exact h
  · rename_i k hk
    rw [hk] at h0
    dsimp only at h0
    split
    · exact h
    rename_i g1; rw [if_neg g1] at h0
    split
    · exact h
    rename_i g2; rw [if_neg g2] at h0
    refine doF_ok h hk (fun hs => ?_) (fun hi hl => g2 (.inr ⟨hi, hl⟩)) (fun hf => ?_) h0
    · cases hb : p.sized with
      | true => rfl
      | false => exact absurd (.inl ⟨hs, hb⟩) g2
    · rcases kw_cases hk with rfl | rfl | rfl | rfl | rfl
      · cases hf
      · dsimp only at g1; omega
      · cases hf
      · cases hf
      · cases hf
theorem runF_ok : ∀ (ls : List Line) (p q : PS), POk p → runF p ls = (none, q) → POk q
  | [], p, q, h, hr => by
    simp only [runF] at hr
    injection hr with _ hr
    subst hr
    exact h
  | l :: ls, p, q, h, hr => by
    simp only [runF] at hr
    split at hr
    · cases hr
    · rename_i g
      exact runF_ok ls _ _ (stepF_ok h (Decidable.not_not.1 g)) hr
theorem runF_err : ∀ (ls : List Line) (p q : PS) (x : Int × Int), runF p ls = (some x, q) → x.2 ≠ 0
  | [], p, q, x, h => by simp [runF] at h
  | l :: ls, p, q, x, h => by
    simp only [runF] at h
    split at h
    · rename_i g
      injection h with h _
      injection h with h
      subst h
      exact g
    · exact runF_err ls _ _ _ h
theorem fin_ok {p : PS} (h : POk p) (h0 : (finF p).err = 0) : LadderOk (finF p).lad := by
  unfold finF at h0 ⊢
  split
  · rename_i g; rw [if_pos g] at h0; cases h0
  · rename_i g
    rw [if_neg g] at h0
    cases hf : (List.range p.rungs.length).find? (badJ p.rungs) with
    | some i => rw [hf] at h0; cases h0
    | none =>
      show LadderOk ⟨p.i, p.q, p.m, p.rungs⟩
      refine ⟨h.sz, h.inn.ok.rungs, fun k hk => h.rungs k _ (List.getElem?_eq_getElem hk), fun k hk => ?_⟩
      rw [List.find?_eq_none] at hf
      have := hf k (List.mem_range.2 hk)
      unfold badJ at this
      rw [List.getElem?_eq_getElem hk] at this
      simp only [Bool.not_eq_true, Bool.and_eq_false_iff, bne_eq_false_iff_eq, Bool.not_eq_false'] at this
      exact this
theorem parse_ok {text : ByteArray} (h0 : (parseF text).err = 0) : LadderOk (parseF text).lad := by
  unfold parseF at h0 ⊢
  split
  · rename_i g; rw [if_pos g] at h0; exact absurd h0 g
  · rename_i g
    rw [if_neg g] at h0
    cases hr : runF ps0 (linesF text).1 with
    | mk o q =>
      rw [hr] at h0
      cases o with
      | some x =>
        exfalso
        dsimp only at h0
        exact runF_err _ _ _ _ hr h0
      | none =>
        dsimp only at h0 ⊢
        exact fin_ok (runF_ok _ _ _ ps0_ok hr) h0
end Go.Proofs.YtbgilebgdbgddaaGreatDoor
