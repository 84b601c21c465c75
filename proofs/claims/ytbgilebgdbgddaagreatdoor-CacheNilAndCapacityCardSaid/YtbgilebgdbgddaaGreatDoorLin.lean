/- A line -/
import Derived.Test.YtbgilebgdbgddaaGreatDoorWds
import Derived.Test.YtbgilebgdbgddaaGreatDoorPco
import Derived.RegionTactic
import Derived.BigRegion
set_option linter.unusedVariables false
set_option linter.unusedSimpArgs false
namespace Go.Proofs.YtbgilebgdbgddaaGreatDoor
open Go.RowKit
structure Kw where
  lo : Nat
  hi : Nat
  sz : Bool
  inn : Bool
  f : Nat
def kwTab : List (ByteArray × Kw) :=
  [(⟨#[115, 105, 122, 101]⟩, ⟨4, 4, false, false, 203⟩), (⟨#[114, 117, 110, 103]⟩, ⟨1, 2, true, false, 204⟩), (⟨#[106, 117, 109, 112]⟩, ⟨2, 2, true, true, 205⟩),
   (⟨#[110, 111]⟩, ⟨4, 4, true, true, 206⟩), (⟨#[110, 99]⟩, ⟨4, 4, true, true, 206⟩), (⟨#[117, 112]⟩, ⟨4, 4, true, true, 206⟩), (⟨#[100, 111, 119, 110]⟩, ⟨4, 4, true, true, 206⟩),
   (⟨#[111, 117, 116]⟩, ⟨2, 2, true, true, 207⟩), (⟨#[110, 111, 116]⟩, ⟨2, 2, true, true, 207⟩), (⟨#[115, 101, 116]⟩, ⟨2, 2, true, true, 207⟩), (⟨#[114, 101, 115, 101, 116]⟩, ⟨2, 2, true, true, 207⟩)]
def kwFind (L : List (ByteArray × Kw)) (s : ByteArray) : Option Kw := match L with
  | [] => none
  | p :: l => if s = p.1 then some p.2 else kwFind l s
def kwVal (Bp : Nat) (k : Kw) : Value := .agg #[.int .i64 k.lo, .int .i64 k.hi, .bool k.sz, .bool k.inn, .func (.func k.f) #[.pointer (some ⟨Bp, 0, none⟩)] #[]]
theorem wordL_tab (Bp : Nat) : wordL Bp = kwTab.map fun p => (p.1, kwVal Bp p.2) := rfl
theorem asGet_tab (Bp : Nat) (s : ByteArray) : ∀ L : List (ByteArray × Kw), asGet (L.map fun p => (p.1, kwVal Bp p.2)) s = (kwFind L s).map (kwVal Bp)
  | [] => rfl
  | p :: l => by
    simp only [List.map_cons, asGet, kwFind]
    split
    · rfl
    · exact asGet_tab Bp s l
theorem zero306 (w : World) : (zeroValue 306).run Tryz.prog w = .ok (.agg #[.int .i64 0, .int .i64 0, .bool false, .bool false, .nilFunc]) w := by kernel_rfl
def lineF (D : Nat → Int × PS) (p : PS) (l : Line) : Int × PS := match kwFind kwTab (wrd l 0) with
  | none => (8, p)
  | some k => if l.words.length < k.lo ∨ k.hi < l.words.length then (6, p) else if k.sz = true ∧ p.sized = false ∨ k.inn = true ∧ p.rungs.length = 0 then (11, p) else D k.f
theorem kw_enter {s : ByteArray} {k : Kw} (h : kwFind kwTab s = some k) : ∀ args w, (callFunc k.f args).run Tryz.prog w = .ok (.enter k.f args) w := by
  have hm : k.f = 203 ∨ k.f = 204 ∨ k.f = 205 ∨ k.f = 206 ∨ k.f = 207 := by
    simp only [kwTab, kwFind] at h
    repeat' split at h
    all_goals first | (injection h with h; subst h; simp) | cases h
  rcases hm with h | h | h | h | h <;> rw [h]
  · exact enters_of Tryz.func203 (by kernel_rfl) rfl
  · exact enters_of Tryz.func204 (by kernel_rfl) rfl
  · exact enters_of Tryz.func205 (by kernel_rfl) rfl
  · exact enters_of Tryz.func206 (by kernel_rfl) rfl
  · exact enters_of Tryz.func207 (by kernel_rfl) rfl
theorem hstore {w X : World} (hb : Bel w X) (v0 v1 v2 v3 v4 : Value) : Bel w (((((X.setCell ⟨w.heap.size + 1, 0, none⟩ v0).setCell ⟨w.heap.size + 1, 1, none⟩ v1).setCell ⟨w.heap.size + 1, 2, none⟩ v2).setCell ⟨w.heap.size + 1, 3, none⟩ v3).setCell ⟨w.heap.size + 1, 4, none⟩ v4) :=
  ((((hb.setCell (by simp) _).setCell (by simp) _).setCell (by simp) _).setCell (by simp) _).setCell (by simp) _
set_option maxRecDepth 100000 in
set_option maxHeartbeats 4000000 in
theorem line173 (Wk W0 W1 w : World) (Bp bm : Nat) (p : PS) (l : Line) (cl : List Value) (D : Nat → Int × PS) (hp : PsAt Wk W0 W1 w Bp p) (hm : MapAt Value.string W1 bm (wordL Bp)) (hl : LineE W0 l cl) (hln : 0 < l.words.length) (hln2 : l.words.length ≤ 100000)
    (hdo : ∀ k w', kwFind kwTab (wrd l 0) = some k → k.lo ≤ l.words.length → l.words.length ≤ k.hi → (k.inn = true → p.rungs.length ≠ 0) → PsAt Wk W0 W1 w' Bp p → Calls Tryz.prog k.f #[.pointer (some ⟨Bp, 0, none⟩), .agg cl.toArray] w' (Answers Wk W0 W1 Bp (D k.f))) :
    Calls Tryz.prog 173 #[.pointer (some ⟨Bp, 0, none⟩), .map (some bm), .agg cl.toArray] w (Answers Wk W0 W1 Bp (lineF D p l)) := by
  obtain ⟨v, rfl, hw⟩ := hl
  obtain ⟨a, c, rfl, hc1, hc2, _⟩ := hw.ex
  obtain ⟨b, off, rfl, d0⟩ := wrd_cell hw (k := 0) hln
  rw [Nat.add_zero] at d0
  have hL := hp.bel.cell d0
  have hmw := (MapsKept.tfr hp.fr).at hm
  have hmv := hmw.bel ((Bel.refl w).alloc (.cells #[.int .i64 l.n, .slice (some ⟨b, off, none⟩) l.words.length c] 278))
  have hlk := run_look strKey und276 (zero306 _) hmv (wrd l 0) true
  rw [wordL_tab, asGet_tab] at hlk
  simp only [if_true] at hlk
  have d1 := fun o => (hp.bel.alloc o).cell d0
  obtain ⟨vr, vl, vj, cs, q, ho, -⟩ := hp.ex
  have HF := Lib.hid (show lineF D p l = match kwFind kwTab (wrd l 0) with
    | none => (8, p)
    | some k => if l.words.length < k.lo ∨ k.hi < l.words.length then (6, p) else if k.sz = true ∧ p.sized = false ∨ k.inn = true ∧ p.rungs.length = 0 then (11, p) else D k.f from rfl)
  have q0 : Blk (w.alloc (.cells #[.int .i64 l.n, .slice (some ⟨b, off, none⟩) l.words.length c] 278)) w.heap.size #[.int .i64 l.n, .slice (some ⟨b, off, none⟩) l.words.length c] 278 := Blk.new w _ _
  have hx0 : (0 : Int) < (l.words.length : Int) := by omega
  generalize hK : kwFind kwTab (wrd l 0) = K at *
  have HK := Lib.hid hK
  clear hK
  cases K with
  | none =>
    simp only [Option.map_none, Option.getD_none, Option.isSome_none] at hlk
    have HF2 := Lib.hid (show lineF D p l = (8, p) from HF.out)
    have HB := Lib.hid hp.bel
    clear HF hmv hdo
    go_enter Tryz.func173, Tryz.ntmps173
    go_wp2_with fail
    have hb : Bel w ((w.alloc (.cells #[.int .i64 l.n, .slice (some ⟨b, off, none⟩) l.words.length c] 278)).alloc (.cells #[.int .i64 0, .int .i64 0, .bool false, .bool false, .nilFunc] 306)) := ((Bel.refl w).alloc _).alloc _
    exact bodyPost_ret (v := .int .i64 8) (by simp [results, Tryz.results173, go_sem]) rfl ⟨by rw [HF2.out], HB.out.trans hb, fun h => by rw [HF2.out] at h; cases h⟩
  | some k =>
    obtain ⟨lo, hi, sz, inn, f⟩ := k
    simp only [Option.map_some, Option.getD_some, Option.isSome_some, kwVal] at hlk
    have hen := kw_enter HK.out
    have hdo2 := hdo ⟨lo, hi, sz, inn, f⟩
    have HF2 := Lib.hid (show lineF D p l = if l.words.length < lo ∨ hi < l.words.length then (6, p) else if sz = true ∧ p.sized = false ∨ inn = true ∧ p.rungs.length = 0 then (11, p) else D f from HF.out)
    clear HF hmv hdo
    dsimp only at hdo2 hen
    have hb : Bel w ((w.alloc (.cells #[.int .i64 l.n, .slice (some ⟨b, off, none⟩) l.words.length c] 278)).alloc (.cells #[.int .i64 lo, .int .i64 hi, .bool sz, .bool inn, .func (.func f) #[.pointer (some ⟨Bp, 0, none⟩)] #[]] 306)) := ((Bel.refl w).alloc _).alloc _
    have hblt := q.lt
    have hne1 : Bp ≠ w.heap.size + 1 := by omega
    have hne2 : ¬ (w.heap.size + 1 = Bp) := by omega
    have HP := Lib.hid hp
    have HB := Lib.hid hp.bel
    obtain ⟨Ar, cr, rfl, _⟩ := own_slice ho
    have k4 := fun o o1 => ((q.alloc o).alloc o1).cell 4 rfl
    have k3 := fun o o1 => ((q.alloc o).alloc o1).cell 3 rfl
    clear hp ho
    by_cases h1 : l.words.length < lo
    · have HF3 := Lib.hid (show lineF D p l = (6, p) by rw [HF2.out, if_pos (.inl h1)])
      have hx1 : decide (l.words.length < lo) = true := by simpa using h1
      clear h1 HF2 hdo2
      go_enter Tryz.func173, Tryz.ntmps173
      go_wp2_with fail
      exact bodyPost_ret (v := .int .i64 6) (by simp [results, Tryz.results173, go_sem]) rfl ⟨by rw [HF3.out], HB.out.trans hb, fun h => by rw [HF3.out] at h; cases h⟩
    have hx1 : decide (l.words.length < lo) = false := by simpa using h1
    by_cases h2 : hi < l.words.length
    · have HF3 := Lib.hid (show lineF D p l = (6, p) by rw [HF2.out, if_pos (.inr h2)])
      have hx2 : decide (hi < l.words.length) = true := by simpa using h2
      clear h1 h2 HF2 hdo2
      go_enter Tryz.func173, Tryz.ntmps173
      go_wp2_with fail
      exact bodyPost_ret (v := .int .i64 6) (by simp [results, Tryz.results173, go_sem]) rfl ⟨by rw [HF3.out], HB.out.trans hb, fun h => by rw [HF3.out] at h; cases h⟩
    have hx2 : decide (hi < l.words.length) = false := by simpa using h2
    have HF3 := HF2.out
    rw [if_neg (fun h => h.elim h1 h2)] at HF3
    have H1 := Lib.hid h1; have H2 := Lib.hid h2
    clear h1 h2 HF2
    by_cases h3 : sz = true ∧ p.sized = false ∨ inn = true ∧ p.rungs.length = 0
    · have HF4 := Lib.hid (show lineF D p l = (11, p) by rw [HF3, if_pos h3])
      clear HF3 hdo2
      have hend : ∀ e w', e = Ending.returned (.int .i64 11) → Bel w w' → Answers Wk W0 W1 Bp (lineF D p l) e w' := fun e w' he hb => ⟨by rw [HF4.out]; exact he, HB.out.trans hb, fun h => by rw [HF4.out] at h; cases h⟩
      generalize lineF D p l = LF at *
      generalize p.sized = sd at *
      generalize p.rungs.length = n at *
      clear q HP HF4
      by_cases h4 : sz = true ∧ sd = false
      · obtain ⟨rfl, rfl⟩ := h4
        clear h3
        go_enter Tryz.func173, Tryz.ntmps173
        go_wp2_with fail
        exact bodyPost_ret (v := .int .i64 11) (by simp [results, Tryz.results173, go_sem]) rfl (hend _ _ rfl hb)
      · obtain ⟨rfl, rfl⟩ := h3.resolve_left h4
        cases sz with
        | false =>
          clear h3 h4
          go_enter Tryz.func173, Tryz.ntmps173
          go_wp2_with fail
          exact bodyPost_ret (v := .int .i64 11) (by simp [results, Tryz.results173, go_sem]) rfl (hend _ _ rfl hb)
        | true =>
          obtain rfl : sd = true := by cases sd with | true => rfl | false => exact absurd ⟨rfl, rfl⟩ h4
          clear h3 h4
          go_enter Tryz.func173, Tryz.ntmps173
          go_wp2_with fail
          exact bodyPost_ret (v := .int .i64 11) (by simp [results, Tryz.results173, go_sem]) rfl (hend _ _ rfl hb)
    · have HF4 := Lib.hid (show lineF D p l = D f by rw [HF3, if_neg h3])
      clear HF3
      have hdo3 := hdo2 ((w.alloc (.cells #[.int .i64 l.n, .slice (some ⟨b, off, none⟩) l.words.length c] 278)).alloc (.cells #[.int .i64 lo, .int .i64 hi, .bool sz, .bool inn, .func (.func f) #[.pointer (some ⟨Bp, 0, none⟩)] #[]] 306)) rfl (by have := H1.out; omega) (by have := H2.out; omega) (fun hi hn => h3 (.inr ⟨hi, hn⟩)) (HP.out.to hb)
      have HD := Lib.hid hdo3
      clear hdo2 hdo3
      have hrest : ∀ e w', Answers Wk W0 W1 Bp (D f) e w' → Answers Wk W0 W1 Bp (lineF D p l) e w' := fun e w' h => by rw [HF4.out]; exact h
      generalize hDe : D f = Df at *
      generalize lineF D p l = LF at *
      generalize p.sized = sd at *
      generalize p.rungs.length = n at *
      clear q HP HF4 hDe
      have hn : inn = true → 0 < n := fun h => by
        rcases Nat.eq_zero_or_pos n with h0 | h0
        · exact absurd (.inr ⟨h, h0⟩) h3
        · exact h0
      have hs : sz = true → sd = true := fun h => by
        cases sd with
        | true => rfl
        | false => exact absurd (.inl ⟨h, rfl⟩) h3
      clear h3
      cases sz with
      | false =>
        clear hs
        cases inn with
        | false =>
          clear hn
          go_enter Tryz.func173, Tryz.ntmps173
          go_wp2_with fail
          refine HD.out.mono ?_
          rintro e w' ⟨rfl, h2⟩
          go_wp2_with fail
          exact bodyPost_ret (v := .int .i64 Df.1) (by simp [results, Tryz.results173, go_sem]) rfl (hrest _ _ ⟨rfl, h2⟩)
        | true =>
          have hn0 := hn rfl
          have hn1 : ((n : Int) == 0) = false := by simp; omega
          clear hn
          go_enter Tryz.func173, Tryz.ntmps173
          go_wp2_with fail
          refine HD.out.mono ?_
          rintro e w' ⟨rfl, h2⟩
          go_wp2_with fail
          exact bodyPost_ret (v := .int .i64 Df.1) (by simp [results, Tryz.results173, go_sem]) rfl (hrest _ _ ⟨rfl, h2⟩)
      | true =>
        obtain rfl := hs rfl
        clear hs
        cases inn with
        | false =>
          clear hn
          go_enter Tryz.func173, Tryz.ntmps173
          go_wp2_with fail
          refine HD.out.mono ?_
          rintro e w' ⟨rfl, h2⟩
          go_wp2_with fail
          exact bodyPost_ret (v := .int .i64 Df.1) (by simp [results, Tryz.results173, go_sem]) rfl (hrest _ _ ⟨rfl, h2⟩)
        | true =>
          have hn0 := hn rfl
          have hn1 : ((n : Int) == 0) = false := by simp; omega
          clear hn
          go_enter Tryz.func173, Tryz.ntmps173
          go_wp2_with fail
          refine HD.out.mono ?_
          rintro e w' ⟨rfl, h2⟩
          go_wp2_with fail
          exact bodyPost_ret (v := .int .i64 Df.1) (by simp [results, Tryz.results173, go_sem]) rfl (hrest _ _ ⟨rfl, h2⟩)
end Go.Proofs.YtbgilebgdbgddaaGreatDoor
/- A jump line -/
namespace Go.Proofs.YtbgilebgdbgddaaGreatDoor
open Go.RowKit
theorem ints_at {p : List Int} {i : Nat} (h : i < p.length) : (p.flatMap intC)[i]? = some (.int .i64 p[i]) := by
  have := flatMap_at (f := intC) (sz := 1) (fun _ => rfl) p i p[i] (List.getElem?_eq_getElem h) 0 (.int .i64 p[i]) rfl
  simpa using this
theorem ints_set (p : List Int) (i : Nat) (n : Int) : (p.flatMap intC).set i (.int .i64 n) = (p.set i n).flatMap intC := by
  have e : ∀ q : List Int, q.flatMap intC = q.map (Value.int .i64) := fun q => by
    induction q with
    | nil => rfl
    | cons a l ih => rw [List.flatMap_cons, ih]; rfl
  rw [e, e, List.map_set]
theorem own_ne {w : World} {B B' g g' n n' c c' : Nat} {e e' : TypeId} {sz sz' : Nat} {xs xs' : List Value} (h : w.ownsRow B e sz (.slice (some ⟨g, 0, none⟩) n c) n xs) (h' : w.ownsRow B' e' sz' (.slice (some ⟨g', 0, none⟩) n' c') n' xs') (hne : e ≠ e') : g ≠ g' := by
  rcases h.2 with ⟨e1, _⟩ | ⟨_, _, cur, e1, _, hh, _⟩
  · cases e1
  · injection e1 with e1; injection e1 with e1; injection e1 with e1; subst e1
    rcases h'.2 with ⟨e2, _⟩ | ⟨_, _, cur', e2, _, hh', _⟩
    · cases e2
    · injection e2 with e2; injection e2 with e2; injection e2 with e2; subst e2
      rintro rfl
      rw [hh] at hh'
      injection hh' with hh'
      injection hh' with _ hh'
      exact hne hh'
/-- The jump is set, and its line number. -/
theorem CurAt.jump {Wk W0 W1 w : World} {Bp : Nat} {p : PS} {g c gj cj : Nat} {vl : Value} {cs : List Value} {r : Rung} {vc vo : Value} {s : ByteArray} {n : Int} (h : CurAt Wk W0 W1 w Bp p g c vl (.slice (some ⟨gj, 0, none⟩) p.jumps.length cj) cs r vc vo) (hn : 0 < p.rungs.length) :
    PsAt Wk W0 W1 ((w.setCell ⟨g, (p.rungs.length - 1) * 4 + 3, none⟩ (.string s)).setCell ⟨gj, p.jumps.length - 1, none⟩ (.int .i64 n)) Bp { p with rungs := p.rungs.set (p.rungs.length - 1) { r with jump := s }, jumps := p.jumps.set (p.jumps.length - 1) n } := by
  have hgB : W0.heap.size ≤ g ∧ ∃ cur, Blk w g cur 33 := by
    rcases h.row.2 with ⟨e, _⟩ | ⟨g', cap, cur, e, hb, hh, _⟩
    · cases e
    · injection e with e1; injection e1 with e1; injection e1 with e1; subst e1; exact ⟨hb, cur, hh⟩
  obtain ⟨hgB, cur, hgq⟩ := hgB
  have hjB : W0.heap.size ≤ gj ∧ ∃ cur, Blk w gj cur 3 := by
    rcases h.jmp.2 with ⟨e, _⟩ | ⟨g', cap, cur, e, hb, hh, _⟩
    · cases e
    · injection e with e1; injection e1 with e1; injection e1 with e1; subst e1; exact ⟨hb, cur, hh⟩
  obtain ⟨hjB, curj, hjq⟩ := hjB
  have hne : gj ≠ g := fun e => by
    subst e
    have := hjq.symm.trans hgq
    injection this with this; injection this with _ this; cases this
  have hS : TFr [33] W0.heap.size w (w.setCell ⟨g, (p.rungs.length - 1) * 4 + 3, none⟩ (.string s)) := TFr.setC hgq (by simp) hgB _ _
  have hjq1 : Blk (w.setCell ⟨g, (p.rungs.length - 1) * 4 + 3, none⟩ (.string s)) gj curj 3 := hjq.set_other (by exact fun e => hne e.symm) _
  have hS2 : TFr [3] W0.heap.size (w.setCell ⟨g, (p.rungs.length - 1) * 4 + 3, none⟩ (.string s)) ((w.setCell ⟨g, (p.rungs.length - 1) * 4 + 3, none⟩ (.string s)).setCell ⟨gj, p.jumps.length - 1, none⟩ (.int .i64 n)) := TFr.setC hjq1 (by simp) hjB _ _
  have hlen : (p.rungs.set (p.rungs.length - 1) { r with jump := s }).length = p.rungs.length := List.length_set
  have hBel1 : BelK Wk W0 (w.setCell ⟨g, (p.rungs.length - 1) * 4 + 3, none⟩ (.string s)) := h.bel.tfr hS (by decide)
  have hl : ∀ g', vl.ownBlock = some g' → g' ≠ gj := fun g' e e' => by subst e'; exact h.sep g' e rfl
  refine ⟨hBel1.tfr hS2 (by decide), h.base, (h.fr.trans (hS.wider (by simp))).trans (hS2.wider (by simp)), h.bel1, .slice (some ⟨g, 0, none⟩) p.rungs.length c, vl, .slice (some ⟨gj, 0, none⟩) p.jumps.length cj, cs.set ((p.rungs.length - 1) * 4 + 3) (.string s), ?_, ?_, ?_, ?_, ?_, ?_, h.sep⟩
  · exact hS2.blk (hS.blk h.blk (.inr (by decide))) (.inr (by decide))
  · show World.ownsRow _ _ _ _ _ (List.length _) _
    rw [hlen]
    exact own_tfr (own_put h.row _ _) hS2 (by decide)
  · intro k r' hk hr
    simp only [hlen] at hk
    rw [List.getElem?_set_ne (by omega)] at hr
    obtain ⟨c4, h1, h2⟩ := h.old k r' hk hr
    refine ⟨c4, h1, fun j u hu => ?_⟩
    have hj := (List.getElem?_eq_some_iff.1 hu).1
    have := h1.len
    rw [List.getElem?_set_ne (by omega)]
    exact h2 j u hu
  · intro k r' hk hr
    simp only [hlen] at hk
    obtain rfl : k = p.rungs.length - 1 := by omega
    rw [List.getElem?_set_self (by omega)] at hr
    injection hr with hr
    subst hr
    have hcl : cs.length = p.rungs.length * 4 := h.row.1
    refine ⟨[.string r.label, vc, vo, .string s], ⟨vc, vo, rfl, own_tfr (own_tfr h.con hS (by decide)) hS2 (by decide), own_tfr (own_tfr h.coi hS (by decide)) hS2 (by decide)⟩, fun j u hu => ?_⟩
    have hj := (List.getElem?_eq_some_iff.1 hu).1
    simp only [List.length_cons, List.length_nil] at hj
    rw [List.getElem?_set]
    by_cases hj3 : j = 3
    · subst hj3
      rw [if_pos rfl, if_pos (by omega)]
      simp at hu
      rw [hu]
    · rw [if_neg (by omega)]
      refine h.cel j u ?_
      rcases (show j = 0 ∨ j = 1 ∨ j = 2 by omega) with rfl | rfl | rfl <;> simpa using hu
  · exact own_far (own_tfr h.lin hS (by decide)) fun g' e hlt => by
      simp only [World.setCell, Array.getElem?_modify]
      rw [if_neg (fun e' => hl g' e e'.symm)]
  · show World.ownsRow _ _ _ _ _ (List.length _) _
    rw [List.length_set, ← ints_set]
    exact own_put (own_tfr h.jmp hS (by decide)) _ _
def jumpF (p : PS) (r : Rung) (l : Line) : Int × PS :=
  if r.jump.size ≠ 0 then (9, p) else
  if isNameB (wrd l 1) = false then (6, p) else
  (0, { p with rungs := p.rungs.set (p.rungs.length - 1) { r with jump := wrd l 1 }, jumps := p.jumps.set (p.jumps.length - 1) l.n })
set_option maxRecDepth 100000 in
set_option maxHeartbeats 4000000 in
theorem jump205 (Wk W0 W1 w : World) (Bp : Nat) (p : PS) (l : Line) (cl : List Value) (r : Rung) (hp : PsAt Wk W0 W1 w Bp p) (hok : PsOk p) (hjl : p.jumps.length = p.rungs.length) (hr : p.rungs[p.rungs.length - 1]? = some r) (hn : 0 < p.rungs.length) (hl : LineE W0 l cl) (hln : l.words.length = 2) (hsz : ∀ s ∈ l.words, s.size ≤ 65536) :
    Calls Tryz.prog 205 #[.pointer (some ⟨Bp, 0, none⟩), .agg cl.toArray] w (Answers Wk W0 W1 Bp (jumpF p r l)) := by
  obtain ⟨v, rfl, hw⟩ := hl
  obtain ⟨a, c, rfl, hc1, hc2, _⟩ := hw.ex
  obtain ⟨b, off, rfl, d1⟩ := wrd_cell hw (k := 1) (by omega)
  rw [hln] at hw hc1 ⊢
  have hs1 := wrd_size hsz 1
  have hS : jumpF p r l = (if r.jump.size ≠ 0 then (9, p) else
    if isNameB (wrd l 1) = false then (6, p) else
    (0, { p with rungs := p.rungs.set (p.rungs.length - 1) { r with jump := wrd l 1 }, jumps := p.jumps.set (p.jumps.length - 1) l.n })) := rfl
  generalize wrd l 1 = s1 at *
  obtain ⟨g, cg, vl, vj, cs, r', vc, vo, hcur⟩ := hp.cur hn
  have hrr : r' = r := by have := hcur.isr; rw [hr] at this; injection this with this; exact this.symm
  subst hrr
  have h64 := hok.rungs
  obtain ⟨gj, cj, rfl⟩ : ∃ gj cj, vj = .slice (some ⟨gj, 0, none⟩) p.jumps.length cj := by
    rcases hcur.jmp.2 with ⟨_, h0⟩ | ⟨g', cap, cur, e, _⟩
    · omega
    · exact ⟨g', cap, e⟩
  have hB := hcur.bel
  have HS := Lib.hid hS
  have HJL := Lib.hid hjl
  clear hS hsz hr hok hp hw hjl
  go_enter Tryz.func205, Tryz.ntmps205
  go_wp2_with fail
  have q0 : Blk (w.alloc (.cells #[.int .i64 l.n, .slice (some ⟨b, off, none⟩) 2 c] 278)) w.heap.size #[.int .i64 l.n, .slice (some ⟨b, off, none⟩) 2 c] 278 := Blk.new w _ _
  have hb1 : Bel w (w.alloc (.cells #[.int .i64 l.n, .slice (some ⟨b, off, none⟩) 2 c] 278)) := (Bel.refl w).alloc _
  generalize (w.alloc (.cells #[.int .i64 l.n, .slice (some ⟨b, off, none⟩) 2 c] 278)) = W at *
  have hcu := hcur.bel' hb1
  refine (rung226 Bp g p.rungs.length cg _ _ _ _ _ _ W hcu.blk hn h64).mono ?_
  rintro en w1 ⟨rfl, hb2⟩
  replace hcu := hcu.bel' hb2
  replace q0 := q0.bel hb2
  have hBw1 := hcu.bel
  clear hcur hb1 hb2 hB
  have k3 := (hcu.cell 3 rfl).1
  by_cases hju : r'.jump.size = 0
  · have hjz := strZ hju
    have HS2 := HS.out
    rw [if_neg (fun h => h hju)] at HS2
    have HS3 := Lib.hid HS2
    clear HS HS2
    have u0 := q0.cell 1 rfl
    have u1 := hBw1.cell d1
    cases hi2 : isNameB s1 with
    | false =>
      have HS8 := Lib.hid (show jumpF p r' l = (6, p) by rw [HS3.out, if_pos hi2])
      have hnm := isName_any s1 w1 (by omega)
      rw [hi2] at hnm
      clear HS3 hi2
      go_wp2_with (first | (go_at_call 144; refine hnm.mono ?_; rintro en w4 ⟨rfl, hb4⟩))
      exact bodyPost_ret (v := .int .i64 6) (by simp [results, Tryz.results205, go_sem]) rfl ⟨by rw [HS8.out], hBw1.trans hb4, fun h => by rw [HS8.out] at h; cases h⟩
    | true =>
      have HS8 := Lib.hid (show jumpF p r' l = (0, { p with rungs := p.rungs.set (p.rungs.length - 1) { r' with jump := s1 }, jumps := p.jumps.set (p.jumps.length - 1) l.n }) by rw [HS3.out, if_neg (by rw [hi2]; simp)])
      have hnm := isName_any s1 w1 (by omega)
      rw [hi2] at hnm
      clear HS3 hi2
      go_wp2_with fail
      refine hnm.mono ?_
      rintro en w4 ⟨rfl, hb4⟩
      replace hcu := hcu.bel' hb4
      replace q0 := q0.bel hb4
      have hBw4 := hcu.bel
      clear hnm u0 u1 k3 hb4 hBw1
      have u0 := q0.cell 1 rfl
      have u2 := q0.cell 0 rfl
      have u1 := hBw4.cell d1
      have k3 := (hcu.cell 3 rfl).1
      have f3 := (hcu.cell 3 rfl).2
      have p6 := hcu.blk.cell 6 rfl
      have hjl := HJL.out
      have hlt : p.jumps.length - 1 < p.jumps.length := by omega
      have kj := own_cell hcu.jmp _ (ints_at hlt)
      have kj1 := kj.1
      have kj2 := kj.2
      have hjump := hcu.jump (s := s1) (n := l.n) hn
      have n0 : IntKind.i64.wrap ((p.jumps.length : Int) - 1) = (p.jumps.length : Int) - 1 := by simp [IntKind.wrap, IntKind.bits, IntKind.signed]; omega
      have n1 : (0 : Int) ≤ (p.jumps.length : Int) - 1 := by omega
      have n2 : (p.jumps.length : Int) - 1 < (p.jumps.length : Int) := by omega
      have n3 : ((p.jumps.length : Int) - 1).toNat = p.jumps.length - 1 := by omega
      clear kj
      generalize p.jumps[p.jumps.length - 1] = j0 at *
      have hne := own_ne hcu.row hcu.jmp (by decide)
      have hne2 : ¬ g = gj := hne
      have hne3 : ¬ gj = g := fun e => hne e.symm
      clear hjl hlt hcu
      go_wp2_with fail
      have hPS := hjump.to (Bel.refl _).drew
      clear hjump
      go_region
      all_goals go_wp2_with fail
      all_goals exact bodyPost_ret (v := .int .i64 0) (by simp [results, Tryz.results205, go_sem]) rfl ⟨by rw [HS8.out], hPS.bel, fun _ => ⟨W1, MapsKept.refl _, by rw [HS8.out]; exact hPS⟩⟩
  · have HS2 := Lib.hid (show jumpF p r' l = (9, p) by rw [HS.out, if_pos hju])
    have hjn := strNe hju
    clear HS
    go_wp2_with fail
    exact bodyPost_ret (v := .int .i64 9) (by simp [results, Tryz.results205, go_sem]) rfl ⟨by rw [HS2.out], hBw1, fun h => by rw [HS2.out] at h; cases h⟩
end Go.Proofs.YtbgilebgdbgddaaGreatDoor
