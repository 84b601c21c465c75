/- A contact line: the walk -/
import Derived.Test.YtbgilebgdbgddaaGreatDoorPcn
set_option linter.unusedVariables false
set_option linter.unusedSimpArgs false
namespace Go.Proofs.YtbgilebgdbgddaaGreatDoor
open Go.RowKit
def conKw : List ByteArray := [⟨#[110, 111]⟩, ⟨#[110, 99]⟩, ⟨#[117, 112]⟩, ⟨#[100, 111, 119, 110]⟩]
def coiKw : List ByteArray := [⟨#[111, 117, 116]⟩, ⟨#[110, 111, 116]⟩, ⟨#[115, 101, 116]⟩, ⟨#[114, 101, 115, 101, 116]⟩]
def kwIdx (l : List ByteArray) (s : ByteArray) : Int := idxOf (fun x => decide (x = s)) l
theorem kwAt {w : World} {b : Nat} {l : List ByteArray} (h : ∀ j u, (l.map Value.string)[j]? = some u → w.cell? ⟨b, j, none⟩ = some u) (hn : l.length ≤ 100) : SlAt StrE 1 w (.slice (some ⟨b, 0, none⟩) l.length l.length) l := by
  refine ⟨_, l.length, rfl, Nat.le_refl _, by omega, fun i x hi => ⟨b, 0, _, rfl, rfl, rfl, fun j u hu => ?_⟩⟩
  have hj : j = 0 := by
    have := (List.getElem?_eq_some_iff.1 hu).1
    simp at this; omega
  subst hj
  simp at hu
  subst hu
  rw [Nat.zero_add, Nat.mul_one, Nat.add_zero]
  exact h i _ (by rw [List.getElem?_map, hi]; rfl)
def contactF (p : PS) (r : Rung) (l : Line) : Int × PS :=
  if 0 < r.coils.length ∨ r.jump.size ≠ 0 then (17, p) else
  if r.contacts.length = 256 then (10, p) else
  if (addressF p.i p.q p.m (wrd l 1)).2.2 ≠ 0 then ((addressF p.i p.q p.m (wrd l 1)).2.2, p) else
  if isNameB (wrd l 2) = false ∨ isNameB (wrd l 3) = false then (6, p) else
  (0, { p with rungs := p.rungs.set (p.rungs.length - 1) { r with contacts := r.contacts ++ [⟨kwIdx conKw (wrd l 0), (addressF p.i p.q p.m (wrd l 1)).1, (addressF p.i p.q p.m (wrd l 1)).2.1, wrd l 2, wrd l 3⟩] } })
set_option maxRecDepth 100000 in
set_option maxHeartbeats 4000000 in
theorem contact206 (Wk W0 W1 w : World) (Bp : Nat) (p : PS) (l : Line) (cl : List Value) (r : Rung) (henv : Env W0) (hp : PsAt Wk W0 W1 w Bp p) (hok : PsOk p) (hr : p.rungs[p.rungs.length - 1]? = some r) (hn : 0 < p.rungs.length) (hl : LineE W0 l cl) (hln : l.words.length = 4) (hsz : ∀ s ∈ l.words, s.size ≤ 65536) :
    Calls Tryz.prog 206 #[.pointer (some ⟨Bp, 0, none⟩), .agg cl.toArray] w (Answers Wk W0 W1 Bp (contactF p r l)) := by
  obtain ⟨v, rfl, hw⟩ := hl
  obtain ⟨a, c, rfl, hc1, hc2, _⟩ := hw.ex
  obtain ⟨b, off, rfl, d1⟩ := wrd_cell hw (k := 1) (by omega)
  obtain ⟨_, _, e2, d2⟩ := wrd_cell hw (k := 2) (by omega)
  obtain ⟨_, _, e3, d3⟩ := wrd_cell hw (k := 3) (by omega)
  obtain ⟨_, _, e0, d0⟩ := wrd_cell hw (k := 0) (by omega)
  rw [hln] at hw hc1 ⊢
  injection e2 with e2; injection e2 with e2 e2'; subst e2; subst e2'
  injection e3 with e3; injection e3 with e3 e3'; subst e3; subst e3'
  injection e0 with e0; injection e0 with e0 e0'; subst e0; subst e0'
  rw [Nat.add_zero] at d0
  have hs1 := wrd_size hsz 1; have hs2 := wrd_size hsz 2; have hs3 := wrd_size hsz 3
  have hS : contactF p r l = (if 0 < r.coils.length ∨ r.jump.size ≠ 0 then (17, p) else
    if r.contacts.length = 256 then (10, p) else
    if (addressF p.i p.q p.m (wrd l 1)).2.2 ≠ 0 then ((addressF p.i p.q p.m (wrd l 1)).2.2, p) else
    if isNameB (wrd l 2) = false ∨ isNameB (wrd l 3) = false then (6, p) else
    (0, { p with rungs := p.rungs.set (p.rungs.length - 1) { r with contacts := r.contacts ++ [⟨kwIdx conKw (wrd l 0), (addressF p.i p.q p.m (wrd l 1)).1, (addressF p.i p.q p.m (wrd l 1)).2.1, wrd l 2, wrd l 3⟩] } })) := rfl
  generalize wrd l 0 = s0 at *
  generalize wrd l 1 = s1 at *
  generalize wrd l 2 = s2 at *
  generalize wrd l 3 = s3 at *
  obtain ⟨g, cg, vl, vj, cs, r', vc, vo, hcur⟩ := hp.cur hn
  have hrr : r' = r := by have := hcur.isr; rw [hr] at this; injection this with this; exact this.symm
  subst hrr
  have h64 := hok.rungs
  have hcon := hok.con _ (List.mem_of_getElem? hr)
  obtain ⟨Ac, cc, rfl, _⟩ := own_slice hcur.con
  obtain ⟨Ao, co, rfl, _⟩ := own_slice hcur.coi
  have hB := hcur.bel
  have HS := Lib.hid hS
  clear hS hsz hr hok hp hw
  go_enter Tryz.func206, Tryz.ntmps206
  go_wp2_with fail
  have q0 : Blk (w.alloc (.cells #[.int .i64 l.n, .slice (some ⟨b, off, none⟩) 4 c] 278)) w.heap.size #[.int .i64 l.n, .slice (some ⟨b, off, none⟩) 4 c] 278 := Blk.new w _ _
  have hb1 : Bel w (w.alloc (.cells #[.int .i64 l.n, .slice (some ⟨b, off, none⟩) 4 c] 278)) := (Bel.refl w).alloc _
  generalize (w.alloc (.cells #[.int .i64 l.n, .slice (some ⟨b, off, none⟩) 4 c] 278)) = W at *
  have hcu := hcur.bel' hb1
  refine (rung226 Bp g p.rungs.length cg _ _ _ _ _ _ W hcu.blk hn h64).mono ?_
  rintro en w1 ⟨rfl, hb2⟩
  replace hcu := hcu.bel' hb2
  replace q0 := q0.bel hb2
  have hBw1 := hcu.bel
  clear hcur hb1 hb2 hB
  have k1 := (hcu.cell 1 rfl).1; have k2 := (hcu.cell 2 rfl).1; have k3 := (hcu.cell 3 rfl).1
  by_cases hco : 0 < r'.coils.length
  · have HS2 := Lib.hid (show contactF p r' l = (17, p) by rw [HS.out, if_pos (.inl hco)])
    have hx : decide (0 < (r'.coils.length : Int)) = true := by simpa using hco
    clear HS
    go_wp2_with fail
    exact bodyPost_ret (v := .int .i64 17) (by simp [results, Tryz.results206, go_sem]) rfl ⟨by rw [HS2.out], hBw1, fun h => by rw [HS2.out] at h; cases h⟩
  · have hx : decide (0 < (r'.coils.length : Int)) = false := by simpa using hco
    have hco0 : r'.coils.length = 0 := by omega
    by_cases hju : r'.jump.size = 0
    · have hjz := strZ hju
      have HS2 := HS.out
      rw [if_neg (fun h => h.elim hco (fun h => h hju))] at HS2
      have HS3 := Lib.hid HS2
      clear HS HS2
      by_cases hfu : r'.contacts.length = 256
      · have HS4 := Lib.hid (show contactF p r' l = (10, p) by rw [HS3.out, if_pos hfu])
        clear HS3
        have hy : ((r'.contacts.length : Int) == 256) = true := by simp; omega
        have hy2 : (r'.contacts.length : Int) = 256 := by omega
        go_wp2_with fail
        exact bodyPost_ret (v := .int .i64 10) (by simp [results, Tryz.results206, go_sem]) rfl ⟨by rw [HS4.out], hBw1, fun h => by rw [HS4.out] at h; cases h⟩
      · have HS4 := HS3.out
        rw [if_neg hfu] at HS4
        have HS5 := Lib.hid HS4
        clear HS3 HS4
        have hy : ((r'.contacts.length : Int) == 256) = false := by simp; omega
        have hy2 : ¬ (r'.contacts.length : Int) = 256 := by omega
        have u0 := q0.cell 1 rfl
        have u1 := hBw1.cell d1
        go_wp2_with fail
        refine (address227 Bp p.i p.q p.m _ _ _ _ s1 w1 (by omega) (henv.bel hBw1) hcu.blk).mono ?_
        rintro en w2 ⟨rfl, hb2⟩
        replace hcu := hcu.bel' hb2
        replace q0 := q0.bel hb2
        have hBw2 := hcu.bel
        clear k1 k2 k3 u0 u1 hb2 hBw1
        generalize addressF p.i p.q p.m s1 = A at *
        obtain ⟨sp, na, er⟩ := A
        dsimp only at HS5 ⊢
        have q6 : Blk (w2.alloc (.cells #[.int .i64 sp, .int .i64 na] 52)) w2.heap.size #[.int .i64 sp, .int .i64 na] 52 := Blk.new w2 _ _
        have hb3 : Bel w2 (w2.alloc (.cells #[.int .i64 sp, .int .i64 na] 52)) := (Bel.refl w2).alloc _
        by_cases her : er = 0
        · subst her
          have HS6 := HS5.out
          rw [if_neg (fun h => h rfl)] at HS6
          have HS7 := Lib.hid HS6
          clear HS5 HS6
          have q03 := q0.bel hb3
          have hcu3 := hcu.bel' hb3
          have hBw3 := hcu3.bel
          have u0 := q03.cell 1 rfl
          have u2 := hBw3.cell d2
          cases hi2 : isNameB s2 with
          | false =>
            have HS8 := Lib.hid (show contactF p r' l = (6, p) by rw [HS7.out, if_pos (.inl hi2)])
            have hnm := isName_any s2 (w2.alloc (.cells #[.int .i64 sp, .int .i64 na] 52)) (by omega)
            rw [hi2] at hnm
            clear HS7 hi2
            go_wp2_with (first | (go_at_call 144; refine hnm.mono ?_; rintro en w4 ⟨rfl, hb4⟩))
            exact bodyPost_ret (v := .int .i64 6) (by simp [results, Tryz.results206, go_sem]) rfl ⟨by rw [HS8.out], hBw3.trans hb4, fun h => by rw [HS8.out] at h; cases h⟩
          | true =>
            cases hi3 : isNameB s3 with
            | false =>
              have HS8 := Lib.hid (show contactF p r' l = (6, p) by rw [HS7.out, if_pos (.inr hi3)])
              have hnm := isName_any s2 (w2.alloc (.cells #[.int .i64 sp, .int .i64 na] 52)) (by omega)
              have hnm3 := fun W => isName_any s3 W (by omega)
              rw [hi2] at hnm
              rw [hi3] at hnm3
              clear HS7 hi2 hi3
              go_wp2_with fail
              refine hnm.mono ?_
              rintro en w4 ⟨rfl, hb4⟩
              have u0 := (q03.bel hb4).cell 1 rfl
              have u3 := (hBw3.trans hb4).cell d3
              go_wp2_with fail
              refine (hnm3 _).mono ?_
              rintro en w5 ⟨rfl, hb5⟩
              go_wp2_with fail
              exact bodyPost_ret (v := .int .i64 6) (by simp [results, Tryz.results206, go_sem]) rfl ⟨by rw [HS8.out], (hBw3.trans hb4).trans hb5, fun h => by rw [HS8.out] at h; cases h⟩
            | true =>
              have HS8 := Lib.hid (show contactF p r' l = (0, { p with rungs := p.rungs.set (p.rungs.length - 1) { r' with contacts := r'.contacts ++ [⟨kwIdx conKw s0, sp, na, s2, s3⟩] } }) by rw [HS7.out, if_neg (fun h => by rcases h with h | h; (rw [hi2] at h; cases h); (rw [hi3] at h; cases h))])
              have hnm := isName_any s2 (w2.alloc (.cells #[.int .i64 sp, .int .i64 na] 52)) (by omega)
              have hnm3 := fun W => isName_any s3 W (by omega)
              rw [hi2] at hnm
              rw [hi3] at hnm3
              clear HS7 hi2 hi3
              go_wp2_with fail
              refine hnm.mono ?_
              rintro en w4 ⟨rfl, hb4⟩
              have u0 := (q03.bel hb4).cell 1 rfl
              have u3 := (hBw3.trans hb4).cell d3
              go_wp2_with fail
              refine (hnm3 _).mono ?_
              rintro en w5 ⟨rfl, hb5⟩
              have hb35 := hb4.trans hb5
              have q05 := q03.bel hb35
              have q65 := q6.bel hb35
              have hcu5 := hcu3.bel' hb35
              have hB5 := hcu5.bel
              clear u0 u2 u3 hnm hnm3 q03 q6 hcu3 hcu q0 hBw3 hBw2 hb3 hb4 hb5 hb35
              go_wp2_with fail
              have hkeep : ∀ X : World, Bel W0 X → Blk X w.heap.size #[.int .i64 l.n, .slice (some ⟨b, off, none⟩) 4 c] 278 → Blk X w2.heap.size #[.int .i64 sp, .int .i64 na] 52 → X.cell? ⟨w.heap.size, 1, none⟩ = some (.slice (some ⟨b, off, none⟩) 4 c) ∧ X.cell? ⟨b, off, none⟩ = some (.string s0) ∧ X.cell? ⟨b, off + 2, none⟩ = some (.string s2) ∧ X.cell? ⟨b, off + 3, none⟩ = some (.string s3) ∧ X.cell? ⟨w2.heap.size, 0, none⟩ = some (.int .i64 sp) ∧ X.cell? ⟨w2.heap.size, 1, none⟩ = some (.int .i64 na) := fun X h1 h2 h3 => ⟨h2.cell 1 rfl, h1.cell d0, h1.cell d2, h1.cell d3, h3.cell 0 rfl, h3.cell 1 rfl⟩
              have hix := fun W (hb : Bel W0 W) => index_228 conKw (.slice (some ⟨0, 0, none⟩) 4 4) s0 W (kwAt (l := conKw) (henv.bel hb).contacts (by decide))
              obtain ⟨K, hK⟩ : ∃ K, K = kwIdx conKw s0 := ⟨_, rfl⟩
              have hix2 : ∀ W, Bel W0 W → Calls Tryz.prog 228 #[.slice (some ⟨0, 0, none⟩) 4 4, .string s0] W fun e w' => e = .returned (.int .i64 K) ∧ Bel W w' := by rw [hK]; exact hix
              rw [← hK] at HS8
              clear hix hK
              have kc := (hcu5.cell 1 rfl).1
              have kcf := (hcu5.cell 1 rfl).2
              have hgW : W0.heap.size ≤ g := by
                rcases hcu5.row.2 with ⟨e, _⟩ | ⟨g', cap, cur, e, hb, _⟩
                · cases e
                · injection e with e1; injection e1 with e1; injection e1 with e1; omega
              obtain ⟨cur, hgq⟩ : ∃ cur, Blk w5 g cur 33 := by
                rcases hcu5.row.2 with ⟨e, _⟩ | ⟨g', cap, cur, e, hb, hh, _⟩
                · cases e
                · injection e with e1; injection e1 with e1; injection e1 with e1; subst e1; exact ⟨cur, hh⟩
              have hg0 : g ≠ w.heap.size := fun e => by
                have h1 := hgq; rw [e] at h1
                have := h1.symm.trans q05
                injection this with this; injection this with _ this; cases this
              have hg6 : g ≠ w2.heap.size := fun e => by
                have h1 := hgq; rw [e] at h1
                have := h1.symm.trans q65
                injection this with this; injection this with _ this; cases this
              have hcl256 : r'.contacts.length < 1000 := by omega
              obtain ⟨V, hV⟩ : ∃ V : Nat → Bool, V = fun j => !(j == 25) := ⟨_, rfl⟩
              have hV3 : ∀ j, V j = false → j = 25 := fun j hj => by
                rw [hV] at hj
                simpa using hj
              have hv25 : V 25 = false := by rw [hV]; rfl
              obtain ⟨S0, hS0e⟩ : ∃ S0 : World → Prop, S0 = fun w' => w'.cell? ⟨g, (p.rungs.length - 1) * 4 + 1, none⟩ = some (.slice Ac r'.contacts.length cc) ∧ w'.cell? ⟨w.heap.size, 1, none⟩ = some (.slice (some ⟨b, off, none⟩) 4 c) ∧ w'.cell? ⟨b, off, none⟩ = some (.string s0) ∧ w'.cell? ⟨b, off + 2, none⟩ = some (.string s2) ∧ w'.cell? ⟨b, off + 3, none⟩ = some (.string s3) ∧ w'.cell? ⟨w2.heap.size, 0, none⟩ = some (.int .i64 sp) ∧ w'.cell? ⟨w2.heap.size, 1, none⟩ = some (.int .i64 na) := ⟨_, rfl⟩
              have hSe : ∀ w', S0 w' → w'.cell? ⟨g, (p.rungs.length - 1) * 4 + 1, none⟩ = some (.slice Ac r'.contacts.length cc) ∧ w'.cell? ⟨w.heap.size, 1, none⟩ = some (.slice (some ⟨b, off, none⟩) 4 c) ∧ w'.cell? ⟨b, off, none⟩ = some (.string s0) ∧ w'.cell? ⟨b, off + 2, none⟩ = some (.string s2) ∧ w'.cell? ⟨b, off + 3, none⟩ = some (.string s3) ∧ w'.cell? ⟨w2.heap.size, 0, none⟩ = some (.int .i64 sp) ∧ w'.cell? ⟨w2.heap.size, 1, none⟩ = some (.int .i64 na) := by rw [hS0e]; exact fun _ h => h
              have hSm : ∀ X : World, Bel W0 X → Blk X w.heap.size #[.int .i64 l.n, .slice (some ⟨b, off, none⟩) 4 c] 278 → Blk X w2.heap.size #[.int .i64 sp, .int .i64 na] 52 → X.cell? ⟨g, (p.rungs.length - 1) * 4 + 1, none⟩ = some (.slice Ac r'.contacts.length cc) → S0 X := by
                rw [hS0e]
                exact fun X h1 h2 h3 hc => ⟨hc, h2.cell 1 rfl, h1.cell d0, h1.cell d2, h1.cell d3, h3.cell 0 rfl, h3.cell 1 rfl⟩
              have hmix : Tryz.prog.follows .mixedOrders = true := by kernel_rfl
              clear hS0e hV
              refine wp_region_T (S := S0) (V := V) hmix (fun w0 hw0 => ?_)
              have hb0 : Bel w5 w0 := by rw [hw0]; exact (Bel.refl _).drew
              have hcu0 := hcu5.bel' hb0; have q00 := q05.bel hb0; have q60 := q65.bel hb0
              have hS0 := hSm w0 hcu0.bel q00 q60 (hb0.cell kc)
              have hix0 := hix2 w0 hcu0.bel
              clear hw0 hix2 hcu5 q05 q65
              refine wpAnyT_take (S0 := fun _ => True) (i := 0) (oi := { dst := some 59, op := _, type := _, pos := _, after := _, guard := _ }) (v := ?_) rfl (by kernel_rfl) (by kernel_rfl) (by kernel_rfl) (fun _ _ _ h => h) (Stands.free 0) (ClosedL.start _) (Or.inl ⟨by rfl, ?_⟩) trivial ?_
              rotate_left 1
              · (intro w hw; go_simp; try with_reducible rfl)
              intro hcl
              try simp only [Act.put, List.setIfInBounds_toArray, List.set_cons_zero, List.set_cons_succ]
              refine wpAnyT_take (S0 := fun _ => True) (i := 1) (oi := { dst := some 60, op := _, type := _, pos := _, after := _, guard := _ }) (v := ?_) rfl (by kernel_rfl) (by kernel_rfl) (by kernel_rfl) (fun _ _ _ h => h) (Stands.free 1) hcl (Or.inl ⟨by rfl, ?_⟩) trivial ?_
              rotate_left 1
              · (intro w hw; go_simp; try with_reducible rfl)
              intro hcl
              try simp only [Act.put, List.setIfInBounds_toArray, List.set_cons_zero, List.set_cons_succ]
              refine wpAnyT_take (S0 := fun _ => True) (i := 2) (oi := { dst := some 61, op := _, type := _, pos := _, after := _, guard := _ }) (v := ?_) rfl (by kernel_rfl) (by kernel_rfl) (by kernel_rfl) (fun _ _ _ h => h) (Stands.free 2) hcl (Or.inl ⟨by rfl, ?_⟩) trivial ?_
              rotate_left 1
              · (intro w hw; go_simp; try with_reducible rfl)
              intro hcl
              try simp only [Act.put, List.setIfInBounds_toArray, List.set_cons_zero, List.set_cons_succ]
              refine wpAnyT_take (S0 := fun _ => True) (i := 3) (oi := { dst := some 62, op := _, type := _, pos := _, after := _, guard := _ }) (v := ?_) rfl (by kernel_rfl) (by kernel_rfl) (by kernel_rfl) (fun _ _ _ h => h) (Stands.free 3) hcl (Or.inl ⟨by rfl, ?_⟩) trivial ?_
              rotate_left 1
              · (intro w hw; go_simp; try with_reducible rfl)
              intro hcl
              try simp only [Act.put, List.setIfInBounds_toArray, List.set_cons_zero, List.set_cons_succ]
              refine wpAnyT_take (S0 := S0) (i := 4) (oi := { dst := some 63, op := _, type := _, pos := _, after := _, guard := _ }) (v := ?_) rfl (by kernel_rfl) (by kernel_rfl) (by kernel_rfl) (fun _ _ _ h => h) (Stands.of_chains 0 ?_) hcl (Or.inl ⟨by rfl, ?_⟩) hS0 ?_
              rotate_left 1
              · intro j hj
                obtain rfl := hV3 j hj
                exact ⟨4, [], by kernel_rfl, rfl⟩
              · (intro w hw; obtain ⟨s0_, s1_, s2_, s3_, s4_, s5_, s6_⟩ := hSe w hw; go_simp; try with_reducible rfl)
              intro hcl
              try simp only [Act.put, List.setIfInBounds_toArray, List.set_cons_zero, List.set_cons_succ]
              refine wpAnyT_take (S0 := fun _ => True) (i := 5) (oi := { dst := some 64, op := _, type := _, pos := _, after := _, guard := _ }) (v := ?_) rfl (by kernel_rfl) (by kernel_rfl) (by kernel_rfl) (fun _ _ _ h => h) (Stands.free 5) hcl (Or.inl ⟨by rfl, ?_⟩) trivial ?_
              rotate_left 1
              · (intro w hw; go_simp; try with_reducible rfl)
              intro hcl
              try simp only [Act.put, List.setIfInBounds_toArray, List.set_cons_zero, List.set_cons_succ]
              refine wpAnyT_take (S0 := fun _ => True) (i := 6) (oi := { dst := some 65, op := _, type := _, pos := _, after := _, guard := _ }) (v := ?_) rfl (by kernel_rfl) (by kernel_rfl) (by kernel_rfl) (fun _ _ _ h => h) (Stands.free 6) hcl (Or.inl ⟨by rfl, ?_⟩) trivial ?_
              rotate_left 1
              · (intro w hw; go_simp; try with_reducible rfl)
              intro hcl
              try simp only [Act.put, List.setIfInBounds_toArray, List.set_cons_zero, List.set_cons_succ]
              refine wpAnyT_take (S0 := S0) (i := 7) (oi := { dst := some 66, op := _, type := _, pos := _, after := _, guard := _ }) (v := ?_) rfl (by kernel_rfl) (by kernel_rfl) (by kernel_rfl) (fun _ _ _ h => h) (Stands.of_chains 0 ?_) hcl (Or.inl ⟨by rfl, ?_⟩) hS0 ?_
              rotate_left 1
              · intro j hj
                obtain rfl := hV3 j hj
                exact ⟨7, [], by kernel_rfl, rfl⟩
              · (intro w hw; obtain ⟨s0_, s1_, s2_, s3_, s4_, s5_, s6_⟩ := hSe w hw; go_simp; try with_reducible rfl)
              intro hcl
              try simp only [Act.put, List.setIfInBounds_toArray, List.set_cons_zero, List.set_cons_succ]
              refine wpAnyT_take (S0 := fun _ => True) (i := 8) (oi := { dst := some 67, op := _, type := _, pos := _, after := _, guard := _ }) (v := ?_) rfl (by kernel_rfl) (by kernel_rfl) (by kernel_rfl) (fun _ _ _ h => h) (Stands.free 8) hcl (Or.inl ⟨by rfl, ?_⟩) trivial ?_
              rotate_left 1
              · (intro w hw; go_simp; try with_reducible rfl)
              intro hcl
              try simp only [Act.put, List.setIfInBounds_toArray, List.set_cons_zero, List.set_cons_succ]
              refine wpAnyT_take (S0 := S0) (i := 9) (oi := { dst := some 68, op := _, type := _, pos := _, after := _, guard := _ }) (v := ?_) rfl (by kernel_rfl) (by kernel_rfl) (by kernel_rfl) (fun _ _ _ h => h) (Stands.of_chains 0 ?_) hcl (Or.inl ⟨by rfl, ?_⟩) hS0 ?_
              rotate_left 1
              · intro j hj
                obtain rfl := hV3 j hj
                exact ⟨9, [], by kernel_rfl, rfl⟩
              · (intro w hw; obtain ⟨s0_, s1_, s2_, s3_, s4_, s5_, s6_⟩ := hSe w hw; go_simp; try with_reducible rfl)
              intro hcl
              try simp only [Act.put, List.setIfInBounds_toArray, List.set_cons_zero, List.set_cons_succ]
              refine wpAnyT_take (S0 := S0) (i := 11) (oi := { dst := some 70, op := _, type := _, pos := _, after := _, guard := _ }) (v := ?_) rfl (by kernel_rfl) (by kernel_rfl) (by kernel_rfl) (fun _ _ _ h => h) (Stands.of_chains 0 ?_) hcl (Or.inl ⟨by rfl, ?_⟩) hS0 ?_
              rotate_left 1
              · intro j hj
                obtain rfl := hV3 j hj
                exact ⟨11, [], by kernel_rfl, rfl⟩
              · (intro w hw; obtain ⟨s0_, s1_, s2_, s3_, s4_, s5_, s6_⟩ := hSe w hw; go_simp; try with_reducible rfl)
              intro hcl
              try simp only [Act.put, List.setIfInBounds_toArray, List.set_cons_zero, List.set_cons_succ]
              refine wpAnyT_take (S0 := fun _ => True) (i := 12) (oi := { dst := some 71, op := _, type := _, pos := _, after := _, guard := _ }) (v := ?_) rfl (by kernel_rfl) (by kernel_rfl) (by kernel_rfl) (fun _ _ _ h => h) (Stands.free 12) hcl (Or.inl ⟨by rfl, ?_⟩) trivial ?_
              rotate_left 1
              · (intro w hw; go_simp; try with_reducible rfl)
              intro hcl
              try simp only [Act.put, List.setIfInBounds_toArray, List.set_cons_zero, List.set_cons_succ]
              refine wpAnyT_take (S0 := S0) (i := 13) (oi := { dst := some 72, op := _, type := _, pos := _, after := _, guard := _ }) (v := ?_) rfl (by kernel_rfl) (by kernel_rfl) (by kernel_rfl) (fun _ _ _ h => h) (Stands.of_chains 0 ?_) hcl (Or.inl ⟨by rfl, ?_⟩) hS0 ?_
              rotate_left 1
              · intro j hj
                obtain rfl := hV3 j hj
                exact ⟨13, [], by kernel_rfl, rfl⟩
              · (intro w hw; obtain ⟨s0_, s1_, s2_, s3_, s4_, s5_, s6_⟩ := hSe w hw; go_simp; try with_reducible rfl)
              intro hcl
              try simp only [Act.put, List.setIfInBounds_toArray, List.set_cons_zero, List.set_cons_succ]
              refine wpAnyT_take (S0 := fun _ => True) (i := 14) (oi := { dst := some 73, op := _, type := _, pos := _, after := _, guard := _ }) (v := ?_) rfl (by kernel_rfl) (by kernel_rfl) (by kernel_rfl) (fun _ _ _ h => h) (Stands.free 14) hcl (Or.inl ⟨by rfl, ?_⟩) trivial ?_
              rotate_left 1
              · (intro w hw; go_simp; try with_reducible rfl)
              intro hcl
              try simp only [Act.put, List.setIfInBounds_toArray, List.set_cons_zero, List.set_cons_succ]
              refine wpAnyT_take (S0 := S0) (i := 15) (oi := { dst := some 74, op := _, type := _, pos := _, after := _, guard := _ }) (v := ?_) rfl (by kernel_rfl) (by kernel_rfl) (by kernel_rfl) (fun _ _ _ h => h) (Stands.of_chains 0 ?_) hcl (Or.inl ⟨by rfl, ?_⟩) hS0 ?_
              rotate_left 1
              · intro j hj
                obtain rfl := hV3 j hj
                exact ⟨15, [], by kernel_rfl, rfl⟩
              · (intro w hw; obtain ⟨s0_, s1_, s2_, s3_, s4_, s5_, s6_⟩ := hSe w hw; go_simp; try with_reducible rfl)
              intro hcl
              try simp only [Act.put, List.setIfInBounds_toArray, List.set_cons_zero, List.set_cons_succ]
              refine wpAnyT_take (S0 := fun _ => True) (i := 16) (oi := { dst := some 75, op := _, type := _, pos := _, after := _, guard := _ }) (v := ?_) rfl (by kernel_rfl) (by kernel_rfl) (by kernel_rfl) (fun _ _ _ h => h) (Stands.free 16) hcl (Or.inl ⟨by rfl, ?_⟩) trivial ?_
              rotate_left 1
              · (intro w hw; go_simp; try with_reducible rfl)
              intro hcl
              try simp only [Act.put, List.setIfInBounds_toArray, List.set_cons_zero, List.set_cons_succ]
              refine wpAnyT_take (S0 := S0) (i := 17) (oi := { dst := some 76, op := _, type := _, pos := _, after := _, guard := _ }) (v := ?_) rfl (by kernel_rfl) (by kernel_rfl) (by kernel_rfl) (fun _ _ _ h => h) (Stands.of_chains 0 ?_) hcl (Or.inl ⟨by rfl, ?_⟩) hS0 ?_
              rotate_left 1
              · intro j hj
                obtain rfl := hV3 j hj
                exact ⟨17, [], by kernel_rfl, rfl⟩
              · (intro w hw; obtain ⟨s0_, s1_, s2_, s3_, s4_, s5_, s6_⟩ := hSe w hw; go_simp; try with_reducible rfl)
              intro hcl
              try simp only [Act.put, List.setIfInBounds_toArray, List.set_cons_zero, List.set_cons_succ]
              refine wpAnyT_take (S0 := fun _ => True) (i := 18) (oi := { dst := some 77, op := _, type := _, pos := _, after := _, guard := _ }) (v := ?_) rfl (by kernel_rfl) (by kernel_rfl) (by kernel_rfl) (fun _ _ _ h => h) (Stands.free 18) hcl (Or.inl ⟨by rfl, ?_⟩) trivial ?_
              rotate_left 1
              · (intro w hw; go_simp; try with_reducible rfl)
              intro hcl
              try simp only [Act.put, List.setIfInBounds_toArray, List.set_cons_zero, List.set_cons_succ]
              refine wpAnyT_take (S0 := S0) (i := 19) (oi := { dst := some 78, op := _, type := _, pos := _, after := _, guard := _ }) (v := ?_) rfl (by kernel_rfl) (by kernel_rfl) (by kernel_rfl) (fun _ _ _ h => h) (Stands.of_chains 0 ?_) hcl (Or.inl ⟨by rfl, ?_⟩) hS0 ?_
              rotate_left 1
              · intro j hj
                obtain rfl := hV3 j hj
                exact ⟨19, [], by kernel_rfl, rfl⟩
              · (intro w hw; obtain ⟨s0_, s1_, s2_, s3_, s4_, s5_, s6_⟩ := hSe w hw; go_simp; try with_reducible rfl)
              intro hcl
              try simp only [Act.put, List.setIfInBounds_toArray, List.set_cons_zero, List.set_cons_succ]
              refine wpAnyT_all (rs := [10]) (by kernel_rfl) (by simp) hcl ?_
              intro i hi hcl
              obtain rfl := List.mem_singleton.1 hi
              refine op_of (oi := { dst := some 69, op := _, type := _, pos := _, after := _, guard := _ }) rfl ?_
              go_simp
              go_at_call 228
              refine hix0.mono ?_
              rintro en w6 ⟨rfl, hb6⟩
              have hcu6 := hcu0.bel' hb6; have q06 := q00.bel hb6; have q66 := q60.bel hb6
              have kc6 := (hb0.trans hb6).cell kc
              have hS6 := hSm w6 hcu6.bel q06 q66 kc6
              clear hix0
              refine ⟨fun _ _ => hS6, ?_⟩
              try simp only [Act.put, List.setIfInBounds_toArray, List.set_cons_zero, List.set_cons_succ]
              refine wpAnyT_take (S0 := fun _ => True) (i := 20) (oi := { dst := some 79, op := _, type := _, pos := _, after := _, guard := _ }) (v := .agg #[.int .i64 K, .int .i64 sp, .int .i64 na, .string s2, .string s3]) rfl (by kernel_rfl) (by kernel_rfl) (by kernel_rfl) (fun _ _ _ h => h) (Stands.free 20) hcl (Or.inl ⟨by rfl, ?_⟩) trivial ?_
              · exact fun w _ => yields_build rfl (by kernel_rfl) w
              intro hcl
              try simp only [Act.put, List.setIfInBounds_toArray, List.set_cons_zero, List.set_cons_succ]
              refine wpAnyT_all (rs := [21]) (by kernel_rfl) (by simp) hcl ?_
              intro i hi hcl
              obtain rfl := List.mem_singleton.1 hi
              refine op_of (oi := { dst := some 80, op := _, type := _, pos := _, after := _, guard := _ }) rfl ?_
              go_simp
              try simp only [Act.put, List.setIfInBounds_toArray, List.set_cons_zero, List.set_cons_succ]
              have hnb : Blk (w6.alloc (.cells #[.int .i64 K, .int .i64 sp, .int .i64 na, .string s2, .string s3] 108)) w6.heap.size #[.int .i64 K, .int .i64 sp, .int .i64 na, .string s2, .string s3] 108 := Blk.new w6 _ _
              have hb6a : Bel w6 (w6.alloc (.cells #[.int .i64 K, .int .i64 sp, .int .i64 na, .string s2, .string s3] 108)) := (Bel.refl w6).alloc _
              have hcu7 := hcu6.bel' hb6a; have q07 := q06.bel hb6a; have q67 := q66.bel hb6a
              have hS7 := hSm _ hcu7.bel q07 q67 (hb6a.cell kc6)
              refine ⟨fun _ _ => hS7, ?_⟩
              generalize (w6.alloc (.cells #[.int .i64 K, .int .i64 sp, .int .i64 na, .string s2, .string s3] 108)) = w7 at *
              have hone : ∀ u ∈ [Value.int .i64 K, .int .i64 sp, .int .i64 na, .string s2, .string s3], u.oneCell' = true := by
                intro u hu; simp at hu; rcases hu with rfl | rfl | rfl | rfl | rfl <;> rfl
              refine wpAnyT_all (rs := [22]) (by kernel_rfl) (by simp) hcl ?_
              intro i hi hcl
              obtain rfl := List.mem_singleton.1 hi
              refine op_of (oi := { dst := some 81, op := _, type := _, pos := _, after := _, guard := _ }) rfl ?_
              refine step_app und30 info108 (by rfl) (by decide) (by decide) (by rfl) (.tmp 63) (.tmp 80) (by rfl) (by rfl) hcu7.con (m := 1) (news := [Value.int .i64 K, .int .i64 sp, .int .i64 na, .string s2, .string s3]) (by rfl) (by rfl) hnb.news hone (by decide) (by omega) hcu7.fr.size ?_
              intro gc cap w8 ho8 hgr htf hat
              try simp only [Act.put, List.setIfInBounds_toArray, List.set_cons_zero, List.set_cons_succ]
              have hB8 := hcu7.bel.tfr (htf.mono (show W0.heap.size ≤ W1.heap.size from hcu7.bel1.size)) (by decide)
              have q08 := htf.blk q07 (.inr (by decide)); have q68 := htf.blk q67 (.inr (by decide))
              have kc8 := own_cell (own_tfr hcu7.row htf (by decide)) _ (hcu7.cel 1 _ rfl)
              have kc81 := kc8.1; have kc82 := kc8.2
              have hS8 := hSm w8 hB8 q08 q68 kc81
              refine ⟨fun _ _ => hS8, ?_⟩
              refine wpAnyT_take (S0 := fun _ => True) (i := 23) (oi := { dst := some 82, op := _, type := _, pos := _, after := _, guard := _ }) (v := ?_) rfl (by kernel_rfl) (by kernel_rfl) (by kernel_rfl) (fun _ _ _ h => h) (Stands.free 23) hcl (Or.inl ⟨by rfl, ?_⟩) trivial ?_
              rotate_left 1
              · (intro w hw; go_simp; try with_reducible rfl)
              intro hcl
              try simp only [Act.put, List.setIfInBounds_toArray, List.set_cons_zero, List.set_cons_succ]
              refine wpAnyT_take (S0 := fun _ => True) (i := 24) (oi := { dst := some 83, op := _, type := _, pos := _, after := _, guard := _ }) (v := ?_) rfl (by kernel_rfl) (by kernel_rfl) (by kernel_rfl) (fun _ _ _ h => h) (Stands.free 24) hcl (Or.inl ⟨by rfl, ?_⟩) trivial ?_
              rotate_left 1
              · (intro w hw; go_simp; try with_reducible rfl)
              intro hcl
              try simp only [Act.put, List.setIfInBounds_toArray, List.set_cons_zero, List.set_cons_succ]
              have hgr' : World.grownBy _ w8 (Value.slice Ac r'.contacts.length cc).ownBlock := hgr
              have hPS := hcu7.contacts hn (x := ⟨K, sp, na, s2, s3⟩) ho8 hgr' htf
              refine wpAnyT_all (rs := [25]) (by kernel_rfl) (by simp) hcl ?_
              intro i hi hcl
              obtain rfl := List.mem_singleton.1 hi
              refine op_of (oi := { dst := none, op := _, type := _, pos := _, after := _, guard := _ }) rfl ?_
              go_simp
              try simp only [Act.put, List.setIfInBounds_toArray, List.set_cons_zero, List.set_cons_succ]
              refine wpAnyT_done (by kernel_rfl) ?_ _
              go_wp2_with fail
              exact bodyPost_ret (v := .int .i64 0) (by simp [results, Tryz.results206, go_sem]) rfl ⟨by rw [HS8.out], hPS.bel, fun _ => ⟨W1, MapsKept.refl _, by rw [HS8.out]; exact hPS⟩⟩
        · have HS6 := Lib.hid (show contactF p r' l = (er, p) by rw [HS5.out, if_pos her])
          have hz1 : (er == 0) = false := by simpa using her
          have hz2 : (er != 0) = true := by simpa using her
          have Her := Lib.hid her
          clear HS5 her
          go_wp2_with fail
          exact bodyPost_ret (v := .int .i64 er) (by simp [results, Tryz.results206, go_sem]) rfl ⟨by rw [HS6.out], hBw2.alloc _, fun h => by rw [HS6.out] at h; exact absurd h Her.out⟩
    · have HS2 := Lib.hid (show contactF p r' l = (17, p) by rw [HS.out, if_pos (.inr hju)])
      have hjn := strNe hju
      clear HS
      go_wp2_with fail
      exact bodyPost_ret (v := .int .i64 17) (by simp [results, Tryz.results206, go_sem]) rfl ⟨by rw [HS2.out], hBw1, fun h => by rw [HS2.out] at h; cases h⟩
end Go.Proofs.YtbgilebgdbgddaaGreatDoor
