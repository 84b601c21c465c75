/- slices.IndexFunc, slices.ContainsFunc at the types of this program, at whatever predicate. No condition. -/
import Derived.Test.YtbgilebgdbgddaaGreatDoorBas
set_option linter.unusedVariables false
set_option linter.unusedSimpArgs false
namespace Go.Proofs.YtbgilebgdbgddaaGreatDoor
open Go.RowKit
def idxOf {α : Type} (p : α → Bool) (xs : List α) : Int := match xs.findIdx? p with | some i => (i : Int) | none => -1
theorem take_succ_of {α : Type} {xs : List α} {k : Nat} (h : k < xs.length) : xs.take (k + 1) = xs.take k ++ [xs[k]] := by
  rw [List.take_succ_eq_append_getElem h]
theorem all_snoc {α : Type} {p : α → Bool} {l : List α} {x : α} (h : ∀ y ∈ l, p y = false) (hx : p x = false) : ∀ y ∈ l ++ [x], p y = false := by
  intro y hy
  rcases List.mem_append.1 hy with h' | h'
  · exact h y h'
  · rw [List.mem_singleton.1 h']; exact hx
theorem findIdx_hit {α : Type} (p : α → Bool) : ∀ (xs : List α) (k : Nat) (h : k < xs.length), (∀ y ∈ xs.take k, p y = false) → p xs[k] = true → xs.findIdx? p = some k := by
  intro xs
  induction xs with
  | nil => intro k h; simp at h
  | cons a l ih =>
    intro k h h1 h2
    cases k with
    | zero => simp only [List.getElem_cons_zero] at h2; simp [List.findIdx?_cons, h2]
    | succ k =>
      have ha : p a = false := h1 a (by simp)
      simp only [List.getElem_cons_succ] at h2
      have := ih k (by simpa using h) (fun y hy => h1 y (by simp [hy])) h2
      simp [List.findIdx?_cons, ha, this]
theorem idxOf_hit {α : Type} {p : α → Bool} {xs : List α} {k : Nat} (h : k < xs.length) : (∀ y ∈ xs.take k, p y = false) → p xs[k] = true → idxOf p xs = k := by
  intro h1 h2
  unfold idxOf
  rw [findIdx_hit p xs k h h1 h2]
theorem idxOf_none {α : Type} {p : α → Bool} {xs : List α} (h : ∀ y ∈ xs, p y = false) : idxOf p xs = -1 := by
  unfold idxOf
  have : xs.findIdx? p = none := by
    rw [List.findIdx?_eq_none_iff]
    intro x hx; simp [h x hx]
  rw [this]
theorem idxOf_any {α : Type} (p : α → Bool) (xs : List α) : decide (0 ≤ idxOf p xs) = xs.any p := by
  unfold idxOf
  cases h : xs.findIdx? p with
  | none =>
    rw [List.findIdx?_eq_none_iff] at h
    have : xs.any p = false := by
      rw [List.any_eq_false]
      intro x hx; simp [h x hx]
    rw [this]; rfl
  | some i =>
    have : xs.findIdx? p ≠ none := by rw [h]; simp
    rw [ne_eq, List.findIdx?_eq_none_iff] at this
    have h2 : xs.any p = true := by
      rw [List.any_eq_true]
      apply Classical.byContradiction
      intro hc
      apply this
      intro x hx
      cases hpx : p x
      · rfl
      · exact absurd ⟨x, hx, hpx⟩ hc
    rw [h2]; simp
theorem idxF_147 {α : Type} {E : Enc α} (hE : E.Mono) {p : α → Bool} (g : Nat) (lb : Array Value) (eg : ∀ args w, (callFunc g args).run Tryz.prog w = .ok (.enter g args) w) (xs : List α) (v : Value) (w : World) (hs : SlAt E 4 w v xs)
    (hcall : ∀ x cs w', Bel w w' → E w' x cs → cs.length = 4 → x ∈ xs → Calls Tryz.prog g (#[.agg cs.toArray] ++ lb) w' fun e w'' => e = .returned (.bool (p x)) ∧ Bel w' w'') :
    Calls Tryz.prog 147 #[v, .func (.func g) #[] lb] w fun e w' => e = .returned (.int .i64 (idxOf p xs)) ∧ Bel w w' := by
  obtain ⟨a, cap, rfl, hl, hcap, hx⟩ := hs.ex
  go_enter Tryz.func147, Tryz.ntmps147
  go_wp2_with fail
  go_loopw [5, 8] (fun _ i wr => ∃ k : Nat, k ≤ xs.length ∧ i = .int .i64 k ∧ (∀ x ∈ xs.take k, p x = false) ∧ Bel w wr) (fun _ i _ => xs.length - (intOf i).toNat)
  case atStart => exact ⟨0, Nat.zero_le _, rfl, by simp, Bel.refl _⟩
  case round =>
    obtain ⟨k, hk, rfl, hno, hb⟩ := hrel
    have Hno := Lib.hid hno; clear hno
    by_cases hlt : k < xs.length
    · obtain ⟨b, off, cs, rfl, he, hsz, hcs⟩ := hx k _ (List.getElem?_eq_getElem hlt)
      obtain ⟨c0, c1, c2, c3, rfl⟩ : ∃ c0 c1 c2 c3, cs = [c0, c1, c2, c3] := by
        match cs, hsz with
        | [c0, c1, c2, c3], _ => exact ⟨c0, c1, c2, c3, rfl⟩
      have hc := hcall xs[k] _ wr hb (hE _ _ _ _ he hb) rfl (List.getElem_mem hlt)
      have d0 := hb.cell (hcs 0 _ rfl)
      simp only [Nat.add_zero] at d0
      have d1 := hb.cell (hcs 1 _ rfl)
      have d2 := hb.cell (hcs 2 _ rfl)
      have d3 := hb.cell (hcs 3 _ rfl)
      clear hcs hx hsz he
      have HT := Lib.hid (take_succ_of hlt)
      have HI := Lib.hid (idxOf_hit (p := p) hlt)
      generalize xs[k] = x at *
      generalize hp : p x = q at *
      have Hp := Lib.hid hp; clear hp
      have Hc := Lib.hid hc; clear hc hcall
      cases q
      · go_wp2_with ((try rw [eg]); refine Calls.mono (Hc.out) ?_; rintro e w1 ⟨rfl, hb1⟩)
        go_roundw
        case rel => exact ⟨k + 1, by omega, by go_num, by rw [HT.out]; exact all_snoc Hno.out Hp.out, hb.trans hb1⟩
        case measure => simp [intOf]; omega
      · go_wp2_with ((try rw [eg]); refine Calls.mono (Hc.out) ?_; rintro e w1 ⟨rfl, hb1⟩)
        go_ret
        exact ⟨by rw [HI.out Hno.out (by first | exact Hp.out | trivial)]; rfl, hb.trans hb1⟩
    · go_wp2_with fail
      go_ret
      refine ⟨?_, hb⟩
      have := Hno.out
      rw [List.take_of_length_le (by omega)] at this
      rw [idxOf_none this]; rfl
theorem contF_97 {α : Type} {E : Enc α} (hE : E.Mono) {p : α → Bool} (g : Nat) (lb : Array Value) (eg : ∀ args w, (callFunc g args).run Tryz.prog w = .ok (.enter g args) w) (xs : List α) (v : Value) (w : World) (hs : SlAt E 4 w v xs)
    (hcall : ∀ x cs w', Bel w w' → E w' x cs → cs.length = 4 → x ∈ xs → Calls Tryz.prog g (#[.agg cs.toArray] ++ lb) w' fun e w'' => e = .returned (.bool (p x)) ∧ Bel w' w'') :
    Calls Tryz.prog 97 #[v, .func (.func g) #[] lb] w fun e w' => e = .returned (.bool (xs.any p)) ∧ Bel w w' := by
  have H := Lib.hid (idxF_147 hE g lb eg xs v w hs hcall)
  have HA := Lib.hid (idxOf_any p xs)
  obtain ⟨a, cap, rfl, hl, hcap, _⟩ := hs.ex
  clear hcall
  generalize idxOf p xs = k at *
  by_cases hk : 0 ≤ k
  all_goals
    go_enter Tryz.func97, Tryz.ntmps97
    go_wp2_with (go_at_call 147; refine Calls.mono H.out ?_; rintro e w1 ⟨rfl, hb⟩)
    go_ret
    exact ⟨by rw [← HA.out]; simp [hk]; first | done | omega, hb⟩
theorem idxF_279 {α : Type} {E : Enc α} (hE : E.Mono) {p : α → Bool} (g : Nat) (lb : Array Value) (eg : ∀ args w, (callFunc g args).run Tryz.prog w = .ok (.enter g args) w) (xs : List α) (v : Value) (w : World) (hs : SlAt E 5 w v xs)
    (hcall : ∀ x cs w', Bel w w' → E w' x cs → cs.length = 5 → x ∈ xs → Calls Tryz.prog g (#[.agg cs.toArray] ++ lb) w' fun e w'' => e = .returned (.bool (p x)) ∧ Bel w' w'') :
    Calls Tryz.prog 279 #[v, .func (.func g) #[] lb] w fun e w' => e = .returned (.int .i64 (idxOf p xs)) ∧ Bel w w' := by
  obtain ⟨a, cap, rfl, hl, hcap, hx⟩ := hs.ex
  go_enter Tryz.func279, Tryz.ntmps279
  go_wp2_with fail
  go_loopw [5, 8] (fun _ i wr => ∃ k : Nat, k ≤ xs.length ∧ i = .int .i64 k ∧ (∀ x ∈ xs.take k, p x = false) ∧ Bel w wr) (fun _ i _ => xs.length - (intOf i).toNat)
  case atStart => exact ⟨0, Nat.zero_le _, rfl, by simp, Bel.refl _⟩
  case round =>
    obtain ⟨k, hk, rfl, hno, hb⟩ := hrel
    have Hno := Lib.hid hno; clear hno
    by_cases hlt : k < xs.length
    · obtain ⟨b, off, cs, rfl, he, hsz, hcs⟩ := hx k _ (List.getElem?_eq_getElem hlt)
      obtain ⟨c0, c1, c2, c3, c4, rfl⟩ : ∃ c0 c1 c2 c3 c4, cs = [c0, c1, c2, c3, c4] := by
        match cs, hsz with
        | [c0, c1, c2, c3, c4], _ => exact ⟨c0, c1, c2, c3, c4, rfl⟩
      have hc := hcall xs[k] _ wr hb (hE _ _ _ _ he hb) rfl (List.getElem_mem hlt)
      have d0 := hb.cell (hcs 0 _ rfl)
      simp only [Nat.add_zero] at d0
      have d1 := hb.cell (hcs 1 _ rfl)
      have d2 := hb.cell (hcs 2 _ rfl)
      have d3 := hb.cell (hcs 3 _ rfl)
      have d4 := hb.cell (hcs 4 _ rfl)
      clear hcs hx hsz he
      have HT := Lib.hid (take_succ_of hlt)
      have HI := Lib.hid (idxOf_hit (p := p) hlt)
      generalize xs[k] = x at *
      generalize hp : p x = q at *
      have Hp := Lib.hid hp; clear hp
      have Hc := Lib.hid hc; clear hc hcall
      cases q
      · go_wp2_with ((try rw [eg]); refine Calls.mono (Hc.out) ?_; rintro e w1 ⟨rfl, hb1⟩)
        go_roundw
        case rel => exact ⟨k + 1, by omega, by go_num, by rw [HT.out]; exact all_snoc Hno.out Hp.out, hb.trans hb1⟩
        case measure => simp [intOf]; omega
      · go_wp2_with ((try rw [eg]); refine Calls.mono (Hc.out) ?_; rintro e w1 ⟨rfl, hb1⟩)
        go_ret
        exact ⟨by rw [HI.out Hno.out (by first | exact Hp.out | trivial)]; rfl, hb.trans hb1⟩
    · go_wp2_with fail
      go_ret
      refine ⟨?_, hb⟩
      have := Hno.out
      rw [List.take_of_length_le (by omega)] at this
      rw [idxOf_none this]; rfl
theorem contF_252 {α : Type} {E : Enc α} (hE : E.Mono) {p : α → Bool} (g : Nat) (lb : Array Value) (eg : ∀ args w, (callFunc g args).run Tryz.prog w = .ok (.enter g args) w) (xs : List α) (v : Value) (w : World) (hs : SlAt E 5 w v xs)
    (hcall : ∀ x cs w', Bel w w' → E w' x cs → cs.length = 5 → x ∈ xs → Calls Tryz.prog g (#[.agg cs.toArray] ++ lb) w' fun e w'' => e = .returned (.bool (p x)) ∧ Bel w' w'') :
    Calls Tryz.prog 252 #[v, .func (.func g) #[] lb] w fun e w' => e = .returned (.bool (xs.any p)) ∧ Bel w w' := by
  have H := Lib.hid (idxF_279 hE g lb eg xs v w hs hcall)
  have HA := Lib.hid (idxOf_any p xs)
  obtain ⟨a, cap, rfl, hl, hcap, _⟩ := hs.ex
  clear hcall
  generalize idxOf p xs = k at *
  by_cases hk : 0 ≤ k
  all_goals
    go_enter Tryz.func252, Tryz.ntmps252
    go_wp2_with (go_at_call 279; refine Calls.mono H.out ?_; rintro e w1 ⟨rfl, hb⟩)
    go_ret
    exact ⟨by rw [← HA.out]; simp [hk]; first | done | omega, hb⟩
theorem idxF_269 {α : Type} {E : Enc α} (hE : E.Mono) {p : α → Bool} (g : Nat) (lb : Array Value) (eg : ∀ args w, (callFunc g args).run Tryz.prog w = .ok (.enter g args) w) (xs : List α) (v : Value) (w : World) (hs : SlAt E 5 w v xs)
    (hcall : ∀ x cs w', Bel w w' → E w' x cs → cs.length = 5 → x ∈ xs → Calls Tryz.prog g (#[.agg cs.toArray] ++ lb) w' fun e w'' => e = .returned (.bool (p x)) ∧ Bel w' w'') :
    Calls Tryz.prog 269 #[v, .func (.func g) #[] lb] w fun e w' => e = .returned (.int .i64 (idxOf p xs)) ∧ Bel w w' := by
  obtain ⟨a, cap, rfl, hl, hcap, hx⟩ := hs.ex
  go_enter Tryz.func269, Tryz.ntmps269
  go_wp2_with fail
  go_loopw [5, 8] (fun _ i wr => ∃ k : Nat, k ≤ xs.length ∧ i = .int .i64 k ∧ (∀ x ∈ xs.take k, p x = false) ∧ Bel w wr) (fun _ i _ => xs.length - (intOf i).toNat)
  case atStart => exact ⟨0, Nat.zero_le _, rfl, by simp, Bel.refl _⟩
  case round =>
    obtain ⟨k, hk, rfl, hno, hb⟩ := hrel
    have Hno := Lib.hid hno; clear hno
    by_cases hlt : k < xs.length
    · obtain ⟨b, off, cs, rfl, he, hsz, hcs⟩ := hx k _ (List.getElem?_eq_getElem hlt)
      obtain ⟨c0, c1, c2, c3, c4, rfl⟩ : ∃ c0 c1 c2 c3 c4, cs = [c0, c1, c2, c3, c4] := by
        match cs, hsz with
        | [c0, c1, c2, c3, c4], _ => exact ⟨c0, c1, c2, c3, c4, rfl⟩
      have hc := hcall xs[k] _ wr hb (hE _ _ _ _ he hb) rfl (List.getElem_mem hlt)
      have d0 := hb.cell (hcs 0 _ rfl)
      simp only [Nat.add_zero] at d0
      have d1 := hb.cell (hcs 1 _ rfl)
      have d2 := hb.cell (hcs 2 _ rfl)
      have d3 := hb.cell (hcs 3 _ rfl)
      have d4 := hb.cell (hcs 4 _ rfl)
      clear hcs hx hsz he
      have HT := Lib.hid (take_succ_of hlt)
      have HI := Lib.hid (idxOf_hit (p := p) hlt)
      generalize xs[k] = x at *
      generalize hp : p x = q at *
      have Hp := Lib.hid hp; clear hp
      have Hc := Lib.hid hc; clear hc hcall
      cases q
      · go_wp2_with ((try rw [eg]); refine Calls.mono (Hc.out) ?_; rintro e w1 ⟨rfl, hb1⟩)
        go_roundw
        case rel => exact ⟨k + 1, by omega, by go_num, by rw [HT.out]; exact all_snoc Hno.out Hp.out, hb.trans hb1⟩
        case measure => simp [intOf]; omega
      · go_wp2_with ((try rw [eg]); refine Calls.mono (Hc.out) ?_; rintro e w1 ⟨rfl, hb1⟩)
        go_ret
        exact ⟨by rw [HI.out Hno.out (by first | exact Hp.out | trivial)]; rfl, hb.trans hb1⟩
    · go_wp2_with fail
      go_ret
      refine ⟨?_, hb⟩
      have := Hno.out
      rw [List.take_of_length_le (by omega)] at this
      rw [idxOf_none this]; rfl
theorem idxF_329 {α : Type} {E : Enc α} (hE : E.Mono) {p : α → Bool} (g : Nat) (lb : Array Value) (eg : ∀ args w, (callFunc g args).run Tryz.prog w = .ok (.enter g args) w) (xs : List α) (v : Value) (w : World) (hs : SlAt E 3 w v xs)
    (hcall : ∀ x cs w', Bel w w' → E w' x cs → cs.length = 3 → x ∈ xs → Calls Tryz.prog g (#[.agg cs.toArray] ++ lb) w' fun e w'' => e = .returned (.bool (p x)) ∧ Bel w' w'') :
    Calls Tryz.prog 329 #[v, .func (.func g) #[] lb] w fun e w' => e = .returned (.int .i64 (idxOf p xs)) ∧ Bel w w' := by
  obtain ⟨a, cap, rfl, hl, hcap, hx⟩ := hs.ex
  go_enter Tryz.func329, Tryz.ntmps329
  go_wp2_with fail
  go_loopw [5, 8] (fun _ i wr => ∃ k : Nat, k ≤ xs.length ∧ i = .int .i64 k ∧ (∀ x ∈ xs.take k, p x = false) ∧ Bel w wr) (fun _ i _ => xs.length - (intOf i).toNat)
  case atStart => exact ⟨0, Nat.zero_le _, rfl, by simp, Bel.refl _⟩
  case round =>
    obtain ⟨k, hk, rfl, hno, hb⟩ := hrel
    have Hno := Lib.hid hno; clear hno
    by_cases hlt : k < xs.length
    · obtain ⟨b, off, cs, rfl, he, hsz, hcs⟩ := hx k _ (List.getElem?_eq_getElem hlt)
      obtain ⟨c0, c1, c2, rfl⟩ : ∃ c0 c1 c2, cs = [c0, c1, c2] := by
        match cs, hsz with
        | [c0, c1, c2], _ => exact ⟨c0, c1, c2, rfl⟩
      have hc := hcall xs[k] _ wr hb (hE _ _ _ _ he hb) rfl (List.getElem_mem hlt)
      have d0 := hb.cell (hcs 0 _ rfl)
      simp only [Nat.add_zero] at d0
      have d1 := hb.cell (hcs 1 _ rfl)
      have d2 := hb.cell (hcs 2 _ rfl)
      clear hcs hx hsz he
      have HT := Lib.hid (take_succ_of hlt)
      have HI := Lib.hid (idxOf_hit (p := p) hlt)
      generalize xs[k] = x at *
      generalize hp : p x = q at *
      have Hp := Lib.hid hp; clear hp
      have Hc := Lib.hid hc; clear hc hcall
      cases q
      · go_wp2_with ((try rw [eg]); refine Calls.mono (Hc.out) ?_; rintro e w1 ⟨rfl, hb1⟩)
        go_roundw
        case rel => exact ⟨k + 1, by omega, by go_num, by rw [HT.out]; exact all_snoc Hno.out Hp.out, hb.trans hb1⟩
        case measure => simp [intOf]; omega
      · go_wp2_with ((try rw [eg]); refine Calls.mono (Hc.out) ?_; rintro e w1 ⟨rfl, hb1⟩)
        go_ret
        exact ⟨by rw [HI.out Hno.out (by first | exact Hp.out | trivial)]; rfl, hb.trans hb1⟩
    · go_wp2_with fail
      go_ret
      refine ⟨?_, hb⟩
      have := Hno.out
      rw [List.take_of_length_le (by omega)] at this
      rw [idxOf_none this]; rfl
theorem contF_305 {α : Type} {E : Enc α} (hE : E.Mono) {p : α → Bool} (g : Nat) (lb : Array Value) (eg : ∀ args w, (callFunc g args).run Tryz.prog w = .ok (.enter g args) w) (xs : List α) (v : Value) (w : World) (hs : SlAt E 3 w v xs)
    (hcall : ∀ x cs w', Bel w w' → E w' x cs → cs.length = 3 → x ∈ xs → Calls Tryz.prog g (#[.agg cs.toArray] ++ lb) w' fun e w'' => e = .returned (.bool (p x)) ∧ Bel w' w'') :
    Calls Tryz.prog 305 #[v, .func (.func g) #[] lb] w fun e w' => e = .returned (.bool (xs.any p)) ∧ Bel w w' := by
  have H := Lib.hid (idxF_329 hE g lb eg xs v w hs hcall)
  have HA := Lib.hid (idxOf_any p xs)
  obtain ⟨a, cap, rfl, hl, hcap, _⟩ := hs.ex
  clear hcall
  generalize idxOf p xs = k at *
  by_cases hk : 0 ≤ k
  all_goals
    go_enter Tryz.func305, Tryz.ntmps305
    go_wp2_with (go_at_call 329; refine Calls.mono H.out ?_; rintro e w1 ⟨rfl, hb⟩)
    go_ret
    exact ⟨by rw [← HA.out]; simp [hk]; first | done | omega, hb⟩
theorem idxF_291 {α : Type} {E : Enc α} (hE : E.Mono) {p : α → Bool} (g : Nat) (lb : Array Value) (eg : ∀ args w, (callFunc g args).run Tryz.prog w = .ok (.enter g args) w) (xs : List α) (v : Value) (w : World) (hs : SlAt E 1 w v xs)
    (hcall : ∀ x cs w', Bel w w' → E w' x cs → cs.length = 1 → x ∈ xs → Calls Tryz.prog g (#[cs.headD undef] ++ lb) w' fun e w'' => e = .returned (.bool (p x)) ∧ Bel w' w'') :
    Calls Tryz.prog 291 #[v, .func (.func g) #[] lb] w fun e w' => e = .returned (.int .i64 (idxOf p xs)) ∧ Bel w w' := by
  obtain ⟨a, cap, rfl, hl, hcap, hx⟩ := hs.ex
  go_enter Tryz.func291, Tryz.ntmps291
  go_wp2_with fail
  go_loopw [5, 8] (fun _ i wr => ∃ k : Nat, k ≤ xs.length ∧ i = .int .i64 k ∧ (∀ x ∈ xs.take k, p x = false) ∧ Bel w wr) (fun _ i _ => xs.length - (intOf i).toNat)
  case atStart => exact ⟨0, Nat.zero_le _, rfl, by simp, Bel.refl _⟩
  case round =>
    obtain ⟨k, hk, rfl, hno, hb⟩ := hrel
    have Hno := Lib.hid hno; clear hno
    by_cases hlt : k < xs.length
    · obtain ⟨b, off, cs, rfl, he, hsz, hcs⟩ := hx k _ (List.getElem?_eq_getElem hlt)
      obtain ⟨c0, rfl⟩ : ∃ c0, cs = [c0] := by
        match cs, hsz with
        | [c0], _ => exact ⟨c0, rfl⟩
      have hc := hcall xs[k] _ wr hb (hE _ _ _ _ he hb) rfl (List.getElem_mem hlt)
      have d0 := hb.cell (hcs 0 _ rfl)
      simp only [Nat.add_zero] at d0
      simp only [Nat.mul_one] at d0
      clear hcs hx hsz he
      have HT := Lib.hid (take_succ_of hlt)
      have HI := Lib.hid (idxOf_hit (p := p) hlt)
      generalize xs[k] = x at *
      generalize hp : p x = q at *
      have Hp := Lib.hid hp; clear hp
      have Hc := Lib.hid hc; clear hc hcall
      cases q
      · go_wp2_with ((try rw [eg]); refine Calls.mono (Hc.out) ?_; rintro e w1 ⟨rfl, hb1⟩)
        go_roundw
        case rel => exact ⟨k + 1, by omega, by go_num, by rw [HT.out]; exact all_snoc Hno.out Hp.out, hb.trans hb1⟩
        case measure => simp [intOf]; omega
      · go_wp2_with ((try rw [eg]); refine Calls.mono (Hc.out) ?_; rintro e w1 ⟨rfl, hb1⟩)
        go_ret
        exact ⟨by rw [HI.out Hno.out (by first | exact Hp.out | trivial)]; rfl, hb.trans hb1⟩
    · go_wp2_with fail
      go_ret
      refine ⟨?_, hb⟩
      have := Hno.out
      rw [List.take_of_length_le (by omega)] at this
      rw [idxOf_none this]; rfl
theorem idxF_313 {α : Type} {E : Enc α} (hE : E.Mono) {p : α → Bool} (g : Nat) (lb : Array Value) (eg : ∀ args w, (callFunc g args).run Tryz.prog w = .ok (.enter g args) w) (xs : List α) (v : Value) (w : World) (hs : SlAt E 1 w v xs)
    (hcall : ∀ x cs w', Bel w w' → E w' x cs → cs.length = 1 → x ∈ xs → Calls Tryz.prog g (#[cs.headD undef] ++ lb) w' fun e w'' => e = .returned (.bool (p x)) ∧ Bel w' w'') :
    Calls Tryz.prog 313 #[v, .func (.func g) #[] lb] w fun e w' => e = .returned (.int .i64 (idxOf p xs)) ∧ Bel w w' := by
  obtain ⟨a, cap, rfl, hl, hcap, hx⟩ := hs.ex
  go_enter Tryz.func313, Tryz.ntmps313
  go_wp2_with fail
  go_loopw [5, 8] (fun _ i wr => ∃ k : Nat, k ≤ xs.length ∧ i = .int .i64 k ∧ (∀ x ∈ xs.take k, p x = false) ∧ Bel w wr) (fun _ i _ => xs.length - (intOf i).toNat)
  case atStart => exact ⟨0, Nat.zero_le _, rfl, by simp, Bel.refl _⟩
  case round =>
    obtain ⟨k, hk, rfl, hno, hb⟩ := hrel
    have Hno := Lib.hid hno; clear hno
    by_cases hlt : k < xs.length
    · obtain ⟨b, off, cs, rfl, he, hsz, hcs⟩ := hx k _ (List.getElem?_eq_getElem hlt)
      obtain ⟨c0, rfl⟩ : ∃ c0, cs = [c0] := by
        match cs, hsz with
        | [c0], _ => exact ⟨c0, rfl⟩
      have hc := hcall xs[k] _ wr hb (hE _ _ _ _ he hb) rfl (List.getElem_mem hlt)
      have d0 := hb.cell (hcs 0 _ rfl)
      simp only [Nat.add_zero] at d0
      simp only [Nat.mul_one] at d0
      clear hcs hx hsz he
      have HT := Lib.hid (take_succ_of hlt)
      have HI := Lib.hid (idxOf_hit (p := p) hlt)
      generalize xs[k] = x at *
      generalize hp : p x = q at *
      have Hp := Lib.hid hp; clear hp
      have Hc := Lib.hid hc; clear hc hcall
      cases q
      · go_wp2_with ((try rw [eg]); refine Calls.mono (Hc.out) ?_; rintro e w1 ⟨rfl, hb1⟩)
        go_roundw
        case rel => exact ⟨k + 1, by omega, by go_num, by rw [HT.out]; exact all_snoc Hno.out Hp.out, hb.trans hb1⟩
        case measure => simp [intOf]; omega
      · go_wp2_with ((try rw [eg]); refine Calls.mono (Hc.out) ?_; rintro e w1 ⟨rfl, hb1⟩)
        go_ret
        exact ⟨by rw [HI.out Hno.out (by first | exact Hp.out | trivial)]; rfl, hb.trans hb1⟩
    · go_wp2_with fail
      go_ret
      refine ⟨?_, hb⟩
      have := Hno.out
      rw [List.take_of_length_le (by omega)] at this
      rw [idxOf_none this]; rfl
theorem contF_293 {α : Type} {E : Enc α} (hE : E.Mono) {p : α → Bool} (g : Nat) (lb : Array Value) (eg : ∀ args w, (callFunc g args).run Tryz.prog w = .ok (.enter g args) w) (xs : List α) (v : Value) (w : World) (hs : SlAt E 1 w v xs)
    (hcall : ∀ x cs w', Bel w w' → E w' x cs → cs.length = 1 → x ∈ xs → Calls Tryz.prog g (#[cs.headD undef] ++ lb) w' fun e w'' => e = .returned (.bool (p x)) ∧ Bel w' w'') :
    Calls Tryz.prog 293 #[v, .func (.func g) #[] lb] w fun e w' => e = .returned (.bool (xs.any p)) ∧ Bel w w' := by
  have H := Lib.hid (idxF_313 hE g lb eg xs v w hs hcall)
  have HA := Lib.hid (idxOf_any p xs)
  obtain ⟨a, cap, rfl, hl, hcap, _⟩ := hs.ex
  clear hcall
  generalize idxOf p xs = k at *
  by_cases hk : 0 ≤ k
  all_goals
    go_enter Tryz.func293, Tryz.ntmps293
    go_wp2_with (go_at_call 313; refine Calls.mono H.out ?_; rintro e w1 ⟨rfl, hb⟩)
    go_ret
    exact ⟨by rw [← HA.out]; simp [hk]; first | done | omega, hb⟩
end Go.Proofs.YtbgilebgdbgddaaGreatDoor
