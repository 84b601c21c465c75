/- printer.sizes; printer.Check at a ladder that is valid: it returns the number of rungs and 0. -/
import Derived.Test.YtbgilebgdbgddaaGreatDoorPrn
set_option linter.unusedVariables false
set_option linter.unusedSimpArgs false
namespace Go.Proofs.YtbgilebgdbgddaaGreatDoor
open Go.RowKit
theorem sizes_any (i q m : Int) (a : Option Addr) (n c : Nat) (w : World) :
    Calls Tryz.prog 94 #[.agg #[.int .i64 i, .int .i64 q, .int .i64 m, .slice a n c]] w fun e w' => e = .returned (.agg #[.int .i64 i, .int .i64 q, .int .i64 m, .int .i64 0]) ∧ Bel w w' := by
  go_enter Tryz.func94, Tryz.ntmps94
  go_wp2_with fail
  exact bodyPost_ret (v := .agg #[.int .i64 i, .int .i64 q, .int .i64 m, .int .i64 0]) (by simp [results, Tryz.results94, go_sem]) rfl ⟨rfl, by repeat (first | exact Bel.refl _ | refine Bel.alloc ?_ _ | refine Bel.setCell ?_ (by simp) _)⟩
theorem SlAt.take {α : Type} {E : Enc α} {sz : Nat} {w : World} {a : Option Addr} {n c : Nat} {xs : List α} (h : SlAt E sz w (.slice a n c) xs) (k : Nat) (hk : k ≤ xs.length) : SlAt E sz w (.slice a k c) (xs.take k) := by
  obtain ⟨a', cap, hv, hl, hc, hx⟩ := h.ex
  injection hv with h1 h2 h3
  subst h1; subst h2; subst h3
  refine ⟨_, _, by rw [List.length_take]; congr 1; omega, by rw [List.length_take]; omega, hc, fun i x hi => ?_⟩
  rw [List.getElem?_take] at hi
  split at hi
  · exact hx i x hi
  · cases hi
theorem SlAt.drop {α : Type} {E : Enc α} {sz : Nat} {w : World} {b off n c : Nat} {xs : List α} (h : SlAt E sz w (.slice (some ⟨b, off, none⟩) n c) xs) (k : Nat) (hk : k ≤ xs.length) : SlAt E sz w (.slice (some ⟨b, off + k * sz, none⟩) (n - k) (c - k)) (xs.drop k) := by
  obtain ⟨a', cap, hv, hl, hc, hx⟩ := h.ex
  injection hv with h1 h2 h3
  subst h1; subst h2; subst h3
  refine ⟨_, _, by rw [List.length_drop], by rw [List.length_drop]; omega, by omega, fun i x hi => ?_⟩
  rw [List.getElem?_drop] at hi
  obtain ⟨b', off', cs, ha, he, hz, hcs⟩ := hx _ _ hi
  injection ha with ha
  injection ha with ha1 ha2
  subst ha1; subst ha2
  refine ⟨_, _, cs, rfl, he, hz, fun j u hu => ?_⟩
  have := hcs j u hu
  rw [Nat.add_mul] at this
  rwa [Nat.add_assoc off]
structure LadderOk (l : Ladder) : Prop where
  size : checkSizeF ⟨l.i, l.q, l.m, 0⟩ = 0
  n : l.rungs.length ≤ 64
  rungs : ∀ k (h : k < l.rungs.length), RungOk ⟨l.i, l.q, l.m, 0⟩ (l.rungs.take k) l.rungs[k]
  jumps : ∀ k (h : k < l.rungs.length), l.rungs[k].jump.size = 0 ∨ (l.rungs.drop (k + 1)).any (fun x => decide (x.label = l.rungs[k].jump)) = true

set_option maxRecDepth 100000 in
set_option maxHeartbeats 4000000 in
theorem check_ok (l : Ladder) (cs : List Value) (w : World) (hl : LadderE w l cs) (hok : LadderOk l) :
    Calls Tryz.prog 45 #[.agg cs.toArray] w fun en w' => en = .returned (.tuple #[.int .i64 l.rungs.length, .int .i64 0]) ∧ Bel w w' := by
  obtain ⟨v, rfl, hs⟩ := hl
  obtain ⟨a, cap, rfl, h1, h2, _⟩ := hs.ex
  obtain ⟨i, q, m, rs⟩ := l
  obtain ⟨hsz, hn, hro, hju⟩ := hok
  dsimp only at *
  have HS := Lib.hid hsz; have HR := Lib.hid hro; have HJ := Lib.hid hju
  clear hsz hro hju
  have hn' : ¬ (64 : Int) < (rs.length : Int) := by omega
  have hmf : ∀ (fn : Fn) (first cap : Array Value) (w : World), (Instr.makeFunc fn first cap).run Tryz.prog w = .ok (.func fn first cap) w := fun _ _ _ _ => rfl
  go_enter Tryz.func45, Tryz.ntmps45
  go_wp2_with fail
  refine (sizes_any i q m a rs.length cap _).mono ?_
  rintro en w1 ⟨rfl, hb1⟩
  have ql := (Blk.new w #[.int .i64 i, .int .i64 q, .int .i64 m, .slice a rs.length cap] 26).bel hb1
  have l3 : ∀ o, (w1.alloc o).cell? ⟨w.heap.size, 3, none⟩ = some (.slice a rs.length cap) := fun o => ((Bel.refl w1).alloc o).cell (ql.cell 3 rfl)
  go_wp2_with fail
  refine (checkSize_any i q m 0 _).mono ?_
  rintro en w2 ⟨rfl, hb2⟩
  rw [HS.out]
  have qz := (Blk.new w1 #[.int .i64 i, .int .i64 q, .int .i64 m, .int .i64 0] 41).bel hb2
  replace ql := (ql.alloc _).bel hb2
  have hB : Bel w w2 := ((((Bel.refl w).alloc _).trans hb1).alloc _).trans hb2
  clear l3
  have l3 := ql.cell 3 rfl
  obtain ⟨B4, hB4⟩ : ∃ B4, B4 = w1.heap.size := ⟨_, rfl⟩
  rw [← hB4] at qz ⊢
  clear hB4
  go_wp2_with fail
  go_loopw [24] (fun x wr => ∃ k : Nat, k ≤ rs.length ∧ x = .int .i64 k ∧ Bel w wr ∧ Blk wr w.heap.size #[.int .i64 i, .int .i64 q, .int .i64 m, .slice a rs.length cap] 26 ∧ Blk wr B4 #[.int .i64 i, .int .i64 q, .int .i64 m, .int .i64 0] 41) (fun x _ => rs.length - (intOf x).toNat)
  case atStart => exact ⟨0, Nat.zero_le _, rfl, hB, ql, qz⟩
  case round =>
    clear ql qz hB l3
    obtain ⟨k, hk, rfl, hB, ql, qz⟩ := hrel
    have l3 := ql.cell 3 rfl
    by_cases hlt : k < rs.length
    · have hg := List.getElem?_eq_getElem hlt
      have hrk := HR.out k hlt
      obtain ⟨b, off, vc, vo, rfl, hvc, hvo, c0, c1, c2, c3⟩ := (hs.bel RungE.mono hB).rung hg
      have hre : RungE wr rs[k] [.string rs[k].label, vc, vo, .string rs[k].jump] := ⟨vc, vo, rfl, hvc, hvo⟩
      obtain ⟨ac, cc, rfl, _⟩ := hvc.ex
      obtain ⟨ao, co, rfl, _⟩ := hvo.ex
      generalize rs[k] = r at *
      obtain ⟨lb, ct, os, jp⟩ := r
      dsimp only at *
      clear hvc hvo hg HJ
      generalize ct.length = nc at *
      generalize os.length = no at *
      have hkc : (k : Int) ≤ (cap : Int) := by omega
      have qz' := qz.alloc (.cells #[.string lb, .slice ac nc cc, .slice ao no co, .string jp] 33)
      have ql' := ql.alloc (.cells #[.string lb, .slice ac nc cc, .slice ao no co, .string jp] 33)
      have qr' := Blk.new wr #[.string lb, .slice ac nc cc, .slice ao no co, .string jp] 33
      have z0 := qz'.cell 0 rfl
      have z1 := qz'.cell 1 rfl
      have z2 := qz'.cell 2 rfl
      have z3 := qz'.cell 3 rfl
      have y3 := ql'.cell 3 rfl
      have x0 := qr'.cell 0 rfl
      have x1 := qr'.cell 1 rfl
      have x2 := qr'.cell 2 rfl
      have x3 := qr'.cell 3 rfl
      have Ql := Lib.hid ql; have Qz := Lib.hid qz
      clear ql qz qz' ql' qr'
      go_wp2_with fail
      go_region_held3 (fun w' => (w'.cell? ⟨B4, 0, none⟩ = some (.int .i64 i) ∧ w'.cell? ⟨B4, 1, none⟩ = some (.int .i64 q) ∧ w'.cell? ⟨B4, 2, none⟩ = some (.int .i64 m) ∧ w'.cell? ⟨B4, 3, none⟩ = some (.int .i64 0) ∧ w'.cell? ⟨w.heap.size, 3, none⟩ = some (.slice (some ⟨b, off, none⟩) rs.length cap) ∧ w'.cell? ⟨wr.heap.size, 0, none⟩ = some (.string lb) ∧ w'.cell? ⟨wr.heap.size, 1, none⟩ = some (.slice ac nc cc) ∧ w'.cell? ⟨wr.heap.size, 2, none⟩ = some (.slice ao no co) ∧ w'.cell? ⟨wr.heap.size, 3, none⟩ = some (.string jp)) ∧ Bel wr w') (first | exact keep9 (by assumption) (by assumption) | (refine ⟨?_, ((Bel.refl _).alloc _).drew⟩; go_keep))
        (first | (go_at_call 96; refine (rung_ok i q m 0 (rs.take k) _ _ _ _ (((hs.bel RungE.mono hB).bel RungE.mono (And.right (by assumption))).take k hk) (RungE.mono _ _ _ _ hre (And.right (by assumption))) hrk).mono ?_; rintro en w3 ⟨rfl, hb3⟩))
      have hbb : Bel wr _ := And.right (by assumption)
      go_wp2_with fail
      go_roundw
      case rel => exact ⟨k + 1, by omega, by go_num, hB.trans hbb, Ql.out.bel hbb, Qz.out.bel hbb⟩
      case measure => simp [intOf]; omega
    · clear HR
      go_wp2_with fail
      clear qz l3
      obtain ⟨W1, rfl⟩ : ∃ W1 : World, W1 = wr := ⟨_, rfl⟩
      go_loopw [44] (fun x wr => ∃ k : Nat, k ≤ rs.length ∧ x = .int .i64 k ∧ Bel w wr ∧ Blk wr w.heap.size #[.int .i64 i, .int .i64 q, .int .i64 m, .slice a rs.length cap] 26) (fun x _ => rs.length - (intOf x).toNat)
      case atStart => exact ⟨0, Nat.zero_le _, rfl, hB, ql⟩
      case round =>
        clear ql hB
        obtain ⟨k, hk, rfl, hB, ql⟩ := hrel
        have l3 := ql.cell 3 rfl
        by_cases hlt : k < rs.length
        · have hg := List.getElem?_eq_getElem hlt
          have hjk := HJ.out k hlt
          obtain ⟨b, off, vc, vo, rfl, hvc, hvo, c0, c1, c2, c3⟩ := (hs.bel RungE.mono hB).rung hg
          obtain ⟨ac, cc, rfl, _⟩ := hvc.ex
          obtain ⟨ao, co, rfl, _⟩ := hvo.ex
          generalize rs[k] = r at *
          obtain ⟨lb, ct, os, jp⟩ := r
          dsimp only at *
          clear hvc hvo hg HJ
          generalize ct.length = nc at *
          generalize os.length = no at *
          have y3 : ∀ o, (wr.alloc o).cell? ⟨w.heap.size, 3, none⟩ = some (.slice (some ⟨b, off, none⟩) rs.length cap) := fun o => ((Bel.refl wr).alloc o).cell l3
          have Ql := Lib.hid ql
          clear ql
          rcases hjk with hj | hj
          · obtain ⟨n0, n1⟩ := strZ hj
            clear hj
            go_wp2_with fail
            go_roundw
            case rel => exact ⟨k + 1, by omega, by go_num, hB.alloc _, Ql.out.alloc _⟩
            case measure => simp [intOf]; omega
          · by_cases hjz : jp.size = 0
            · obtain ⟨n0, n1⟩ := strZ hjz
              clear hj hjz
              go_wp2_with fail
              go_roundw
              case rel => exact ⟨k + 1, by omega, by go_num, hB.alloc _, Ql.out.alloc _⟩
              case measure => simp [intOf]; omega
            obtain ⟨n0, n1⟩ := strNe hjz
            have hk1 : k + 1 < rs.length := by
              rcases Nat.lt_or_ge (k + 1) rs.length with h | h
              · exact h
              · rw [List.drop_eq_nil_of_le h] at hj; simp at hj
            have hd := ((hs.bel RungE.mono hB).drop (k + 1) (by omega))
            have HJ := Lib.hid hj
            clear hj hjz
            go_wp2_with fail
            refine (cont_98 wr.heap.size jp (rs.drop (k + 1)) _ _ (hd.bel RungE.mono ((Bel.refl wr).alloc _)) ((Blk.new wr #[.string lb, .slice ac nc cc, .slice ao no co, .string jp] 33).cell 3 rfl)).mono ?_
            rintro en w3 ⟨rfl, hb3⟩
            rw [HJ.out]
            go_wp2_with fail
            go_roundw
            case rel => exact ⟨k + 1, by omega, by go_num, (hB.alloc _).trans hb3, (Ql.out.alloc _).bel hb3⟩
            case measure => simp [intOf]; omega
        · go_wp2_with fail
          go_ret2
          exact ⟨rfl, hB⟩
end Go.Proofs.YtbgilebgdbgddaaGreatDoor
