/- reduce.parallel -/
import Derived.Test.YtbgilebgdbgddaaGreatDoorDle
set_option linter.unusedVariables false
set_option linter.unusedSimpArgs false
namespace Go.Proofs.YtbgilebgdbgddaaGreatDoor
open Go.RowKit
theorem OwnEd.block {w : World} {base d n c : Nat} {A : Option Addr} {es : List Ed} {cs : List Value} (h : OwnEd w base d (.slice A n c) es cs) (hp : 0 < es.length) : ∃ g cur, A = some ⟨g, 0, none⟩ ∧ base ≤ g ∧ Blk w g cur 355 ∧ es.length ≤ c ∧ n = es.length ∧ es.length * 5 ≤ cur.size := by
  rcases h.own.2 with ⟨e, h0⟩ | ⟨g, cap, cur, e, hb, hh, h1, h2, h3, h4⟩
  · omega
  · injection e with e1 e2 e3
    subst e3
    exact ⟨g, cur, e1, hb, hh, h1, e2, by omega⟩
/-- What follows an element, as a slice. -/
theorem OwnEd.tail {w : World} {base d n c g k : Nat} {es : List Ed} {cs : List Value} (h : OwnEd w base d (.slice (some ⟨g, 0, none⟩) n c) es cs) (hk : k ≤ es.length) (hn : n = es.length) :
    SlAt (EdgeT d) 5 w (.slice (if c = k then some ⟨g, 0, none⟩ else some ⟨g, k * 5, none⟩) (n - k) (c - k)) (es.drop k) := by
  have hr := h.read
  by_cases hc : c = k
  · rw [if_pos hc]
    obtain ⟨a, cap, e, h1, h2, _⟩ := hr.ex
    injection e with e1 e2 e3
    subst e3
    have : es.drop k = [] := List.drop_eq_nil_of_le (by omega)
    rw [this]
    exact ⟨some ⟨g, 0, none⟩, c - k, by rw [hn]; simp [show es.length - k = 0 by omega], by simp, by omega, fun i x hx => by simp at hx⟩
  · rw [if_neg hc]
    have := hr.drop k hk
    rwa [Nat.zero_add] at this
theorem cell_set3 {w : World} {p0 p1 p2 a : Addr} {u0 u1 u2 v : Value} (h : w.cell? a = some v) (h0 : p0 ≠ a) (h1 : p1 ≠ a) (h2 : p2 ≠ a) : (((w.setCell p0 u0).setCell p1 u1).setCell p2 u2).cell? a = some v := by
  rw [World.cell?_setCell_other (h := h2), World.cell?_setCell_other (h := h1), World.cell?_setCell_other (h := h0)]
  exact h
theorem addr_block {b b' o o' : Nat} (h : b ≠ b') : (⟨b, o, none⟩ : Addr) ≠ ⟨b', o', none⟩ := fun e => h (by injection e)
theorem addr_off {b o o' : Nat} (h : o ≠ o') : (⟨b, o, none⟩ : Addr) ≠ ⟨b, o', none⟩ := fun e => h (by injection e)
set_option maxRecDepth 100000 in
set_option maxHeartbeats 4000000 in
theorem par_247 (base d : Nat) (es : List Ed) (cs : List Value) (v : Value) (w : World) (ho : OwnEd w base (d + 1) v es cs) (hk : ∀ e ∈ es, (e.t.kind = 2 → 0 < e.t.kids.length) ∧ e.t.kids.length ≤ 10000) (hn : es.length ≤ 1000) (hbw : base ≤ w.heap.size) :
    Calls Tryz.prog 247 #[v] w fun e w' => ∃ v' cs', e = .returned (.tuple #[v', .bool (parF es).isSome]) ∧ OwnEd w' base (d + 2) v' ((parF es).getD es) cs' ∧ TFr [355] base w w' := by
  obtain ⟨A, c, rfl, hc1, hc2⟩ := own_slice ho.own
  go_enter Tryz.func247, Tryz.ntmps247
  go_wp2_with fail
  go_loopw [9] (fun x wr => ∃ k : Nat, k ≤ es.length ∧ x = .int .i64 k ∧ Bel w wr ∧ ∀ j, j < k → parStep es j = none) (fun x _ => es.length - (intOf x).toNat)
  case atStart => exact ⟨0, Nat.zero_le _, rfl, Bel.refl _, fun j h => absurd h (Nat.not_lt_zero _)⟩
  case round =>
    obtain ⟨k, hk1, rfl, hB, hno⟩ := hrel
    have hor := ho.bel hB
    by_cases hlt : k < es.length
    · have hg := List.getElem?_eq_getElem hlt
      obtain ⟨g, cur, rfl, hbg, hq, hcn, _, hcz⟩ := hor.block (by omega)
      obtain ⟨c3, ht, x0, x1, x2⟩ := hor.at hg
      have hkk := hk _ (List.getElem_mem hlt)
      have HP := Lib.hid (show parStep es k = match (es.drop (k + 1)).findIdx? (pairB es[k]) with
        | none => none
        | some m => match es[k + 1 + m]? with
          | none => none
          | some y => some ((es.set k ⟨es[k].fr, es[k].to_, joinF 2 es[k].t y.t⟩).eraseIdx (k + 1 + m)) by unfold parStep; rw [hg]; rfl)
      have hht := Lib.hid ht
      obtain ⟨vx, rfl, hsx, _⟩ := ht
      obtain ⟨ax, cx, rfl, _⟩ := hsx.ex
      have x20 := x2 0 _ rfl; have x21 := x2 1 _ rfl; have x22 := x2 2 _ rfl
      rw [Nat.add_zero] at x20
      clear x2 hsx
      have htl := hor.tail (k := k + 1) (by omega) rfl
      obtain ⟨A2, hA2⟩ : ∃ A2, (if c = k + 1 then (some ⟨g, 0, none⟩ : Option Addr) else some ⟨g, (k + 1) * 5, none⟩) = A2 := ⟨_, rfl⟩
      rw [hA2] at htl
      generalize es[k] = x at *
      obtain ⟨xf, xt, xr⟩ := x
      dsimp only at *
      have qx : Blk (wr.alloc (.cells #[.string xf, .string xt, .int .i64 xr.kind, .int .i64 xr.n, .slice ax xr.kids.length cx] 355)) wr.heap.size #[.string xf, .string xt, .int .i64 xr.kind, .int .i64 xr.n, .slice ax xr.kids.length cx] 355 := Blk.new wr _ _
      have hB1 : Bel wr (wr.alloc (.cells #[.string xf, .string xt, .int .i64 xr.kind, .int .i64 xr.n, .slice ax xr.kids.length cx] 355)) := (Bel.refl wr).alloc _
      go_wp2_with fail
      generalize (wr.alloc (.cells #[.string xf, .string xt, .int .i64 xr.kind, .int .i64 xr.n, .slice ax xr.kids.length cx] 355)) = W at *
      refine (idxF_269 (EdgeT.mono (d + 1)) (p := pairB ⟨xf, xt, xr⟩) 270 #[.pointer (some ⟨wr.heap.size, 0, none⟩)] eg270 (es.drop (k + 1)) _ W (htl.bel (EdgeT.mono _) hB1) (fun y cy w2 hb2 hy _ _ => clo_270 wr.heap.size (d + 1) ⟨xf, xt, xr⟩ y cy [.string xf, .string xt, .int .i64 xr.kind, .int .i64 xr.n, .slice ax xr.kids.length cx] w2 hy (qx.bel hb2) ⟨_, rfl, TreeT.mono _ _ _ _ _ hht.out (hB1.trans hb2)⟩)).mono ?_
      rintro en w1 ⟨rfl, hb1⟩
      have hB2 := hB1.trans hb1
      have qx1 := qx.bel hb1
      unfold idxOf
      clear htl hA2 hb1 qx
      cases hfi : (es.drop (k + 1)).findIdx? (pairB ⟨xf, xt, xr⟩) with
      | none =>
        have HP2 := Lib.hid (show parStep es k = none by rw [HP.out, hfi])
        clear HP hfi
        dsimp only
        go_wp2_with fail
        go_roundw
        case rel =>
          refine ⟨k + 1, by omega, by go_num, hB.trans hB2, fun j hj => ?_⟩
          rcases (show j < k ∨ j = k by omega) with h | rfl
          · exact hno j h
          · exact HP2.out
        case measure => simp [intOf]; omega
      | some m =>
        dsimp only
        have hml : m < (es.drop (k + 1)).length := by
          rw [List.findIdx?_eq_some_iff_getElem] at hfi
          exact hfi.1
        rw [List.length_drop] at hml
        have hjl : k + 1 + m < es.length := by omega
        have hgy := List.getElem?_eq_getElem hjl
        have HP2 := Lib.hid (show parStep es k = some ((es.set k ⟨xf, xt, joinF 2 xr es[k + 1 + m].t⟩).eraseIdx (k + 1 + m)) by rw [HP.out, hfi]; dsimp only; rw [hgy])
        clear HP hfi
        have hw1 := ho.bel (hB.trans hB2)
        obtain ⟨c3y, hty, _, _, y2⟩ := hw1.at hgy
        have hky := hk _ (List.getElem_mem hjl)
        generalize es[k + 1 + m] = y at *
        obtain ⟨yf, yt, yr⟩ := y
        dsimp only at *
        have hhty := Lib.hid hty
        obtain ⟨vy, rfl, hsy, _⟩ := hty
        obtain ⟨ay, cy, rfl, _⟩ := hsy.ex
        have y20 := y2 0 _ rfl; have y21 := y2 1 _ rfl; have y22 := y2 2 _ rfl
        rw [Nat.add_zero] at y20
        clear y2 hsy
        have t2 := qx1.cell 2 rfl; have t3 := qx1.cell 3 rfl; have t4 := qx1.cell 4 rfl
        have hhtx := Lib.hid (TreeT.mono _ _ _ _ _ hht.out hB2)
        have bx := qx1.lt
        have n1 : (0 : Int) ≤ (k : Int) + 1 + (m : Int) := by omega
        have n2 : (k : Int) + 1 + (m : Int) < (es.length : Int) := by omega
        have n3 : ((k : Int) + 1 + (m : Int)).toNat = k + 1 + m := by omega
        have n4 : IntKind.i64.wrap ((k : Int) + 1 + (m : Int)) = (k : Int) + 1 + (m : Int) := by simp [IntKind.wrap, IntKind.bits, IntKind.signed]; omega
        have n0 : IntKind.i64.wrap ((k : Int) + 1) = (k : Int) + 1 := by simp [IntKind.wrap, IntKind.bits, IntKind.signed]; omega
        have n5 : ¬ ((k : Int) + 1 + (m : Int) < 0) := by omega
        have n6 : ¬ ((es.length : Int) ≤ (k : Int) + 1 + (m : Int)) := by omega
        have hgq := (hq.bel hB2)
        have hgne : g ≠ wr.heap.size := by have := hq.lt; omega
        go_wp2_with fail
        have hS : w1.cell? ⟨wr.heap.size, 2, none⟩ = some (.int .i64 xr.kind) ∧ w1.cell? ⟨wr.heap.size, 3, none⟩ = some (.int .i64 xr.n) ∧ w1.cell? ⟨wr.heap.size, 4, none⟩ = some (.slice ax xr.kids.length cx) ∧ w1.cell? ⟨g, (k + 1 + m) * 5 + 2, none⟩ = some (.int .i64 yr.kind) ∧ w1.cell? ⟨g, (k + 1 + m) * 5 + 2 + 1, none⟩ = some (.int .i64 yr.n) ∧ w1.cell? ⟨g, (k + 1 + m) * 5 + 2 + 2, none⟩ = some (.slice ay yr.kids.length cy) := ⟨t2, t3, t4, y20, y21, y22⟩
        have hjn := fun W (hb : Bel w1 W) => join_any 2 xr yr [.int .i64 xr.kind, .int .i64 xr.n, .slice ax xr.kids.length cx] [.int .i64 yr.kind, .int .i64 yr.n, .slice ay yr.kids.length cy] d W (TreeT.mono _ _ _ _ _ hhtx.out hb) (TreeT.mono _ _ _ _ _ hhty.out hb) (.inr rfl) hkk.1 hky.1 hkk.2 hky.2
        go_region_held3 (fun w' => w'.cell? ⟨wr.heap.size, 2, none⟩ = some (.int .i64 xr.kind) ∧ w'.cell? ⟨wr.heap.size, 3, none⟩ = some (.int .i64 xr.n) ∧ w'.cell? ⟨wr.heap.size, 4, none⟩ = some (.slice ax xr.kids.length cx) ∧ w'.cell? ⟨g, (k + 1 + m) * 5 + 2, none⟩ = some (.int .i64 yr.kind) ∧ w'.cell? ⟨g, (k + 1 + m) * 5 + 2 + 1, none⟩ = some (.int .i64 yr.n) ∧ w'.cell? ⟨g, (k + 1 + m) * 5 + 2 + 2, none⟩ = some (.slice ay yr.kids.length cy)) (first | exact (keep6 ⟨hS, Bel.refl _⟩ (by first | exact (Bel.refl _).drew | exact (Bel.refl _).drew.trans (by assumption))).1 | (have hS3 := (keep6 ⟨hS, Bel.refl _⟩ hb13).1; exact ⟨cell_set3 hS3.1 (addr_block hgne) (addr_block hgne) (addr_block hgne), cell_set3 hS3.2.1 (addr_block hgne) (addr_block hgne) (addr_block hgne), cell_set3 hS3.2.2.1 (addr_block hgne) (addr_block hgne) (addr_block hgne), cell_set3 hS3.2.2.2.1 (addr_off (by omega)) (addr_off (by omega)) (addr_off (by omega)), cell_set3 hS3.2.2.2.2.1 (addr_off (by omega)) (addr_off (by omega)) (addr_off (by omega)), cell_set3 hS3.2.2.2.2.2 (addr_off (by omega)) (addr_off (by omega)) (addr_off (by omega))⟩)) (first | (go_at_call 271; refine (hjn _ (Bel.refl _).drew).mono ?_; rintro en w3 ⟨cj, rfl, hj, hb3⟩; have hj0 := Lib.hid hj; obtain ⟨vj, rfl, hsj, _⟩ := hj; obtain ⟨aj, pj, rfl, _⟩ := hsj.ex; have hb13 : Bel w1 w3 := (Bel.refl w1).drew.trans hb3; have gq3 := hgq.bel hb13; have f0 := gq3.frozen (k * 5 + 2); have f1 := gq3.frozen (k * 5 + 2 + 1); have f2 := gq3.frozen (k * 5 + 2 + 2); have e0 := hb13.cell (hB2.cell x20); have e1 := hb13.cell (hB2.cell x21); have e2 := hb13.cell (hB2.cell x22); clear hsj))
        have hkey : parF es = some ((es.set k ⟨xf, xt, joinF 2 xr yr⟩).eraseIdx (k + 1 + m)) := firstF_hit es.length 0 (Nat.zero_le _) (by omega) (fun j _ hj => hno j hj) HP2.out
        have hw4 := ((own_put (own_bel hw1.own hb13) (k * 5 + 2) (.int .i64 (joinF 2 xr yr).kind) |> fun h => own_put h (k * 5 + 2 + 1) (.int .i64 (joinF 2 xr yr).n)) |> fun h => own_put h (k * 5 + 2 + 2) (.slice aj (joinF 2 xr yr).kids.length pj))
        have htf4 : TFr [355] base w1 (((w3.setCell ⟨g, k * 5 + 2, none⟩ (.int .i64 (joinF 2 xr yr).kind)).setCell ⟨g, k * 5 + 2 + 1, none⟩ (.int .i64 (joinF 2 xr yr).n)).setCell ⟨g, k * 5 + 2 + 2, none⟩ (.slice aj (joinF 2 xr yr).kids.length pj)) :=
          (((TFr.of_bel _ _ hb13).trans (TFr.setC gq3 (by simp) hbg _ _)).trans (TFr.setC (gq3.set _ _) (by simp) hbg _ _)).trans (TFr.setC ((gq3.set _ _).set _ _) (by simp) hbg _ _)
        have htf34 : TFr [355] base w3 (((w3.setCell ⟨g, k * 5 + 2, none⟩ (.int .i64 (joinF 2 xr yr).kind)).setCell ⟨g, k * 5 + 2 + 1, none⟩ (.int .i64 (joinF 2 xr yr).n)).setCell ⟨g, k * 5 + 2 + 2, none⟩ (.slice aj (joinF 2 xr yr).kids.length pj)) :=
          ((TFr.setC gq3 (by simp) hbg _ _).trans (TFr.setC (gq3.set _ _) (by simp) hbg _ _)).trans (TFr.setC ((gq3.set _ _).set _ _) (by simp) hbg _ _)
        generalize (((w3.setCell ⟨g, k * 5 + 2, none⟩ (.int .i64 (joinF 2 xr yr).kind)).setCell ⟨g, k * 5 + 2 + 1, none⟩ (.int .i64 (joinF 2 xr yr).n)).setCell ⟨g, k * 5 + 2 + 2, none⟩ (.slice aj (joinF 2 xr yr).kids.length pj)) = W4 at *
        have hz : EdgeT (d + 2) W4 ⟨xf, xt, joinF 2 xr yr⟩ [.string xf, .string xt, .int .i64 (joinF 2 xr yr).kind, .int .i64 (joinF 2 xr yr).n, .slice aj (joinF 2 xr yr).kids.length pj] := ⟨_, rfl, TreeT.tfr htf34 (by simp) _ _ _ hj0.out⟩
        have hel : ∀ i e, es[i]? = some e → ∃ c5, EdgeT (d + 2) W4 e c5 ∧ c5.length = 5 ∧ ∀ j u, c5[j]? = some u → cs[i * 5 + j]? = some u := fun i e he => by
          obtain ⟨c5, h1, h2⟩ := hw1.el i e he
          have h3 := h1.tfr htf4 (by simp)
          exact ⟨c5, h3.le (by omega), h3.len, h2⟩
        have hcl := hw1.own.1
        have hc0 : cs[k * 5]? = some (.string xf) ∧ cs[k * 5 + 1]? = some (.string xt) := by
          obtain ⟨c5, ⟨c3, rfl, _⟩, h2⟩ := hw1.el k _ hg
          exact ⟨h2 0 _ rfl, h2 1 _ rfl⟩
        have hel2 := el_put (cs2 := ((cs.set (k * 5 + 2) (.int .i64 (joinF 2 xr yr).kind)).set (k * 5 + 2 + 1) (.int .i64 (joinF 2 xr yr).n)).set (k * 5 + 2 + 2) (.slice aj (joinF 2 xr yr).kids.length pj)) hlt rfl (EdgeT (d + 2) W4) hz hel (fun q hq => by
          rw [List.getElem?_set_ne (by omega), List.getElem?_set_ne (by omega), List.getElem?_set_ne (by omega)]) (fun j u hu => by
          have hj := (List.getElem?_eq_some_iff.1 hu).1
          simp only [List.length_cons, List.length_nil] at hj
          rcases (show j = 0 ∨ j = 1 ∨ j = 2 ∨ j = 3 ∨ j = 4 by omega) with rfl | rfl | rfl | rfl | rfl
          · rw [List.getElem?_set_ne (by omega), List.getElem?_set_ne (by omega), List.getElem?_set_ne (by omega)]
            exact hc0.1.trans hu
          · rw [List.getElem?_set_ne (by omega), List.getElem?_set_ne (by omega), List.getElem?_set_ne (by omega)]
            exact hc0.2.trans hu
          · rw [List.getElem?_set_ne (by omega), List.getElem?_set_ne (by omega), List.getElem?_set_self (by omega)]
            exact hu
          · rw [List.getElem?_set_ne (by omega), show k * 5 + 3 = k * 5 + 2 + 1 by omega, List.getElem?_set_self (by simp; omega)]
            exact hu
          · rw [show k * 5 + 4 = k * 5 + 2 + 2 by omega, List.getElem?_set_self (by simp; omega)]
            exact hu)
        generalize ((cs.set (k * 5 + 2) (.int .i64 (joinF 2 xr yr).kind)).set (k * 5 + 2 + 1) (.int .i64 (joinF 2 xr yr).n)).set (k * 5 + 2 + 2) (.slice aj (joinF 2 xr yr).kids.length pj) = cs3 at *
        have hone : ∀ u ∈ cs3, u.oneCell' = true := fun u hu => by
          obtain ⟨x, c, _, hx, hc⟩ := cells_mem (E := EdgeT (d + 2)) (w := W4) (xs := es.set k ⟨xf, xt, joinF 2 xr yr⟩) (by rw [List.length_set]; exact hw4.1) (by decide) hel2 u hu
          exact hx.one u hc
        have hel3 := el_erase (k := k + 1 + m) (by rw [List.length_set]; exact hw4.1) (by simpa using hjl) (EdgeT (d + 2) W4) hel2
        have hdel := del_272j es.length (.slice (some ⟨g, 0, none⟩) es.length c) base (k + 1 + m) (k + 1 + m + 1) rfl cs3 W4 hw4 hjl (by omega) hone
        have Hkey := Lib.hid hkey
        have Hel3 := Lib.hid hel3
        have Hw4 := Lib.hid hw4
        clear hz hel hel2 hel3 hone hkey hw4 hc0 hcl hjn hS n1 n2 n3 n0 t2 t3 t4 y20 y21 y22 x0 x1 x20 x21 x22
        go_wp2_with fail
        rw [show ((k : Int) + 2 + (m : Int)) = ((k + 1 + m + 1 : Nat) : Int) by omega, show ((k : Int) + 1 + (m : Int)) = ((k + 1 + m : Nat) : Int) by omega]
        refine hdel.mono ?_
        rintro en w5 ⟨v5, rfl, ho5, hg5, _⟩
        have htf5 : TFr [355] base W4 w5 := TFr.grown Hw4.out hg5 (by simp)
        have hE5 : OwnEd w5 base (d + 2) v5 ((es.set k ⟨xf, xt, joinF 2 xr yr⟩).eraseIdx (k + 1 + m)) (cs3.take ((k + 1 + m) * 5) ++ cs3.drop ((k + 1 + m + 1) * 5)) := by
          refine ⟨?_, fun i e he => ?_⟩
          · rw [List.length_eraseIdx_of_lt (by simpa using hjl), List.length_set]
            exact ho5
          · obtain ⟨c, h1, h2, h3⟩ := Hel3.out i e he
            exact ⟨c, h1.tfr htf5 (by simp), h3⟩
        have hfin : TFr [355] base w w5 := ((TFr.of_bel _ _ (hB.trans hB2)).trans htf4).trans htf5
        clear hdel
        generalize cs3.take ((k + 1 + m) * 5) ++ cs3.drop ((k + 1 + m + 1) * 5) = cs5 at *
        go_wp2_with fail
        refine bodyPost_ret (v := .tuple #[v5, .bool true]) (by simp [results, Tryz.results247, go_sem]) rfl ⟨v5, cs5, ?_, ?_, hfin⟩
        · rw [Hkey.out]; rfl
        · rw [Hkey.out]; exact hE5
    · obtain rfl : k = es.length := by omega
      have hkey := Lib.hid (show parF es = none from firstF_none es.length 0 fun j _ hj => hno j (by omega))
      go_wp2_with fail
      refine bodyPost_ret (v := .tuple #[.slice A es.length c, .bool false]) (by simp [results, Tryz.results247, go_sem]) rfl ⟨.slice A es.length c, cs, ?_, ?_, TFr.of_bel _ _ hB⟩
      · rw [hkey.out]; rfl
      · rw [hkey.out]; exact hor.le (by omega)
end Go.Proofs.YtbgilebgdbgddaaGreatDoor
