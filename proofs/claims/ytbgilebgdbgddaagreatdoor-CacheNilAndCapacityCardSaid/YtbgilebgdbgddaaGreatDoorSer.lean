/- reduce.series -/
import Derived.Test.YtbgilebgdbgddaaGreatDoorPar
set_option linter.unusedVariables false
set_option linter.unusedSimpArgs false
namespace Go.Proofs.YtbgilebgdbgddaaGreatDoor
open Go.RowKit
theorem cell_set5 {w : World} {p0 p1 p2 p3 p4 a : Addr} {u0 u1 u2 u3 u4 v : Value} (h : w.cell? a = some v) (h0 : p0 ≠ a) (h1 : p1 ≠ a) (h2 : p2 ≠ a) (h3 : p3 ≠ a) (h4 : p4 ≠ a) : (((((w.setCell p0 u0).setCell p1 u1).setCell p2 u2).setCell p3 u3).setCell p4 u4).cell? a = some v := by
  rw [World.cell?_setCell_other (h := h4), World.cell?_setCell_other (h := h3), World.cell?_setCell_other (h := h2), World.cell?_setCell_other (h := h1), World.cell?_setCell_other (h := h0)]
  exact h
set_option maxRecDepth 100000 in
set_option maxHeartbeats 4000000 in
theorem ser_248 (base d : Nat) (es : List Ed) (cs : List Value) (v : Value) (w : World) (ho : OwnEd w base (d + 1) v es cs) (hk : ∀ e ∈ es, (e.t.kind = 1 → 0 < e.t.kids.length) ∧ e.t.kids.length ≤ 10000) (hne : ∀ e ∈ es, e.fr ≠ e.to_) (hn : es.length ≤ 1000) (hbw : base ≤ w.heap.size) :
    Calls Tryz.prog 248 #[v] w fun e w' => ∃ v' cs', e = .returned (.tuple #[v', .bool (serF es).isSome]) ∧ OwnEd w' base (d + 2) v' ((serF es).getD es) cs' ∧ TFr [355] base w w' := by
  obtain ⟨A, c, rfl, hc1, hc2⟩ := own_slice ho.own
  go_enter Tryz.func248, Tryz.ntmps248
  go_wp2_with fail
  go_loopw [13] (fun x wr => ∃ k : Nat, k ≤ es.length ∧ x = .int .i64 k ∧ Bel w wr ∧ ∀ j, j < k → serStep es j = none) (fun x _ => es.length - (intOf x).toNat)
  case atStart => exact ⟨0, Nat.zero_le _, rfl, Bel.refl _, fun j h => absurd h (Nat.not_lt_zero _)⟩
  case round =>
    obtain ⟨k, hk1, rfl, hB, hno⟩ := hrel
    have hor := ho.bel hB
    by_cases hlt : k < es.length
    · have hg := List.getElem?_eq_getElem hlt
      obtain ⟨g, cur, rfl, hbg, hq, hcn, _, hcz⟩ := hor.block (by omega)
      obtain ⟨c3, ht, x0, x1, x2⟩ := hor.at hg
      have hkk := hk _ (List.getElem_mem hlt)
      have HP := Lib.hid (show serStep es k = if es[k].to_ = sL ∨ es[k].to_ = sR then none else
          if comeF es[k].to_ es = 1 ∧ leaveF es[k].to_ es = 1 then
            match es[onF es[k].to_ es]? with
            | none => none
            | some y => some ((es.set k ⟨es[k].fr, y.to_, joinF 1 es[k].t y.t⟩).eraseIdx (onF es[k].to_ es))
          else none by unfold serStep; rw [hg]; rfl)
      have hht := Lib.hid ht
      obtain ⟨vx, rfl, hsx, _⟩ := ht
      obtain ⟨ax, cx, rfl, _⟩ := hsx.ex
      have x20 := x2 0 _ rfl; have x21 := x2 1 _ rfl; have x22 := x2 2 _ rfl
      rw [Nat.add_zero] at x20
      clear x2 hsx
      generalize es[k] = x at *
      obtain ⟨xf, xt, xr⟩ := x
      dsimp only at *
      have qx : Blk (wr.alloc (.cells #[.string xf, .string xt, .int .i64 xr.kind, .int .i64 xr.n, .slice ax xr.kids.length cx] 355)) wr.heap.size #[.string xf, .string xt, .int .i64 xr.kind, .int .i64 xr.n, .slice ax xr.kids.length cx] 355 := Blk.new wr _ _
      have hB1 : Bel wr (wr.alloc (.cells #[.string xf, .string xt, .int .i64 xr.kind, .int .i64 xr.n, .slice ax xr.kids.length cx] 355)) := (Bel.refl wr).alloc _
      have t1 := qx.cell 1 rfl
      have t0 := qx.cell 0 rfl
      by_cases hrail : xt = sL ∨ xt = sR
      · have HP2 := Lib.hid (show serStep es k = none by rw [HP.out, if_pos hrail])
        clear HP
        have hl : xt.toList = [76] ∨ (xt.toList = [82] ∧ ¬ xt.toList = [76]) := by
          rcases hrail with h | h
          · exact .inl (by rw [h]; decide +kernel)
          · exact .inr (by rw [h]; decide +kernel)
        clear hrail
        rcases hl with hl | ⟨hl, hl2⟩
        · have hl3 : (xt.toList == [76]) = true := by rw [hl]; rfl
          go_wp2_with fail
          go_roundw
          case rel =>
            refine ⟨k + 1, by omega, by go_num, hB.trans hB1, fun j hj => ?_⟩
            rcases (show j < k ∨ j = k by omega) with h | rfl
            · exact hno j h
            · exact HP2.out
          case measure => simp [intOf]; omega
        · have hl3 : (xt.toList == [76]) = false := by simpa using hl2
          have hl4 : (xt.toList == [82]) = true := by rw [hl]; rfl
          go_wp2_with fail
          go_roundw
          case rel =>
            refine ⟨k + 1, by omega, by go_num, hB.trans hB1, fun j hj => ?_⟩
            rcases (show j < k ∨ j = k by omega) with h | rfl
            · exact hno j h
            · exact HP2.out
          case measure => simp [intOf]; omega
      · have HP2 := HP.out
        rw [if_neg hrail] at HP2
        have HP3 := Lib.hid HP2
        clear HP HP2
        have hl1 : ¬ xt.toList = [76] := fun h => hrail (.inl (toList_inj.1 (h.trans (by decide +kernel))))
        have hl2 : ¬ xt.toList = [82] := fun h => hrail (.inr (toList_inj.1 (h.trans (by decide +kernel))))
        have hl3 : (xt.toList == [76]) = false := by simpa using hl1
        have hl4 : (xt.toList == [82]) = false := by simpa using hl2
        clear hrail
        go_wp2_with fail
        generalize (wr.alloc (.cells #[.string xf, .string xt, .int .i64 xr.kind, .int .i64 xr.n, .slice ax xr.kids.length cx] 355)) = W at *
        clear t0 t1
        obtain ⟨w9, hw9⟩ : ∃ w9, w9 = wr := ⟨_, rfl⟩
        subst hw9
        go_loopw [6, 7, 8, 30] (fun on come leave y w2 => ∃ i : Nat, i ≤ es.length ∧ y = .int .i64 i ∧ on = .int .i64 (onF xt (es.take i)) ∧ come = .int .i64 (comeF xt (es.take i)) ∧ leave = .int .i64 (leaveF xt (es.take i)) ∧ Bel W w2) (fun _ _ _ y _ => es.length - (intOf y).toNat)
        case atStart => exact ⟨0, Nat.zero_le _, rfl, rfl, rfl, rfl, Bel.refl _⟩
        case round =>
          obtain ⟨i, hi1, rfl, rfl, rfl, rfl, hB3⟩ := hrel
          by_cases hlti : i < es.length
          · have hgi := List.getElem?_eq_getElem hlti
            have hw2 := hor.bel (hB1.trans hB3)
            obtain ⟨c3i, hti, z0, z1, z2⟩ := hw2.at hgi
            have qx2 := qx.bel hB3
            have r1 := fun o => (qx2.alloc o).cell 1 rfl
            have hTo := onF_snoc xt (es.take i) es[i]
            have hTc := comeF_snoc xt (es.take i) es[i]
            have hTl := leaveF_snoc xt (es.take i) es[i]
            rw [← List.take_succ_eq_append_getElem hlti] at hTo hTc hTl
            rw [List.length_take, Nat.min_eq_left (by omega)] at hTo
            have bc : comeF xt (es.take i) ≤ i := by
              have := List.countP_le_length (p := fun y : Ed => decide (y.to_ = xt)) (l := es.take i)
              unfold comeF; simp at this ⊢; omega
            have bl : leaveF xt (es.take i) ≤ i := by
              have := List.countP_le_length (p := fun y : Ed => decide (y.fr = xt)) (l := es.take i)
              unfold leaveF; simp at this ⊢; omega
            generalize es[i] = y at *
            obtain ⟨yf, yt, yr⟩ := y
            dsimp only at *
            obtain ⟨vy, rfl, hsy, _⟩ := hti
            obtain ⟨ay, cy, rfl, _⟩ := hsy.ex
            have z20 := z2 0 _ rfl; have z21 := z2 1 _ rfl; have z22 := z2 2 _ rfl
            rw [Nat.add_zero] at z20
            clear z2 hsy
            have hTo' := Lib.hid hTo; have hTc' := Lib.hid hTc; have hTl' := Lib.hid hTl
            clear hTo hTc hTl
            generalize onF xt (es.take i) = on at *
            generalize comeF xt (es.take i) = come at *
            generalize leaveF xt (es.take i) = leave at *
            have s1 : (yt.toList == xt.toList) = decide (yt = xt) := strEq _ _
            have s2 : (yf.toList == xt.toList) = decide (yf = xt) := strEq _ _
            go_wp2_with fail
            all_goals go_roundw
            all_goals first
              | (simp [intOf]; omega)
              | exact ⟨i + 1, by omega, by go_num, by rw [hTo'.out]; simp [*], by rw [hTc'.out]; simp [*], by rw [hTl'.out]; simp [*], hB3.alloc _⟩
          · obtain rfl : i = es.length := by omega
            rw [List.take_length]
            have bc : comeF xt es ≤ es.length := List.countP_le_length
            have bl : leaveF xt es ≤ es.length := List.countP_le_length
            have hkx := hht
            by_cases hcl : comeF xt es = 1 ∧ leaveF xt es = 1
            · have HP4 := HP3.out
              rw [if_pos hcl] at HP4
              obtain ⟨y, hgy, hyf⟩ := onF_lt xt es (by omega)
              rw [hgy] at HP4
              dsimp only at HP4
              have HP5 := Lib.hid HP4
              clear HP3 HP4
              rw [hcl.1, hcl.2]
              clear hcl bc bl
              go_wp2_with fail
              have hol := (List.getElem?_eq_some_iff.1 hgy).1
              have hko : ¬ (k = onF xt es) := fun e => by
                rw [← e, hg] at hgy
                injection hgy with hgy
                rw [← hgy] at hyf
                exact hne _ (List.mem_of_getElem? hg) hyf
              generalize onF xt es = o at *
              have hw1 := ho.bel (hB.trans (hB1.trans hB3))
              obtain ⟨c3y, hty, _, y1, y2⟩ := hw1.at hgy
              have hky := hk _ (List.mem_of_getElem? hgy)
              obtain ⟨yf, yt, yr⟩ := y
              dsimp only at *
              clear hyf
              have hhty := Lib.hid hty
              obtain ⟨vy, rfl, hsy, _⟩ := hty
              obtain ⟨ay, cy, rfl, _⟩ := hsy.ex
              have y20 := y2 0 _ rfl; have y21 := y2 1 _ rfl; have y22 := y2 2 _ rfl
              rw [Nat.add_zero] at y20
              clear y2 hsy
              have hB13 := hB1.trans hB3
              have qx1 := qx.bel hB3
              have t0 := qx1.cell 0 rfl; have t2 := qx1.cell 2 rfl; have t3 := qx1.cell 3 rfl; have t4 := qx1.cell 4 rfl
              have hhtx := Lib.hid (TreeT.mono _ _ _ _ _ hht.out hB13)
              have bx := qx1.lt
              have hgq := hq.bel hB13
              have hgne : g ≠ w9.heap.size := by have := hq.lt; omega
              have hS : wr.cell? ⟨w9.heap.size, 0, none⟩ = some (.string xf) ∧ wr.cell? ⟨w9.heap.size, 2, none⟩ = some (.int .i64 xr.kind) ∧ wr.cell? ⟨w9.heap.size, 3, none⟩ = some (.int .i64 xr.n) ∧ wr.cell? ⟨w9.heap.size, 4, none⟩ = some (.slice ax xr.kids.length cx) ∧ wr.cell? ⟨g, o * 5 + 1, none⟩ = some (.string yt) ∧ wr.cell? ⟨g, o * 5 + 2, none⟩ = some (.int .i64 yr.kind) ∧ wr.cell? ⟨g, o * 5 + 2 + 1, none⟩ = some (.int .i64 yr.n) ∧ wr.cell? ⟨g, o * 5 + 2 + 2, none⟩ = some (.slice ay yr.kids.length cy) := ⟨t0, t2, t3, t4, y1, y20, y21, y22⟩
              have hjn := fun W (hb : Bel wr W) => join_any 1 xr yr [.int .i64 xr.kind, .int .i64 xr.n, .slice ax xr.kids.length cx] [.int .i64 yr.kind, .int .i64 yr.n, .slice ay yr.kids.length cy] d W (TreeT.mono _ _ _ _ _ hhtx.out hb) (TreeT.mono _ _ _ _ _ hhty.out hb) (.inl rfl) hkk.1 hky.1 hkk.2 hky.2
              go_region_held3 (fun w' => w'.cell? ⟨w9.heap.size, 0, none⟩ = some (.string xf) ∧ w'.cell? ⟨w9.heap.size, 2, none⟩ = some (.int .i64 xr.kind) ∧ w'.cell? ⟨w9.heap.size, 3, none⟩ = some (.int .i64 xr.n) ∧ w'.cell? ⟨w9.heap.size, 4, none⟩ = some (.slice ax xr.kids.length cx) ∧ w'.cell? ⟨g, o * 5 + 1, none⟩ = some (.string yt) ∧ w'.cell? ⟨g, o * 5 + 2, none⟩ = some (.int .i64 yr.kind) ∧ w'.cell? ⟨g, o * 5 + 2 + 1, none⟩ = some (.int .i64 yr.n) ∧ w'.cell? ⟨g, o * 5 + 2 + 2, none⟩ = some (.slice ay yr.kids.length cy)) (first | exact (keep8 ⟨hS, Bel.refl _⟩ (by first | exact (Bel.refl _).drew | exact (Bel.refl _).drew.trans (by assumption))).1 | (have hS3 := (keep8 ⟨hS, Bel.refl _⟩ hb13).1; exact ⟨cell_set5 hS3.1 (addr_block hgne) (addr_block hgne) (addr_block hgne) (addr_block hgne) (addr_block hgne), cell_set5 hS3.2.1 (addr_block hgne) (addr_block hgne) (addr_block hgne) (addr_block hgne) (addr_block hgne), cell_set5 hS3.2.2.1 (addr_block hgne) (addr_block hgne) (addr_block hgne) (addr_block hgne) (addr_block hgne), cell_set5 hS3.2.2.2.1 (addr_block hgne) (addr_block hgne) (addr_block hgne) (addr_block hgne) (addr_block hgne), cell_set5 hS3.2.2.2.2.1 (addr_off (by omega)) (addr_off (by omega)) (addr_off (by omega)) (addr_off (by omega)) (addr_off (by omega)), cell_set5 hS3.2.2.2.2.2.1 (addr_off (by omega)) (addr_off (by omega)) (addr_off (by omega)) (addr_off (by omega)) (addr_off (by omega)), cell_set5 hS3.2.2.2.2.2.2.1 (addr_off (by omega)) (addr_off (by omega)) (addr_off (by omega)) (addr_off (by omega)) (addr_off (by omega)), cell_set5 hS3.2.2.2.2.2.2.2 (addr_off (by omega)) (addr_off (by omega)) (addr_off (by omega)) (addr_off (by omega)) (addr_off (by omega))⟩)) (first | (go_at_call 271; refine (hjn _ (Bel.refl _).drew).mono ?_; rintro en w3 ⟨cj, rfl, hj, hb3⟩; have hj0 := Lib.hid hj; obtain ⟨vj, rfl, hsj, _⟩ := hj; obtain ⟨aj, pj, rfl, _⟩ := hsj.ex; have hb13 : Bel wr w3 := (Bel.refl wr).drew.trans hb3; have gq3 := hgq.bel hb13; have f0 := gq3.frozen (k * 5); have f1 := gq3.frozen (k * 5 + 1); have f2 := gq3.frozen (k * 5 + 2); have f3 := gq3.frozen (k * 5 + 3); have f4 := gq3.frozen (k * 5 + 4); have e0 := hb13.cell (hB13.cell x0); have e1 := hb13.cell (hB13.cell x1); have e2 := hb13.cell (hB13.cell x20); have e3 : w3.cell? ⟨g, k * 5 + 3, none⟩ = _ := hb13.cell (hB13.cell x21); have e4 : w3.cell? ⟨g, k * 5 + 4, none⟩ = _ := hb13.cell (hB13.cell x22); clear hsj))
              have hkey : serF es = some ((es.set k ⟨xf, yt, joinF 1 xr yr⟩).eraseIdx o) := firstF_hit es.length 0 (Nat.zero_le _) (by omega) (fun j _ hj => hno j hj) HP5.out
              have hw4 := ((((own_put (own_bel hw1.own hb13) (k * 5) (.string xf) |> fun h => own_put h (k * 5 + 1) (.string yt)) |> fun h => own_put h (k * 5 + 2) (.int .i64 (joinF 1 xr yr).kind)) |> fun h => own_put h (k * 5 + 3) (.int .i64 (joinF 1 xr yr).n)) |> fun h => own_put h (k * 5 + 4) (.slice aj (joinF 1 xr yr).kids.length pj))
              have htf34 : TFr [355] base w3 (((((w3.setCell ⟨g, k * 5, none⟩ (.string xf)).setCell ⟨g, k * 5 + 1, none⟩ (.string yt)).setCell ⟨g, k * 5 + 2, none⟩ (.int .i64 (joinF 1 xr yr).kind)).setCell ⟨g, k * 5 + 3, none⟩ (.int .i64 (joinF 1 xr yr).n)).setCell ⟨g, k * 5 + 4, none⟩ (.slice aj (joinF 1 xr yr).kids.length pj)) :=
                ((((TFr.setC gq3 (by simp) hbg _ _).trans (TFr.setC (gq3.set _ _) (by simp) hbg _ _)).trans (TFr.setC ((gq3.set _ _).set _ _) (by simp) hbg _ _)).trans (TFr.setC (((gq3.set _ _).set _ _).set _ _) (by simp) hbg _ _)).trans (TFr.setC ((((gq3.set _ _).set _ _).set _ _).set _ _) (by simp) hbg _ _)
              have htf4 : TFr [355] base wr (((((w3.setCell ⟨g, k * 5, none⟩ (.string xf)).setCell ⟨g, k * 5 + 1, none⟩ (.string yt)).setCell ⟨g, k * 5 + 2, none⟩ (.int .i64 (joinF 1 xr yr).kind)).setCell ⟨g, k * 5 + 3, none⟩ (.int .i64 (joinF 1 xr yr).n)).setCell ⟨g, k * 5 + 4, none⟩ (.slice aj (joinF 1 xr yr).kids.length pj)) := (TFr.of_bel _ _ hb13).trans htf34
              generalize (((((w3.setCell ⟨g, k * 5, none⟩ (.string xf)).setCell ⟨g, k * 5 + 1, none⟩ (.string yt)).setCell ⟨g, k * 5 + 2, none⟩ (.int .i64 (joinF 1 xr yr).kind)).setCell ⟨g, k * 5 + 3, none⟩ (.int .i64 (joinF 1 xr yr).n)).setCell ⟨g, k * 5 + 4, none⟩ (.slice aj (joinF 1 xr yr).kids.length pj)) = W4 at *
              have hz : EdgeT (d + 2) W4 ⟨xf, yt, joinF 1 xr yr⟩ [.string xf, .string yt, .int .i64 (joinF 1 xr yr).kind, .int .i64 (joinF 1 xr yr).n, .slice aj (joinF 1 xr yr).kids.length pj] := ⟨_, rfl, TreeT.tfr htf34 (by simp) _ _ _ hj0.out⟩
              have hel : ∀ i e, es[i]? = some e → ∃ c5, EdgeT (d + 2) W4 e c5 ∧ c5.length = 5 ∧ ∀ j u, c5[j]? = some u → cs[i * 5 + j]? = some u := fun i e he => by
                obtain ⟨c5, h1, h2⟩ := hw1.el i e he
                have h3 := h1.tfr htf4 (by simp)
                exact ⟨c5, h3.le (by omega), h3.len, h2⟩
              have hcl := hw1.own.1
              have hel2 := el_put (cs2 := (((((cs.set (k * 5) (.string xf)).set (k * 5 + 1) (.string yt)).set (k * 5 + 2) (.int .i64 (joinF 1 xr yr).kind)).set (k * 5 + 3) (.int .i64 (joinF 1 xr yr).n)).set (k * 5 + 4) (.slice aj (joinF 1 xr yr).kids.length pj))) hlt rfl (EdgeT (d + 2) W4) hz hel (fun q hq => by
                rw [List.getElem?_set_ne (by omega), List.getElem?_set_ne (by omega), List.getElem?_set_ne (by omega), List.getElem?_set_ne (by omega), List.getElem?_set_ne (by omega)]) (fun j u hu => by
                have hj := (List.getElem?_eq_some_iff.1 hu).1
                simp only [List.length_cons, List.length_nil] at hj
                rcases (show j = 0 ∨ j = 1 ∨ j = 2 ∨ j = 3 ∨ j = 4 by omega) with rfl | rfl | rfl | rfl | rfl
                · rw [List.getElem?_set_ne (by omega), List.getElem?_set_ne (by omega), List.getElem?_set_ne (by omega), List.getElem?_set_ne (by omega), Nat.add_zero, List.getElem?_set_self (by omega)]
                  exact hu
                · rw [List.getElem?_set_ne (by omega), List.getElem?_set_ne (by omega), List.getElem?_set_ne (by omega), List.getElem?_set_self (by simp; omega)]
                  exact hu
                · rw [List.getElem?_set_ne (by omega), List.getElem?_set_ne (by omega), List.getElem?_set_self (by simp; omega)]
                  exact hu
                · rw [List.getElem?_set_ne (by omega), List.getElem?_set_self (by simp; omega)]
                  exact hu
                · rw [List.getElem?_set_self (by simp; omega)]
                  exact hu)
              generalize (((((cs.set (k * 5) (.string xf)).set (k * 5 + 1) (.string yt)).set (k * 5 + 2) (.int .i64 (joinF 1 xr yr).kind)).set (k * 5 + 3) (.int .i64 (joinF 1 xr yr).n)).set (k * 5 + 4) (.slice aj (joinF 1 xr yr).kids.length pj)) = cs3 at *
              have hone : ∀ u ∈ cs3, u.oneCell' = true := fun u hu => by
                obtain ⟨x, c, _, hx, hc⟩ := cells_mem (E := EdgeT (d + 2)) (w := W4) (xs := es.set k ⟨xf, yt, joinF 1 xr yr⟩) (by rw [List.length_set]; exact hw4.1) (by decide) hel2 u hu
                exact hx.one u hc
              have hel3 := el_erase (k := o) (by rw [List.length_set]; exact hw4.1) (by simpa using hol) (EdgeT (d + 2) W4) hel2
              have hdel := del_272 es.length (.slice (some ⟨g, 0, none⟩) es.length c) base o cs3 W4 hw4 hol (by omega) hone
              have Hkey := Lib.hid hkey
              have Hel3 := Lib.hid hel3
              have Hw4 := Lib.hid hw4
              clear hz hel hel2 hel3 hone hkey hw4 hcl hjn hS t0 t2 t3 t4 y1 y20 y21 y22 x0 x1 x20 x21 x22
              go_wp2_with fail
              refine hdel.mono ?_
              rintro en w5 ⟨v5, rfl, ho5, hg5, _⟩
              have htf5 : TFr [355] base W4 w5 := TFr.grown Hw4.out hg5 (by simp)
              have hE5 : OwnEd w5 base (d + 2) v5 ((es.set k ⟨xf, yt, joinF 1 xr yr⟩).eraseIdx o) (cs3.take (o * 5) ++ cs3.drop ((o + 1) * 5)) := by
                refine ⟨?_, fun i e he => ?_⟩
                · rw [List.length_eraseIdx_of_lt (by simpa using hol), List.length_set]
                  exact ho5
                · obtain ⟨c, h1, h2, h3⟩ := Hel3.out i e he
                  exact ⟨c, h1.tfr htf5 (by simp), h3⟩
              have hfin : TFr [355] base w w5 := ((TFr.of_bel _ _ (hB.trans (hB1.trans hB3))).trans htf4).trans htf5
              clear hdel
              generalize cs3.take (o * 5) ++ cs3.drop ((o + 1) * 5) = cs5 at *
              go_wp2_with fail
              refine bodyPost_ret (v := .tuple #[v5, .bool true]) (by simp [results, Tryz.results248, go_sem]) rfl ⟨v5, cs5, ?_, ?_, hfin⟩
              · rw [Hkey.out]; rfl
              · rw [Hkey.out]; exact hE5
            · have HP4 := HP3.out
              rw [if_neg hcl] at HP4
              have HP5 := Lib.hid HP4
              clear HP3 HP4
              have hh : ((comeF xt es : Int) == 1) = false ∨ (((comeF xt es : Int) == 1) = true ∧ ((leaveF xt es : Int) == 1) = false) := by
                by_cases h : comeF xt es = 1
                · refine .inr ⟨by rw [h]; rfl, by simp; omega⟩
                · exact .inl (by simp; omega)
              clear hcl
              generalize onF xt es = on at *
              generalize comeF xt es = come at *
              generalize leaveF xt es = leave at *
              have hBf := hB.trans (hB1.trans hB3)
              rcases hh with hh | ⟨hh, hh2⟩
              · go_wp2_with fail
                go_roundw
                case rel =>
                  refine ⟨k + 1, by omega, by go_num, hBf, fun j hj => ?_⟩
                  rcases (show j < k ∨ j = k by omega) with h | rfl
                  · exact hno j h
                  · exact HP5.out
                case measure => simp [intOf]; omega
              · go_wp2_with fail
                go_roundw
                case rel =>
                  refine ⟨k + 1, by omega, by go_num, hBf, fun j hj => ?_⟩
                  rcases (show j < k ∨ j = k by omega) with h | rfl
                  · exact hno j h
                  · exact HP5.out
                case measure => simp [intOf]; omega
    · obtain rfl : k = es.length := by omega
      have hkey := Lib.hid (show serF es = none from firstF_none es.length 0 fun j _ hj => hno j (by omega))
      go_wp2_with fail
      refine bodyPost_ret (v := .tuple #[.slice A es.length c, .bool false]) (by simp [results, Tryz.results248, go_sem]) rfl ⟨.slice A es.length c, cs, ?_, ?_, TFr.of_bel _ _ hB⟩
      · rw [hkey.out]; rfl
      · rw [hkey.out]; exact hor.le (by omega)
end Go.Proofs.YtbgilebgdbgddaaGreatDoor
