/- slices.Delete at []edge, one element of a row that is owned -/
import Derived.Test.YtbgilebgdbgddaaGreatDoorDel
import Derived.Test.YtbgilebgdbgddaaGreatDoorJoi
set_option linter.unusedVariables false
set_option linter.unusedSimpArgs false
namespace Go.Proofs.YtbgilebgdbgddaaGreatDoor
open Go.RowKit
def z355 : List Value := [.string .empty, .string .empty, .int .i64 0, .int .i64 0, .slice none 0 0]
theorem zero355 (w : World) : (zeroValue 355).run Tryz.prog w = .ok (.agg #[.string .empty, .string .empty, .int .i64 0, .int .i64 0, .slice none 0 0]) w := by kernel_rfl
theorem run_clear355 (w : World) (ty : TypeId) (b o c : Nat) (hc : ∀ j, j < 5 → (w.cell? ⟨b, o + j, none⟩).isSome = true) (hf : ∀ j, j < 5 → w.frozen? ⟨b, o + j, none⟩ = false) :
    (Builtin.clear_ #[351] ty #[.slice (some ⟨b, o, none⟩) 1 c]).run Tryz.prog w = .ok (.tuple #[]) (w.setCells b o z355) := by
  obtain ⟨Z, hZ⟩ : ∃ Z, Z = Value.agg #[.string .empty, .string .empty, .int .i64 0, .int .i64 0, .slice none 0 0] := ⟨_, rfl⟩
  have hzc : (Builtin.zeroCells Z.cells 1).toList = z355 := by rw [hZ]; kernel_rfl
  have hz0 : ∀ w, (zeroValue 355).run Tryz.prog w = .ok Z w := by rw [hZ]; exact zero355
  clear hZ
  have hst := run_storeCells_cells (P := Tryz.prog) b o z355 0 w (by simpa [z355] using hc) (by simpa [z355] using hf) (by
    intro v hv'
    simp [z355] at hv'
    rcases hv' with rfl | rfl | rfl <;> rfl)
  simp only [Nat.add_zero] at hst
  simp [Builtin.clear_, run_underlying und351, hz0, hzc, hst]
theorem take_of_getElem? {α : Type} {l m : List α} {k : Nat} (hl : m.length = k) (h : ∀ i, i < k → l[i]? = m[i]?) : l.take k = m := by
  apply List.ext_getElem?
  intro i
  rw [List.getElem?_take]
  split
  · rename_i hi; exact h i hi
  · rw [List.getElem?_eq_none (by omega)]
set_option maxRecDepth 100000 in
set_option maxHeartbeats 4000000 in
theorem del_272j (n : Nat) (v : Value) (base i jj : Nat) (hjj : jj = i + 1) (cs : List Value) (w : World) (ho : w.ownsRow base 355 5 v n cs) (hi : i < n) (hn : n ≤ 1000000) (h1 : ∀ u ∈ cs, u.oneCell' = true) :
    Calls Tryz.prog 272 #[v, .int .i64 i, .int .i64 jj] w fun e w' => ∃ v', e = .returned v' ∧ w'.ownsRow base 355 5 v' (n - 1) (cs.take (i * 5) ++ cs.drop ((i + 1) * 5)) ∧ w.grownBy w' v.ownBlock ∧ v'.ownBlock = v.ownBlock := by
  have hlen : cs.length = n * 5 := ho.1
  rcases ho.2 with ⟨_, h0⟩ | ⟨gb, cap, cur, rfl, hbg, hh, hc1, hc2, hc3, hc4⟩
  · omega
  have hq : Blk w gb cur 355 := hh
  have hq' : Blk w.drew gb cur 355 := hq.drewN 1
  have hcur : ∀ m, m < n * 5 → cur[m]? = cs[m]? := fun m hm => by
    rw [← hc4, List.getElem?_take, if_pos hm]; simp
  obtain ⟨news, hnews⟩ : ∃ news, news = cs.drop (jj * 5) := ⟨_, rfl⟩
  have hnl : news.length = (n - jj) * 5 := by rw [hnews, List.length_drop, hlen]; omega
  obtain ⟨A, hA, hsrc⟩ : ∃ A : Addr, (if cap = jj then (some ⟨gb, 0, none⟩ : Option Addr) else some ⟨gb, jj * 5, none⟩) = some A ∧ Hid (∀ t u, news[t]? = some u → w.drew.cell? (A.add t) = some u) := by
    by_cases h : cap = jj
    · refine ⟨⟨gb, 0, none⟩, by simp [h], fun t u hu => ?_⟩
      have := (List.getElem?_eq_some_iff.1 hu).1
      omega
    · refine ⟨⟨gb, jj * 5, none⟩, by simp [h], fun t u hu => ?_⟩
      have := (List.getElem?_eq_some_iff.1 hu).1
      rw [hnews, List.getElem?_drop] at hu
      rw [Addr.add_lit]
      exact hq'.cell _ (by rw [hcur _ (by omega)]; exact hu)
  have s1 := Lib.hid hnl
  have s2 := Lib.hid (show ∀ u ∈ news, u.oneCell' = true from fun u hu => h1 u (List.mem_of_mem_drop (hnews ▸ hu)))
  have hin : ∀ m, m < n * 5 → ∃ u, cur[m]? = some u := fun m hm => ⟨cur[m]'(by omega), by simp⟩
  have s3 := Lib.hid (show ∀ t, t < news.length → (w.drew.cell? ⟨gb, 0 + i * 5 + t, none⟩).isSome = true ∧ w.drew.frozen? ⟨gb, 0 + i * 5 + t, none⟩ = false from fun t ht => by
    obtain ⟨u, hu⟩ := hin (0 + i * 5 + t) (by omega)
    exact ⟨by rw [hq'.cell _ hu]; rfl, hq'.frozen _⟩)
  obtain ⟨W1, hW1⟩ : ∃ W1, W1 = w.drew.setCells gb (0 + i * 5) news := ⟨_, rfl⟩
  obtain ⟨arr, hqa, hsz, hlo, hhi⟩ := setCells_get news (0 + i * 5) w.drew cur hq'
  have hg1 := setCells_grown news (0 + i * 5) w.drew cur hq'
  rw [← hW1] at hqa hg1
  have hsum : i + (n - jj) = n - 1 := by omega
  have hcl0 := fun ty => run_clear355 W1 ty gb ((n - 1) * 5) (cap - (n - 1)) (fun j hj => by
    have : (n - 1) * 5 + j < arr.size := by omega
    rw [hqa.cell ((n - 1) * 5 + j) (v := arr[(n - 1) * 5 + j]) (by simp)]; rfl) (fun j hj => hqa.frozen _)
  obtain ⟨arr2, hqb, hsz2, hlo2, _⟩ := setCells_get z355 ((n - 1) * 5) W1 arr hqa
  have hg2 := setCells_grown z355 ((n - 1) * 5) W1 arr hqa
  have hcl : ∀ ty, (Builtin.clear_ #[351] ty #[.slice (some ⟨gb, (i + (n - jj)) * 5, none⟩) (n - (i + (n - jj))) (cap - (i + (n - jj)))]).run Tryz.prog W1 = .ok (.tuple #[]) (W1.setCells gb ((n - 1) * 5) z355) := fun ty => by
    rw [hsum, show n - (n - 1) = 1 by omega]
    exact hcl0 ty
  have hrow : arr2.toList.take ((n - 1) * 5) = cs.take (i * 5) ++ cs.drop ((i + 1) * 5) := by
    refine take_of_getElem? (by rw [List.length_append, List.length_take, List.length_drop, hlen]; omega) fun m hm => ?_
    rw [Array.getElem?_toList, hlo2 m hm]
    rcases Nat.lt_or_ge m (i * 5) with h | h
    · rw [hlo m (by omega), hcur m (by omega), List.getElem?_append_left (by rw [List.length_take, hlen]; omega), List.getElem?_take, if_pos h]
    · have := hhi (m - i * 5) (by omega) (by omega)
      rw [show 0 + i * 5 + (m - i * 5) = m by omega] at this
      rw [this, List.getElem?_append_right (by rw [List.length_take, hlen]; omega), List.length_take, hlen, Nat.min_eq_left (by omega), hnews, hjj]
  have HW := Lib.hid hW1
  have HR := Lib.hid (show (W1.setCells gb ((n - 1) * 5) z355).ownsRow base 355 5 (.slice (some ⟨gb, 0, none⟩) (n - 1) cap) (n - 1) (cs.take (i * 5) ++ cs.drop ((i + 1) * 5)) ∧ w.grownBy (W1.setCells gb ((n - 1) * 5) z355) (some gb) from
    ⟨⟨by rw [List.length_append, List.length_take, List.length_drop, hlen]; omega, .inr ⟨gb, cap, arr2, rfl, hbg, hqb, by omega, hc2, by omega, hrow⟩⟩, ((grown_of_bel ((Bel.refl w).drewN 1) _).trans hg1).trans hg2⟩)
  have hc2' : cap ≤ 9223372036854775807 := by simpa [maxLen] using hc2
  obtain ⟨i0, hi0, hz0, hz1, hz2⟩ := info_parts info355
  have hsum' := Lib.hid hsum
  clear hW1 hqa hg1 hqb hg2 hcl0 hrow hhi hlo hlo2 hin hcur hc4 hnews hnl hlen hh hq hq' ho h1 hsum hsz hsz2 hc3
  have hij : ¬ (i = jj) := by omega
  have hijz : ((i : Int) == (jj : Int)) = false := by simp; omega
  have hlj : i < jj := by omega
  have hjn : jj ≤ n := by omega
  have hjj' := Lib.hid hjj
  clear hjj
  have mixed : Tryz.prog.follows .mixedOrders = true := by kernel_rfl
  have hic : i ≤ cap := by omega
  have hjc : jj ≤ cap := by omega
  go_enter Tryz.func272, Tryz.ntmps272
  go_wp2_with fail
  go_region_law_o (refine step_append_room rfl (.tmp 22) (.tmp 25) 351 rfl 355 i0 5 und351 hi0 hz1 gb 0 i cap (by simp [Act.eval, Act.put]) A (n - jj) (cap - jj) news (by simp [Act.eval, Act.put]) s1.out hsrc.out s2.out (by omega) s3.out ?_; rw [← HW.out])
  go_wp2
  go_ret
  refine ⟨.slice (some ⟨gb, 0, none⟩) (n - 1) cap, ?_, HR.out.1, HR.out.2, rfl⟩
  rw [hsum'.out]
  rfl
theorem del_272 (n : Nat) (v : Value) (base i : Nat) (cs : List Value) (w : World) (ho : w.ownsRow base 355 5 v n cs) (hi : i < n) (hn : n ≤ 1000000) (h1 : ∀ u ∈ cs, u.oneCell' = true) :
    Calls Tryz.prog 272 #[v, .int .i64 i, .int .i64 (i + 1)] w fun e w' => ∃ v', e = .returned v' ∧ w'.ownsRow base 355 5 v' (n - 1) (cs.take (i * 5) ++ cs.drop ((i + 1) * 5)) ∧ w.grownBy w' v.ownBlock ∧ v'.ownBlock = v.ownBlock :=
  del_272j n v base i (i + 1) rfl cs w ho hi hn h1
end Go.Proofs.YtbgilebgdbgddaaGreatDoor
/- Edges in memory; the closure of reduce.parallel -/
namespace Go.Proofs.YtbgilebgdbgddaaGreatDoor
open Go.RowKit
def EdgeT (d : Nat) : Enc Ed := fun w e cs => ∃ c3, cs = Value.string e.fr :: .string e.to_ :: c3 ∧ TreeT d w e.t c3
theorem EdgeT.tfr {T : List TypeId} {B : Nat} {w w' : World} (h : TFr T B w w') (hT : 332 ∉ T) {d : Nat} {e : Ed} {cs : List Value} (he : EdgeT d w e cs) : EdgeT d w' e cs := by
  obtain ⟨c3, h1, h2⟩ := he
  exact ⟨c3, h1, TreeT.tfr h hT _ _ _ h2⟩
theorem EdgeT.mono (d : Nat) : (EdgeT d).Mono := fun _ _ _ _ h hb => EdgeT.tfr (TFr.of_bel [] 0 hb) (by simp) h
theorem EdgeT.le {d d' : Nat} (h : d ≤ d') {w : World} {e : Ed} {cs : List Value} (he : EdgeT d w e cs) : EdgeT d' w e cs := by
  obtain ⟨c3, h1, h2⟩ := he
  exact ⟨c3, h1, h2.le h⟩
theorem EdgeT.len {d : Nat} {w : World} {e : Ed} {cs : List Value} (h : EdgeT d w e cs) : cs.length = 5 := by
  obtain ⟨c3, rfl, h2⟩ := h
  simp [h2.len]
theorem EdgeT.one {d : Nat} {w : World} {e : Ed} {cs : List Value} (h : EdgeT d w e cs) : ∀ u ∈ cs, u.oneCell' = true := by
  obtain ⟨c3, rfl, h2⟩ := h
  intro u hu
  simp at hu
  rcases hu with rfl | rfl | hu
  · rfl
  · rfl
  · exact treeT_one h2 u hu
/-- A row of edges that is owned. -/
structure OwnEd (w : World) (base d : Nat) (v : Value) (es : List Ed) (cs : List Value) : Prop where
  own : w.ownsRow base 355 5 v es.length cs
  el : ∀ i e, es[i]? = some e → ∃ c5, EdgeT d w e c5 ∧ ∀ j u, c5[j]? = some u → cs[i * 5 + j]? = some u
theorem OwnEd.le {w : World} {base d d' : Nat} {v : Value} {es : List Ed} {cs : List Value} (h : OwnEd w base d v es cs) (hd : d ≤ d') : OwnEd w base d' v es cs :=
  ⟨h.own, fun i e he => let ⟨c5, h1, h2⟩ := h.el i e he; ⟨c5, h1.le hd, h2⟩⟩
theorem OwnEd.tfr {T : List TypeId} {B : Nat} {w w' : World} {base d : Nat} {v : Value} {es : List Ed} {cs : List Value} (h : OwnEd w base d v es cs) (hf : TFr T B w w') (h1 : 332 ∉ T) (h2 : 355 ∉ T) : OwnEd w' base d v es cs :=
  ⟨own_tfr h.own hf h2, fun i e he => let ⟨c5, h3, h4⟩ := h.el i e he; ⟨c5, h3.tfr hf h1, h4⟩⟩
theorem OwnEd.bel {w w' : World} {base d : Nat} {v : Value} {es : List Ed} {cs : List Value} (h : OwnEd w base d v es cs) (hb : Bel w w') : OwnEd w' base d v es cs :=
  h.tfr (TFr.of_bel [] 0 hb) (by simp) (by simp)
theorem OwnEd.one {w : World} {base d : Nat} {v : Value} {es : List Ed} {cs : List Value} (h : OwnEd w base d v es cs) : ∀ u ∈ cs, u.oneCell' = true := fun u hu => by
  obtain ⟨x, c, _, hx, hc⟩ := cells_mem (E := EdgeT d) (w := w) (xs := es) h.own.1 (by decide) (fun i x hi => let ⟨c5, h3, h4⟩ := h.el i x hi; ⟨c5, h3, h3.len, h4⟩) u hu
  exact hx.one u hc
theorem OwnEd.read {w : World} {base d : Nat} {v : Value} {es : List Ed} {cs : List Value} (h : OwnEd w base d v es cs) : SlAt (EdgeT d) 5 w v es := by
  rcases h.own.2 with ⟨rfl, h0⟩ | ⟨g, cap, cur, rfl, hbg, hh, h1, h2, h3, h4⟩
  · have : es = [] := List.eq_nil_of_length_eq_zero h0
    subst this
    exact SlAt.nil _ _ _
  · refine ⟨_, cap, rfl, h1, h2, fun i t hi => ?_⟩
    obtain ⟨c5, ht, hc⟩ := h.el i t hi
    refine ⟨g, 0, c5, rfl, ht, ht.len, fun j u hu => ?_⟩
    have hfl := hc j u hu
    have hq : Blk w g cur 355 := hh
    rw [← h4, List.getElem?_take] at hfl
    split at hfl
    · rw [Nat.zero_add]
      exact hq.cell _ (by simpa using hfl)
    · cases hfl
/-- An edge's cells in the row. -/
theorem OwnEd.at {w : World} {base d g n cap : Nat} {es : List Ed} {cs : List Value} (h : OwnEd w base d (.slice (some ⟨g, 0, none⟩) n cap) es cs) {i : Nat} {e : Ed} (he : es[i]? = some e) :
    ∃ c3, TreeT d w e.t c3 ∧ w.cell? ⟨g, i * 5, none⟩ = some (.string e.fr) ∧ w.cell? ⟨g, i * 5 + 1, none⟩ = some (.string e.to_) ∧ ∀ j u, c3[j]? = some u → w.cell? ⟨g, i * 5 + 2 + j, none⟩ = some u := by
  obtain ⟨c5, ⟨c3, rfl, ht⟩, hc⟩ := h.el i e he
  have ho : w.ownsRow base 355 5 (.slice (some ⟨g, 0, none⟩) es.length cap) es.length cs := by
    have := h.own
    rcases this.2 with ⟨e, _⟩ | ⟨g', cap', cur, e, r⟩
    · cases e
    · injection e with e1 e2 e3
      subst e2
      exact this
  refine ⟨c3, ht, (own_cell ho _ (hc 0 _ rfl)).1, (own_cell ho _ (hc 1 _ rfl)).1, fun j u hu => ?_⟩
  have := (own_cell ho _ (hc (j + 2) u (by simpa using hu))).1
  rwa [show i * 5 + (j + 2) = i * 5 + 2 + j by omega] at this
/-- One element is replaced. -/
theorem el_put {es : List Ed} {cs cs2 : List Value} {i : Nat} {z : Ed} {c5 : List Value} (hi : i < es.length) (hc : c5.length = 5) (P : Ed → List Value → Prop) (hz : P z c5)
    (hel : ∀ i e, es[i]? = some e → ∃ c5, P e c5 ∧ c5.length = 5 ∧ ∀ j u, c5[j]? = some u → cs[i * 5 + j]? = some u)
    (hfar : ∀ q, (q < i * 5 ∨ (i + 1) * 5 ≤ q) → cs2[q]? = cs[q]?) (hnear : ∀ j u, c5[j]? = some u → cs2[i * 5 + j]? = some u) :
    ∀ m e, (es.set i z)[m]? = some e → ∃ c, P e c ∧ c.length = 5 ∧ ∀ j u, c[j]? = some u → cs2[m * 5 + j]? = some u := fun m e he => by
  by_cases hm : i = m
  · subst hm
    rw [List.getElem?_set_self hi] at he
    injection he with he
    subst he
    exact ⟨c5, hz, hc, hnear⟩
  · rw [List.getElem?_set_ne hm] at he
    obtain ⟨c, h1, h2, h3⟩ := hel m e he
    refine ⟨c, h1, h2, fun j u hu => ?_⟩
    have hj := (List.getElem?_eq_some_iff.1 hu).1
    rw [hfar _ (by omega)]
    exact h3 j u hu
/-- One element leaves. -/
theorem el_erase {es : List Ed} {cs : List Value} {k : Nat} (hl : cs.length = es.length * 5) (hk : k < es.length) (P : Ed → List Value → Prop)
    (h1 : ∀ i e, es[i]? = some e → ∃ c5, P e c5 ∧ c5.length = 5 ∧ ∀ j u, c5[j]? = some u → cs[i * 5 + j]? = some u) :
    ∀ m e, (es.eraseIdx k)[m]? = some e → ∃ c, P e c ∧ c.length = 5 ∧ ∀ j u, c[j]? = some u → (cs.take (k * 5) ++ cs.drop ((k + 1) * 5))[m * 5 + j]? = some u := by
  intro m e he
  rw [List.getElem?_eraseIdx] at he
  split at he
  · rename_i hm
    obtain ⟨c, q1, q2, q3⟩ := h1 m e he
    refine ⟨c, q1, q2, fun j u hu => ?_⟩
    have hj := (List.getElem?_eq_some_iff.1 hu).1
    rw [List.getElem?_append_left (by simp; omega), List.getElem?_take, if_pos (by omega)]
    exact q3 j u hu
  · rename_i hm
    obtain ⟨c, q1, q2, q3⟩ := h1 (m + 1) e he
    refine ⟨c, q1, q2, fun j u hu => ?_⟩
    have hj := (List.getElem?_eq_some_iff.1 hu).1
    rw [List.getElem?_append_right (by simp; omega), List.getElem?_drop]
    rw [← q3 j u hu]
    congr 1
    simp; omega
/-- A store into the row that is owned. -/
theorem own_put {w : World} {B g n cap : Nat} {e : TypeId} {sz : Nat} {cs : List Value} (ho : w.ownsRow B e sz (.slice (some ⟨g, 0, none⟩) n cap) n cs) (i : Nat) (u : Value) : (w.setCell ⟨g, i, none⟩ u).ownsRow B e sz (.slice (some ⟨g, 0, none⟩) n cap) n (cs.set i u) := by
  refine ⟨by rw [List.length_set]; exact ho.1, ?_⟩
  rcases ho.2 with ⟨h, _⟩ | ⟨g', cap', cur, hv, hb, hh, h1, h2, h3, h4⟩
  · cases h
  · injection hv with h5 h6 h7
    injection h5 with h5
    injection h5 with h5
    subst h5
    subst h7
    have hq : Blk w g cur e := hh
    refine .inr ⟨g, cap, _, rfl, hb, hq.set i u, h1, h2, by simpa using h3, ?_⟩
    rw [Array.toList_setIfInBounds, List.take_set, h4]
theorem eg270 : ∀ args w, (callFunc 270 args).run Tryz.prog w = .ok (.enter 270 args) w := enters_of Tryz.func270 (by kernel_rfl) rfl
theorem clo_270 (b d : Nat) (x y : Ed) (cs cx : List Value) (w : World) (h : EdgeT d w y cs) (hb : Blk w b cx.toArray 355) (hx : EdgeT d w x cx) :
    Calls Tryz.prog 270 #[.agg cs.toArray, .pointer (some ⟨b, 0, none⟩)] w fun e w' => e = .returned (.bool (pairB x y)) ∧ Bel w w' := by
  obtain ⟨c3, rfl, ht⟩ := h
  obtain ⟨cx3, rfl, htx⟩ := hx
  cases d with
  | zero => exact ht.elim
  | succ d =>
  obtain ⟨v1, rfl, hs1, _⟩ := ht
  obtain ⟨v2, rfl, hs2, _⟩ := htx
  obtain ⟨a1, p1, rfl, _⟩ := hs1.ex
  obtain ⟨a2, p2, rfl, _⟩ := hs2.ex
  clear hs1 hs2
  obtain ⟨xf, xt, xr⟩ := x
  obtain ⟨yf, yt, yr⟩ := y
  dsimp only at *
  have e0 : ∀ o, (w.alloc o).cell? ⟨b, 0, none⟩ = some (.string xf) := fun o => ((Bel.refl w).alloc o).cell (hb.cell 0 rfl)
  have e1 : ∀ o, (w.alloc o).cell? ⟨b, 1, none⟩ = some (.string xt) := fun o => ((Bel.refl w).alloc o).cell (hb.cell 1 rfl)
  have hp : pairB ⟨xf, xt, xr⟩ ⟨yf, yt, yr⟩ = ((yf.toList == xf.toList) && (yt.toList == xt.toList)) := by
    rw [strEq, strEq]; unfold pairB; simp
  rw [hp]
  go_enter Tryz.func270, Tryz.ntmps270
  go_wp2_with fail
  all_goals go_ret
  all_goals exact ⟨by simp [*], (Bel.refl _).alloc _⟩
end Go.Proofs.YtbgilebgdbgddaaGreatDoor
