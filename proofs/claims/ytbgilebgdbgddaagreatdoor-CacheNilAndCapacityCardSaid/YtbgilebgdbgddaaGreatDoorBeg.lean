/- A rung line -/
import Derived.Test.YtbgilebgdbgddaaGreatDoorPco
import Derived.Deep.DeepCutAuto
set_option linter.unusedVariables false
set_option linter.unusedSimpArgs false
namespace Go.Proofs.YtbgilebgdbgddaaGreatDoor
open Go.RowKit
theorem PsAt.read {W0 W1 w : World} {p : PS} {vr : Value} {cs : List Value} (hf : TFr [275, 33, 3] W0.heap.size W1 w) (hb1 : Bel W0 W1) (ho : w.ownsRow W0.heap.size 33 4 vr p.rungs.length cs)
    (h1 : ∀ k r, k + 1 < p.rungs.length → p.rungs[k]? = some r → ∃ c4, RungO W0.heap.size W1 r c4 ∧ ∀ j u, c4[j]? = some u → cs[k * 4 + j]? = some u)
    (h2 : ∀ k r, k + 1 = p.rungs.length → p.rungs[k]? = some r → ∃ c4, RungO W1.heap.size w r c4 ∧ ∀ j u, c4[j]? = some u → cs[k * 4 + j]? = some u) :
    ∀ k r, p.rungs[k]? = some r → ∃ c4, RungO W0.heap.size w r c4 ∧ ∀ j u, c4[j]? = some u → cs[k * 4 + j]? = some u := fun k r hk => by
  have hlt := (List.getElem?_eq_some_iff.1 hk).1
  rcases (show k + 1 < p.rungs.length ∨ k + 1 = p.rungs.length by omega) with h | h
  · obtain ⟨c4, h3, h4⟩ := h1 k r h hk
    exact ⟨c4, h3.tfr hf (by decide) (by decide), h4⟩
  · obtain ⟨c4, h3, h4⟩ := h2 k r h hk
    exact ⟨c4, h3.base hb1.size, h4⟩
/-- The row of rungs reads as a list. -/
theorem rungs_read {w : World} {B : Nat} {vr : Value} {rs : List Rung} {cs : List Value} (ho : w.ownsRow B 33 4 vr rs.length cs) (h : ∀ k r, rs[k]? = some r → ∃ c4, RungO B w r c4 ∧ ∀ j u, c4[j]? = some u → cs[k * 4 + j]? = some u) : SlAt RungE 4 w vr rs := by
  rcases ho.2 with ⟨rfl, h0⟩ | ⟨g, cap, cur, rfl, hbg, hh, h1, h2, h3, h4⟩
  · have : rs = [] := List.eq_nil_of_length_eq_zero h0
    subst this
    exact SlAt.nil _ _ _
  · refine ⟨_, cap, rfl, h1, h2, fun i r hi => ?_⟩
    obtain ⟨c4, ht, hc⟩ := h i r hi
    refine ⟨g, 0, c4, rfl, ht.read, ht.len, fun j u hu => ?_⟩
    have hfl := hc j u hu
    have hq : Blk w g cur 33 := hh
    rw [← h4, List.getElem?_take] at hfl
    split at hfl
    · rw [Nat.zero_add]
      exact hq.cell _ (by simpa using hfl)
    · cases hfl
/-- What stands between the appends of a rung line. -/
structure Mid (Wk W0 W1 w : World) (rs : List Rung) (Bp R Lb : Nat) (qc rc lc : Array Value) (xr xl xj : Value) (nr nl nj : Nat) (cr cl cj : List Value) : Prop where
  bel : BelK Wk W0 w
  maps : MapsKept W1 w
  q : Blk w Bp qc 275
  qr : Blk w R rc 33
  ql : Blk w Lb lc 278
  rr : w.ownsRow W0.heap.size 33 4 xr nr cr
  rl : w.ownsRow W0.heap.size 3 1 xl nl cl
  rj : w.ownsRow W0.heap.size 3 1 xj nj cj
  sep : ∀ g, xl.ownBlock = some g → xj.ownBlock ≠ some g
  far : ∀ g, xr.ownBlock = some g → g ≠ R
  old : ∀ k r, rs[k]? = some r → ∃ c4, RungO W0.heap.size w r c4 ∧ ∀ j u, c4[j]? = some u → cr[k * 4 + j]? = some u
section
variable {Wk W0 W1 w w' : World} {rs : List Rung} {Bp R Lb : Nat} {qc rc lc : Array Value} {xr xl xj x' : Value} {nr nl nj : Nat} {cr cl cj ns : List Value}
theorem Mid.to (h : Mid Wk W0 W1 w rs Bp R Lb qc rc lc xr xl xj nr nl nj cr cl cj) (hb : Bel w w') : Mid Wk W0 W1 w' rs Bp R Lb qc rc lc xr xl xj nr nl nj cr cl cj :=
  ⟨h.bel.trans hb, h.maps.trans (MapsKept.bel hb), h.q.bel hb, h.qr.bel hb, h.ql.bel hb, own_bel h.rr hb, own_bel h.rl hb, own_bel h.rj hb, h.sep, h.far, fun k r hk => let ⟨c4, h1, h2⟩ := h.old k r hk; ⟨c4, h1.bel hb, h2⟩⟩
theorem Mid.appR (h : Mid Wk W0 W1 w rs Bp R Lb qc rc lc xr xl xj nr nl nj cr cl cj) (ho : w'.ownsRow W0.heap.size 33 4 x' (nr + 1) (cr ++ ns)) (hg : w.grownBy w' xr.ownBlock) (hf : TFr [33] W0.heap.size w w') (hat : ∀ g, x'.ownBlock = some g → xr.ownBlock = some g ∨ g = w.heap.size) :
    Mid Wk W0 W1 w' rs Bp R Lb qc rc lc x' xl xj (nr + 1) nl nj (cr ++ ns) cl cj := by
  refine ⟨h.bel.tfr hf (by decide), h.maps.trans (MapsKept.tfr hf), hf.blk h.q (.inr (by decide)), grown_blk h.qr hg (fun e => h.far R e.symm rfl), hf.blk h.ql (.inr (by decide)), ho, own_tfr h.rl hf (by decide), own_tfr h.rj hf (by decide), h.sep, fun g hg' => ?_, fun k r hk => ?_⟩
  · rcases hat g hg' with e | e
    · exact h.far g e
    · have := h.qr.lt; omega
  · obtain ⟨c4, h1, h2⟩ := h.old k r hk
    refine ⟨c4, h1.tfr hf (by decide) (by decide), fun j u hu => ?_⟩
    have := h2 j u hu
    rw [List.getElem?_append_left (List.getElem?_eq_some_iff.1 this).1]
    exact this
theorem Mid.appL (h : Mid Wk W0 W1 w rs Bp R Lb qc rc lc xr xl xj nr nl nj cr cl cj) (ho : w'.ownsRow W0.heap.size 3 1 x' (nl + 1) (cl ++ ns)) (hg : w.grownBy w' xl.ownBlock) (hf : TFr [3] W0.heap.size w w') (hat : ∀ g, x'.ownBlock = some g → xl.ownBlock = some g ∨ g = w.heap.size) :
    Mid Wk W0 W1 w' rs Bp R Lb qc rc lc xr x' xj nr (nl + 1) nj cr (cl ++ ns) cj := by
  refine ⟨h.bel.tfr hf (by decide), h.maps.trans (MapsKept.tfr hf), hf.blk h.q (.inr (by decide)), hf.blk h.qr (.inr (by decide)), hf.blk h.ql (.inr (by decide)), own_tfr h.rr hf (by decide), ho, own_far h.rj fun g hj hl => hg.block g hl (fun e => h.sep g e.symm hj), fun g hg' hj => ?_, h.far, fun k r hk => let ⟨c4, h1, h2⟩ := h.old k r hk; ⟨c4, h1.tfr hf (by decide) (by decide), h2⟩⟩
  rcases hat g hg' with e | e
  · exact h.sep g e hj
  · have := own_lt h.rj g hj; omega
theorem Mid.appJ (h : Mid Wk W0 W1 w rs Bp R Lb qc rc lc xr xl xj nr nl nj cr cl cj) (ho : w'.ownsRow W0.heap.size 3 1 x' (nj + 1) (cj ++ ns)) (hg : w.grownBy w' xj.ownBlock) (hf : TFr [3] W0.heap.size w w') (hat : ∀ g, x'.ownBlock = some g → xj.ownBlock = some g ∨ g = w.heap.size) :
    Mid Wk W0 W1 w' rs Bp R Lb qc rc lc xr xl x' nr nl (nj + 1) cr cl (cj ++ ns) := by
  refine ⟨h.bel.tfr hf (by decide), h.maps.trans (MapsKept.tfr hf), hf.blk h.q (.inr (by decide)), hf.blk h.qr (.inr (by decide)), hf.blk h.ql (.inr (by decide)), own_tfr h.rr hf (by decide), own_far h.rl fun g hj hl => hg.block g hl (fun e => h.sep g hj e.symm), ho, fun g hl hg' => ?_, h.far, fun k r hk => let ⟨c4, h1, h2⟩ := h.old k r hk; ⟨c4, h1.tfr hf (by decide) (by decide), h2⟩⟩
  rcases hat g hg' with e | e
  · exact h.sep g hl e
  · have := own_lt h.rl g hl; omega
end
/-- Behind the three stores. -/
theorem Mid.stored {Wk W0 W1 w : World} {Bp R Lb : Nat} {rc lc : Array Value} {xr xl xj v3 v5 v6 : Value} {cr : List Value} {p : PS} {lab : ByteArray} {n : Int} (hbase : W0.heap.size ≤ Bp)
    (h : Mid Wk W0 W1 w p.rungs Bp R Lb #[.int .i64 p.i, .int .i64 p.q, .int .i64 p.m, v3, .bool p.sized, v5, v6] rc lc xr xl xj (p.rungs.length + 1) (p.lines.length + 1) (p.jumps.length + 1) (cr ++ [.string lab, .slice none 0 0, .slice none 0 0, .string .empty]) (p.lines.flatMap intC ++ [.int .i64 n]) (p.jumps.flatMap intC ++ [.int .i64 0])) (hcr : cr.length = p.rungs.length * 4) :
    MapsKept W1 (((w.setCell ⟨Bp, 3, none⟩ xr).setCell ⟨Bp, 5, none⟩ xl).setCell ⟨Bp, 6, none⟩ xj) ∧ PsAt Wk W0 (((w.setCell ⟨Bp, 3, none⟩ xr).setCell ⟨Bp, 5, none⟩ xl).setCell ⟨Bp, 6, none⟩ xj) (((w.setCell ⟨Bp, 3, none⟩ xr).setCell ⟨Bp, 5, none⟩ xl).setCell ⟨Bp, 6, none⟩ xj) Bp { p with rungs := p.rungs ++ [⟨lab, [], [], .empty⟩], lines := p.lines ++ [n], jumps := p.jumps ++ [0] } := by
  have t1 : TFr [275] W0.heap.size w (w.setCell ⟨Bp, 3, none⟩ xr) := TFr.setC h.q (by simp) hbase _ _
  have q1 := h.q.set 3 xr
  have t2 := t1.trans (TFr.setC q1 (by simp) hbase 5 xl)
  have q2 := q1.set 5 xl
  have t3 := t2.trans (TFr.setC q2 (by simp) hbase 6 xj)
  have q3 := q2.set 6 xj
  generalize (((w.setCell ⟨Bp, 3, none⟩ xr).setCell ⟨Bp, 5, none⟩ xl).setCell ⟨Bp, 6, none⟩ xj) = w' at *
  have hB := h.bel.tfr t3 (by decide)
  refine ⟨h.maps.trans (MapsKept.tfr t3), ?_⟩
  refine ⟨hB, hbase, TFr.refl _ _ _, hB, xr, xl, xj, cr ++ [.string lab, .slice none 0 0, .slice none 0 0, .string .empty], q3, ?_, fun k r hk hr => ?_, fun k r hk hr => ?_, ?_, ?_, h.sep⟩
  · have := own_tfr h.rr t3 (by decide)
    rw [List.length_append]
    exact this
  · simp only [List.length_append, List.length_cons, List.length_nil] at hk
    rw [List.getElem?_append_left (by omega)] at hr
    obtain ⟨c4, h1, h2⟩ := h.old k r hr
    exact ⟨c4, h1.tfr t3 (by decide) (by decide), h2⟩
  · simp only [List.length_append, List.length_cons, List.length_nil] at hk
    obtain rfl : k = p.rungs.length := by omega
    rw [List.getElem?_append_right (by omega)] at hr
    simp at hr
    subst hr
    refine ⟨[.string lab, .slice none 0 0, .slice none 0 0, .string .empty], ⟨_, _, rfl, World.ownsRow_nil _ _ _ _, World.ownsRow_nil _ _ _ _⟩, fun j u hu => ?_⟩
    rw [List.getElem?_append_right (by omega), hcr, show p.rungs.length * 4 + j - p.rungs.length * 4 = j by omega]
    exact hu
  · have := own_tfr h.rl t3 (by decide)
    simpa [intC, List.flatMap_append] using this
  · have := own_tfr h.rj t3 (by decide)
    simpa [intC, List.flatMap_append] using this
def beginF (p : PS) (l : Line) : Int × PS :=
  if 1 < l.words.length ∧ isNameB (wrd l 1) = false then (6, p) else
  if 1 < l.words.length ∧ (p.rungs.any fun x => decide (x.label = wrd l 1)) = true then (9, p) else
  if p.rungs.length = 64 then (10, p) else
  (0, { p with rungs := p.rungs ++ [⟨if 1 < l.words.length then wrd l 1 else .empty, [], [], .empty⟩], lines := p.lines ++ [l.n], jumps := p.jumps ++ [0] })
/-- Behind the label: the new rung's block holds it. -/
def BegMid (Wk W0 W1 : World) (p : PS) (l : Line) (Bp R Lb : Nat) (qc lc : Array Value) (xr xl xj : Value) (cs : List Value) (wx : World) : Prop :=
  ∃ lab, Mid Wk W0 W1 wx p.rungs Bp R Lb qc #[.string lab, .slice none 0 0, .slice none 0 0, .string ⟨#[]⟩] lc xr xl xj p.rungs.length p.lines.length p.jumps.length cs (p.lines.flatMap intC) (p.jumps.flatMap intC) ∧
    beginF p l = if p.rungs.length = 64 then (10, p) else (0, { p with rungs := p.rungs ++ [⟨lab, [], [], .empty⟩], lines := p.lines ++ [l.n], jumps := p.jumps ++ [0] })
set_option maxRecDepth 100000 in
set_option maxHeartbeats 4000000 in
theorem begin204 (Wk W0 W1 w : World) (Bp : Nat) (p : PS) (l : Line) (cl : List Value) (hp : PsAt Wk W0 W1 w Bp p) (hok : PsOk p) (hll : p.lines.length ≤ 100000) (hjl : p.jumps.length ≤ 100000) (hl : LineE W0 l cl) (hln : l.words.length = 1 ∨ l.words.length = 2) (hsz : ∀ s ∈ l.words, s.size ≤ 65536) :
    Calls Tryz.prog 204 #[.pointer (some ⟨Bp, 0, none⟩), .agg cl.toArray] w (Answers Wk W0 W1 Bp (beginF p l)) := by
  obtain ⟨v, rfl, hw⟩ := hl
  obtain ⟨a, c, rfl, hc1, hc2, _⟩ := hw.ex
  obtain ⟨b, off, rfl, _⟩ := wrd_cell hw (k := 0) (by omega)
  obtain ⟨vr, vl, vj, cs, q, ho, h1, h2, hlin, hjmp, hsep⟩ := hp.ex
  have hold := PsAt.read hp.fr hp.bel1 ho h1 h2
  have hSl := rungs_read ho hold
  have h64 := hok.rungs
  have hB := hp.bel
  have hbase := hp.base
  have hcsl : cs.length = p.rungs.length * 4 := ho.1
  have hmaps : MapsKept W1 w := MapsKept.tfr hp.fr
  clear h1 h2 hok hp
  obtain ⟨Ar, cr, rfl, _⟩ := own_slice ho
  obtain ⟨Al, cll, rfl, _⟩ := own_slice hlin
  obtain ⟨Aj, cj, rfl, _⟩ := own_slice hjmp
  have hs1 := wrd_size hsz 1
  have hM : ∀ (W : World) (lab : ByteArray), Bel w W → Blk W (w.heap.size + 1) #[.string lab, .slice none 0 0, .slice none 0 0, .string ⟨#[]⟩] 33 → Blk W w.heap.size #[.int .i64 l.n, .slice (some ⟨b, off, none⟩) l.words.length c] 278 → Mid Wk W0 W1 W p.rungs Bp (w.heap.size + 1) w.heap.size #[.int .i64 p.i, .int .i64 p.q, .int .i64 p.m, .slice Ar p.rungs.length cr, .bool p.sized, .slice Al p.lines.length cll, .slice Aj p.jumps.length cj] #[.string lab, .slice none 0 0, .slice none 0 0, .string ⟨#[]⟩] #[.int .i64 l.n, .slice (some ⟨b, off, none⟩) l.words.length c] (.slice Ar p.rungs.length cr) (.slice Al p.lines.length cll) (.slice Aj p.jumps.length cj) p.rungs.length p.lines.length p.jumps.length cs (p.lines.flatMap intC) (p.jumps.flatMap intC) := fun W lab hb qr ql =>
    ⟨hB.trans hb, hmaps.trans (MapsKept.bel hb), q.bel hb, qr, ql, own_bel ho hb, own_bel hlin hb, own_bel hjmp hb, hsep, fun g hg e => by have := own_lt ho g hg; omega, fun k r hk => let ⟨c4, h1, h2⟩ := hold k r hk; ⟨c4, h1.bel hb, h2⟩⟩
  have HCSL := Lib.hid hcsl
  clear hcsl
  go_enter Tryz.func204, Tryz.ntmps204
  go_upto_if 9 with (fail)
  go_cut [] (BegMid Wk W0 W1 p l Bp (w.heap.size + 1) w.heap.size #[.int .i64 p.i, .int .i64 p.q, .int .i64 p.m, .slice Ar p.rungs.length cr, .bool p.sized, .slice Al p.lines.length cll, .slice Aj p.jumps.length cj] #[.int .i64 l.n, .slice (some ⟨b, off, none⟩) l.words.length c] (.slice Ar p.rungs.length cr) (.slice Al p.lines.length cll) (.slice Aj p.jumps.length cj) cs)
  case first =>
    have hbA : ∀ (cs : Array Value), Bel w ((w.alloc (.cells #[.int .i64 l.n, .slice (some ⟨b, off, none⟩) l.words.length c] 278)).alloc (.cells cs 33)) := fun cs => ((Bel.refl w).alloc _).alloc _
    have hqr : ∀ (cs : Array Value), Blk ((w.alloc (.cells #[.int .i64 l.n, .slice (some ⟨b, off, none⟩) l.words.length c] 278)).alloc (.cells cs 33)) (w.heap.size + 1) cs 33 := fun cs => Blk.new1 w _ _ _
    have hql : ∀ (cs : Array Value), Blk ((w.alloc (.cells #[.int .i64 l.n, .slice (some ⟨b, off, none⟩) l.words.length c] 278)).alloc (.cells cs 33)) w.heap.size #[.int .i64 l.n, .slice (some ⟨b, off, none⟩) l.words.length c] 278 := fun cs => (Blk.new w _ _).alloc _
    by_cases h1 : l.words.length = 1
    · have hS : beginF p l = if p.rungs.length = 64 then (10, p) else (0, { p with rungs := p.rungs ++ [⟨.empty, [], [], .empty⟩], lines := p.lines ++ [l.n], jumps := p.jumps ++ [0] }) := by
        unfold beginF
        rw [if_neg (by omega), if_neg (by omega)]
        simp [h1]
      have HR : BegMid Wk W0 W1 p l Bp (w.heap.size + 1) w.heap.size #[.int .i64 p.i, .int .i64 p.q, .int .i64 p.m, .slice Ar p.rungs.length cr, .bool p.sized, .slice Al p.lines.length cll, .slice Aj p.jumps.length cj] #[.int .i64 l.n, .slice (some ⟨b, off, none⟩) l.words.length c] (.slice Ar p.rungs.length cr) (.slice Al p.lines.length cll) (.slice Aj p.jumps.length cj) cs ((w.alloc (.cells #[.int .i64 l.n, .slice (some ⟨b, off, none⟩) l.words.length c] 278)).alloc (.cells #[.string ⟨#[]⟩, .slice none 0 0, .slice none 0 0, .string ⟨#[]⟩] 33)) := ⟨.empty, hM _ _ (hbA _) (hqr _) (hql _), hS⟩
      have hx : decide (1 < l.words.length) = false := by simp; omega
      clear hS hM hbA hqr hql
      go_wp2_with fail
      go_meet
      exact HR
    · have h2 : l.words.length = 2 := by omega
      have hx : decide (1 < l.words.length) = true := by simp; omega
      obtain ⟨b', off', e', d1⟩ := wrd_cell hw (k := 1) (by omega)
      injection e' with e'; injection e' with e1 e2; subst e1; subst e2
      have hS : beginF p l = if isNameB (wrd l 1) = false then (6, p) else if (p.rungs.any fun x => decide (x.label = wrd l 1)) = true then (9, p) else if p.rungs.length = 64 then (10, p) else (0, { p with rungs := p.rungs ++ [⟨wrd l 1, [], [], .empty⟩], lines := p.lines ++ [l.n], jumps := p.jumps ++ [0] }) := by
        unfold beginF
        simp [h2]
      have hx1 : 1 < l.words.length := by omega
      have u1 := fun cs => (hB.trans (hbA cs)).cell d1
      have HS := Lib.hid hS
      clear hS h1 h2
      have hnm := isName_any (wrd l 1) ((w.alloc (.cells #[.int .i64 l.n, .slice (some ⟨b, off, none⟩) l.words.length c] 278)).alloc (.cells #[.string (wrd l 1), .slice none 0 0, .slice none 0 0, .string ⟨#[]⟩] 33)) (by omega)
      cases hi : isNameB (wrd l 1) with
      | false =>
        rw [hi] at hnm
        have HS2 := Lib.hid (show beginF p l = (6, p) by rw [HS.out, if_pos hi])
        have hB1 : BelK Wk W0 ((w.alloc (.cells #[.int .i64 l.n, .slice (some ⟨b, off, none⟩) l.words.length c] 278)).alloc (.cells #[.string (wrd l 1), .slice none 0 0, .slice none 0 0, .string ⟨#[]⟩] 33)) := hB.trans (hbA _)
        clear HS hM hbA hqr hql hi
        go_wp2_with fail
        refine hnm.mono ?_
        rintro e w1 ⟨rfl, hb1⟩
        go_wp2_with fail
        exact bodyPost_ret (v := .int .i64 6) (by simp [results, Tryz.results204, go_sem]) rfl ⟨by rw [HS2.out], hB1.trans hb1, fun h => by rw [HS2.out] at h; cases h⟩
      | true =>
        rw [hi] at hnm
        have HS2 := HS.out
        rw [if_neg (by rw [hi]; simp)] at HS2
        have HS3 := Lib.hid HS2
        clear HS HS2 hi
        have hbW := hbA #[.string (wrd l 1), .slice none 0 0, .slice none 0 0, .string ⟨#[]⟩]
        have hqrW := hqr #[.string (wrd l 1), .slice none 0 0, .slice none 0 0, .string ⟨#[]⟩]
        have hqlW := hql #[.string (wrd l 1), .slice none 0 0, .slice none 0 0, .string ⟨#[]⟩]
        clear hbA hqr hql
        have k3 : ∀ X, Bel w X → X.cell? ⟨Bp, 3, none⟩ = some (.slice Ar p.rungs.length cr) := fun X hX => (q.bel hX).cell 3 rfl
        have hct : ∀ X, Bel w X → Blk X (w.heap.size + 1) #[.string (wrd l 1), .slice none 0 0, .slice none 0 0, .string ⟨#[]⟩] 33 → Calls Tryz.prog 97 #[.slice Ar p.rungs.length cr, .func (.func 225) #[] #[.pointer (some ⟨w.heap.size + 1, 0, none⟩)]] X fun e w' => e = .returned (.bool (p.rungs.any fun x => decide (x.label = wrd l 1))) ∧ Bel X w' := fun X hX hq => cont_225 (w.heap.size + 1) (wrd l 1) p.rungs _ X (hSl.bel RungE.mono hX) (hq.cell 0 rfl)
        have HCT := Lib.hid hct
        clear hct q
        go_wp2_with fail
        refine hnm.mono ?_
        rintro e w1 ⟨rfl, hb1⟩
        have hb2 := hbW.trans hb1
        have hqr1 := hqrW.bel hb1
        have hql1 := hqlW.bel hb1
        have kk := k3 w1 hb2
        clear k3 hnm
        have hct1 := HCT.out w1 hb2 hqr1
        cases hany : (p.rungs.any fun x => decide (x.label = wrd l 1)) with
        | true =>
          rw [hany] at hct1
          have HS4 := Lib.hid (show beginF p l = (9, p) by rw [HS3.out, if_pos hany])
          have hB1 : BelK Wk W0 w1 := hB.trans hb2
          clear HS3 hM hany
          go_wp2_with fail
          refine hct1.mono ?_
          rintro e w2 ⟨rfl, hb3⟩
          go_wp2_with fail
          exact bodyPost_ret (v := .int .i64 9) (by simp [results, Tryz.results204, go_sem]) rfl ⟨by rw [HS4.out], hB1.trans hb3, fun h => by rw [HS4.out] at h; cases h⟩
        | false =>
          rw [hany] at hct1
          have HS4 := HS3.out
          rw [if_neg (by rw [hany]; simp)] at HS4
          have HS5 := Lib.hid HS4
          clear HS3 HS4 hany
          go_wp2_with fail
          refine hct1.mono ?_
          rintro e w2 ⟨rfl, hb3⟩
          have HR : BegMid Wk W0 W1 p l Bp (w.heap.size + 1) w.heap.size #[.int .i64 p.i, .int .i64 p.q, .int .i64 p.m, .slice Ar p.rungs.length cr, .bool p.sized, .slice Al p.lines.length cll, .slice Aj p.jumps.length cj] #[.int .i64 l.n, .slice (some ⟨b, off, none⟩) l.words.length c] (.slice Ar p.rungs.length cr) (.slice Al p.lines.length cll) (.slice Aj p.jumps.length cj) cs w2 := ⟨wrd l 1, hM _ _ (hb2.trans hb3) (hqr1.bel hb3) (hql1.bel hb3), HS5.out⟩
          clear hM
          go_wp2_with fail
          go_meet
          exact HR
  case rest =>
    obtain ⟨lab, hM0, hS⟩ := hcut
    have hcsl := HCSL.out
    have HS := Lib.hid hS
    have hBw := hM0.bel
    clear hS hM q
    by_cases hfu : p.rungs.length = 64
    · have HS2 := Lib.hid (show beginF p l = (10, p) by rw [HS.out, if_pos hfu])
      have hy : ((p.rungs.length : Int) == 64) = true := by simp; omega
      have hy2 : (p.rungs.length : Int) = 64 := by omega
      have k3 := hM0.q.cell 3 rfl
      clear hcsl
      go_wp2_with fail
      exact bodyPost_ret (v := .int .i64 10) (by simp [results, Tryz.results204, go_sem]) rfl ⟨by rw [HS2.out], hBw, fun h => by rw [HS2.out] at h; cases h⟩
    · have HS2 := Lib.hid (show beginF p l = (0, { p with rungs := p.rungs ++ [⟨lab, [], [], .empty⟩], lines := p.lines ++ [l.n], jumps := p.jumps ++ [0] }) by rw [HS.out, if_neg hfu])
      have hy : ((p.rungs.length : Int) == 64) = false := by simp; omega
      have hy2 : ¬ (p.rungs.length : Int) = 64 := by omega
      have k3 := hM0.q.cell 3 rfl
      clear hcsl HS
      go_wp2_with fail
      have hcsl := HCSL.out
      obtain ⟨R, hR⟩ : ∃ R, R = w.heap.size + 1 := ⟨_, rfl⟩
      rw [← hR] at hM0 ⊢
      obtain ⟨Lb, hLb⟩ : ∃ Lb, Lb = w.heap.size := ⟨_, rfl⟩
      rw [← hLb] at hM0 ⊢
      clear hR hLb k3 ho hlin hjmp hsep hold hSl hB
      have hmix : Tryz.prog.follows .mixedOrders = true := by kernel_rfl
      obtain ⟨V, hV⟩ : ∃ V : Nat → Bool, V = fun j => !(j == 28 || j == 31 || j == 34) := ⟨_, rfl⟩
      have hV3 : ∀ j, V j = false → j = 28 ∨ j = 31 ∨ j = 34 := fun j hj => by
        rw [hV] at hj
        simp at hj
        omega
      obtain ⟨S0, hS0e⟩ : ∃ S0 : World → Prop, S0 = fun w' => w'.cell? ⟨Bp, 3, none⟩ = some (.slice Ar p.rungs.length cr) ∧ w'.cell? ⟨Bp, 5, none⟩ = some (.slice Al p.lines.length cll) ∧ w'.cell? ⟨Bp, 6, none⟩ = some (.slice Aj p.jumps.length cj) ∧ w'.cell? ⟨R, 0, none⟩ = some (.string lab) ∧ w'.cell? ⟨R, 1, none⟩ = some (.slice none 0 0) ∧ w'.cell? ⟨R, 2, none⟩ = some (.slice none 0 0) ∧ w'.cell? ⟨R, 3, none⟩ = some (.string ⟨#[]⟩) ∧ w'.cell? ⟨Lb, 0, none⟩ = some (.int .i64 l.n) := ⟨_, rfl⟩
      have hSe : ∀ w', S0 w' → w'.cell? ⟨Bp, 3, none⟩ = some (.slice Ar p.rungs.length cr) ∧ w'.cell? ⟨Bp, 5, none⟩ = some (.slice Al p.lines.length cll) ∧ w'.cell? ⟨Bp, 6, none⟩ = some (.slice Aj p.jumps.length cj) ∧ w'.cell? ⟨R, 0, none⟩ = some (.string lab) ∧ w'.cell? ⟨R, 1, none⟩ = some (.slice none 0 0) ∧ w'.cell? ⟨R, 2, none⟩ = some (.slice none 0 0) ∧ w'.cell? ⟨R, 3, none⟩ = some (.string ⟨#[]⟩) ∧ w'.cell? ⟨Lb, 0, none⟩ = some (.int .i64 l.n) := by rw [hS0e]; exact fun _ h => h
      have hSm : ∀ w' xr xl xj nr nl nj cr' cl' cj', Mid Wk W0 W1 w' p.rungs Bp R Lb #[.int .i64 p.i, .int .i64 p.q, .int .i64 p.m, .slice Ar p.rungs.length cr, .bool p.sized, .slice Al p.lines.length cll, .slice Aj p.jumps.length cj] #[.string lab, .slice none 0 0, .slice none 0 0, .string ⟨#[]⟩] #[.int .i64 l.n, .slice (some ⟨b, off, none⟩) l.words.length c] xr xl xj nr nl nj cr' cl' cj' → S0 w' := by
        rw [hS0e]
        exact fun w' _ _ _ _ _ _ _ _ _ h => ⟨h.q.cell 3 rfl, h.q.cell 5 rfl, h.q.cell 6 rfl, h.qr.cell 0 rfl, h.qr.cell 1 rfl, h.qr.cell 2 rfl, h.qr.cell 3 rfl, h.ql.cell 0 rfl⟩
      have hv28 : V 28 = false := by rw [hV]; rfl
      have hv31 : V 31 = false := by rw [hV]; rfl
      have hv34 : V 34 = false := by rw [hV]; rfl
      clear hS0e hV
      refine wp_region_T (S := S0) (V := V) hmix (fun w0 hw0 => ?_)
      replace hM0 := hM0.to (show Bel wc w0 by rw [hw0]; exact (Bel.refl _).drew)
      clear hw0
      have hS0 := hSm _ _ _ _ _ _ _ _ _ _ hM0
      have hM := hM0
      have hsz : w0.heap.size ≤ w0.heap.size := Nat.le_refl _
      have hAl : ∀ g, (Value.slice Al p.lines.length cll).ownBlock = some g → g < w0.heap.size := own_lt hM0.rl
      have hone44 : ∀ u ∈ [Value.string lab, .slice none 0 0, .slice none 0 0, .string ⟨#[]⟩], u.oneCell' = true := by intro u hu; simp at hu; rcases hu with rfl | rfl | rfl <;> rfl
      have hone52 : ∀ u ∈ [Value.int .i64 l.n], u.oneCell' = true := by intro u hu; simp at hu; subst hu; rfl
      have hone58 : ∀ u ∈ [Value.int .i64 0], u.oneCell' = true := by intro u hu; simp at hu; subst hu; rfl
      clear hM0
      refine wpAnyT_take (S0 := fun _ => True) (i := 0) (oi := { dst := some 35, op := _, type := _, pos := _, after := _, guard := _ }) (v := ?_) rfl (by kernel_rfl) (by kernel_rfl) (by kernel_rfl) (fun _ _ _ h => h) (Stands.free 0) (ClosedL.start _) (Or.inl ⟨by rfl, ?_⟩) trivial ?_
      rotate_left 1
      · (intro w hw; go_simp; try with_reducible rfl)
      intro hcl
      try simp only [Act.put, List.setIfInBounds_toArray, List.set_cons_zero, List.set_cons_succ]
      refine wpAnyT_take (S0 := fun _ => True) (i := 1) (oi := { dst := some 36, op := _, type := _, pos := _, after := _, guard := _ }) (v := ?_) rfl (by kernel_rfl) (by kernel_rfl) (by kernel_rfl) (fun _ _ _ h => h) (Stands.free 1) hcl (Or.inl ⟨by rfl, ?_⟩) trivial ?_
      rotate_left 1
      · (intro w hw; go_simp; try with_reducible rfl)
      intro hcl
      try simp only [Act.put, List.setIfInBounds_toArray, List.set_cons_zero, List.set_cons_succ]
      refine wpAnyT_take (S0 := fun _ => True) (i := 2) (oi := { dst := some 37, op := _, type := _, pos := _, after := _, guard := _ }) (v := ?_) rfl (by kernel_rfl) (by kernel_rfl) (by kernel_rfl) (fun _ _ _ h => h) (Stands.free 2) hcl (Or.inl ⟨by rfl, ?_⟩) trivial ?_
      rotate_left 1
      · (intro w hw; go_simp; try with_reducible rfl)
      intro hcl
      try simp only [Act.put, List.setIfInBounds_toArray, List.set_cons_zero, List.set_cons_succ]
      refine wpAnyT_take (S0 := fun _ => True) (i := 3) (oi := { dst := some 38, op := _, type := _, pos := _, after := _, guard := _ }) (v := ?_) rfl (by kernel_rfl) (by kernel_rfl) (by kernel_rfl) (fun _ _ _ h => h) (Stands.free 3) hcl (Or.inl ⟨by rfl, ?_⟩) trivial ?_
      rotate_left 1
      · (intro w hw; go_simp; try with_reducible rfl)
      intro hcl
      try simp only [Act.put, List.setIfInBounds_toArray, List.set_cons_zero, List.set_cons_succ]
      refine wpAnyT_take (S0 := fun _ => True) (i := 4) (oi := { dst := some 39, op := _, type := _, pos := _, after := _, guard := _ }) (v := ?_) rfl (by kernel_rfl) (by kernel_rfl) (by kernel_rfl) (fun _ _ _ h => h) (Stands.free 4) hcl (Or.inl ⟨by rfl, ?_⟩) trivial ?_
      rotate_left 1
      · (intro w hw; go_simp; try with_reducible rfl)
      intro hcl
      try simp only [Act.put, List.setIfInBounds_toArray, List.set_cons_zero, List.set_cons_succ]
      refine wpAnyT_take (S0 := fun _ => True) (i := 5) (oi := { dst := some 40, op := _, type := _, pos := _, after := _, guard := _ }) (v := ?_) rfl (by kernel_rfl) (by kernel_rfl) (by kernel_rfl) (fun _ _ _ h => h) (Stands.free 5) hcl (Or.inl ⟨by rfl, ?_⟩) trivial ?_
      rotate_left 1
      · (intro w hw; go_simp; try with_reducible rfl)
      intro hcl
      try simp only [Act.put, List.setIfInBounds_toArray, List.set_cons_zero, List.set_cons_succ]
      refine wpAnyT_take (S0 := fun _ => True) (i := 6) (oi := { dst := some 41, op := _, type := _, pos := _, after := _, guard := _ }) (v := ?_) rfl (by kernel_rfl) (by kernel_rfl) (by kernel_rfl) (fun _ _ _ h => h) (Stands.free 6) hcl (Or.inl ⟨by rfl, ?_⟩) trivial ?_
      rotate_left 1
      · (intro w hw; go_simp; try with_reducible rfl)
      intro hcl
      try simp only [Act.put, List.setIfInBounds_toArray, List.set_cons_zero, List.set_cons_succ]
      refine wpAnyT_take (S0 := S0) (i := 7) (oi := { dst := some 42, op := _, type := _, pos := _, after := _, guard := _ }) (v := ?_) rfl (by kernel_rfl) (by kernel_rfl) (by kernel_rfl) (fun _ _ _ h => h) (Stands.of_chains 0 ?_) hcl (Or.inl ⟨by rfl, ?_⟩) hS0 ?_
      rotate_left 1
      · intro j hj
        rcases hV3 j hj with rfl | rfl | rfl
        · exact ⟨7, [], by kernel_rfl, rfl⟩
        · exact ⟨7, [], by kernel_rfl, rfl⟩
        · exact ⟨7, [], by kernel_rfl, rfl⟩
      · (intro w hw; obtain ⟨s0, s1, s2, s3, s4, s5, s6, s7⟩ := hSe w hw; go_simp; try with_reducible rfl)
      intro hcl
      try simp only [Act.put, List.setIfInBounds_toArray, List.set_cons_zero, List.set_cons_succ]
      refine wpAnyT_take (S0 := S0) (i := 8) (oi := { dst := some 43, op := _, type := _, pos := _, after := _, guard := _ }) (v := ?_) rfl (by kernel_rfl) (by kernel_rfl) (by kernel_rfl) (fun _ _ _ h => h) (Stands.of_chains 0 ?_) hcl (Or.inl ⟨by rfl, ?_⟩) hS0 ?_
      rotate_left 1
      · intro j hj
        rcases hV3 j hj with rfl | rfl | rfl
        · exact ⟨8, [], by kernel_rfl, rfl⟩
        · exact ⟨8, [], by kernel_rfl, rfl⟩
        · exact ⟨8, [], by kernel_rfl, rfl⟩
      · (intro w hw; obtain ⟨s0, s1, s2, s3, s4, s5, s6, s7⟩ := hSe w hw; go_simp; try with_reducible rfl)
      intro hcl
      try simp only [Act.put, List.setIfInBounds_toArray, List.set_cons_zero, List.set_cons_succ]
      refine wpAnyT_take (S0 := fun _ => True) (i := 11) (oi := { dst := some 46, op := _, type := _, pos := _, after := _, guard := _ }) (v := ?_) rfl (by kernel_rfl) (by kernel_rfl) (by kernel_rfl) (fun _ _ _ h => h) (Stands.free 11) hcl (Or.inl ⟨by rfl, ?_⟩) trivial ?_
      rotate_left 1
      · (intro w hw; go_simp; try with_reducible rfl)
      intro hcl
      try simp only [Act.put, List.setIfInBounds_toArray, List.set_cons_zero, List.set_cons_succ]
      refine wpAnyT_take (S0 := fun _ => True) (i := 12) (oi := { dst := some 47, op := _, type := _, pos := _, after := _, guard := _ }) (v := ?_) rfl (by kernel_rfl) (by kernel_rfl) (by kernel_rfl) (fun _ _ _ h => h) (Stands.free 12) hcl (Or.inl ⟨by rfl, ?_⟩) trivial ?_
      rotate_left 1
      · (intro w hw; go_simp; try with_reducible rfl)
      intro hcl
      try simp only [Act.put, List.setIfInBounds_toArray, List.set_cons_zero, List.set_cons_succ]
      refine wpAnyT_take (S0 := fun _ => True) (i := 13) (oi := { dst := some 48, op := _, type := _, pos := _, after := _, guard := _ }) (v := ?_) rfl (by kernel_rfl) (by kernel_rfl) (by kernel_rfl) (fun _ _ _ h => h) (Stands.free 13) hcl (Or.inl ⟨by rfl, ?_⟩) trivial ?_
      rotate_left 1
      · (intro w hw; go_simp; try with_reducible rfl)
      intro hcl
      try simp only [Act.put, List.setIfInBounds_toArray, List.set_cons_zero, List.set_cons_succ]
      refine wpAnyT_take (S0 := S0) (i := 14) (oi := { dst := some 49, op := _, type := _, pos := _, after := _, guard := _ }) (v := ?_) rfl (by kernel_rfl) (by kernel_rfl) (by kernel_rfl) (fun _ _ _ h => h) (Stands.of_chains 0 ?_) hcl (Or.inl ⟨by rfl, ?_⟩) hS0 ?_
      rotate_left 1
      · intro j hj
        rcases hV3 j hj with rfl | rfl | rfl
        · exact ⟨14, [], by kernel_rfl, rfl⟩
        · exact ⟨14, [], by kernel_rfl, rfl⟩
        · exact ⟨14, [], by kernel_rfl, rfl⟩
      · (intro w hw; obtain ⟨s0, s1, s2, s3, s4, s5, s6, s7⟩ := hSe w hw; go_simp; try with_reducible rfl)
      intro hcl
      try simp only [Act.put, List.setIfInBounds_toArray, List.set_cons_zero, List.set_cons_succ]
      refine wpAnyT_take (S0 := fun _ => True) (i := 15) (oi := { dst := some 50, op := _, type := _, pos := _, after := _, guard := _ }) (v := ?_) rfl (by kernel_rfl) (by kernel_rfl) (by kernel_rfl) (fun _ _ _ h => h) (Stands.free 15) hcl (Or.inl ⟨by rfl, ?_⟩) trivial ?_
      rotate_left 1
      · (intro w hw; go_simp; try with_reducible rfl)
      intro hcl
      try simp only [Act.put, List.setIfInBounds_toArray, List.set_cons_zero, List.set_cons_succ]
      refine wpAnyT_take (S0 := S0) (i := 16) (oi := { dst := some 51, op := _, type := _, pos := _, after := _, guard := _ }) (v := ?_) rfl (by kernel_rfl) (by kernel_rfl) (by kernel_rfl) (fun _ _ _ h => h) (Stands.of_chains 0 ?_) hcl (Or.inl ⟨by rfl, ?_⟩) hS0 ?_
      rotate_left 1
      · intro j hj
        rcases hV3 j hj with rfl | rfl | rfl
        · exact ⟨18, [17, 16], by kernel_rfl, rfl⟩
        · exact ⟨16, [], by kernel_rfl, rfl⟩
        · exact ⟨16, [], by kernel_rfl, rfl⟩
      · (intro w hw; obtain ⟨s0, s1, s2, s3, s4, s5, s6, s7⟩ := hSe w hw; go_simp; try with_reducible rfl)
      intro hcl
      try simp only [Act.put, List.setIfInBounds_toArray, List.set_cons_zero, List.set_cons_succ]
      refine wpAnyT_take (S0 := fun _ => True) (i := 19) (oi := { dst := some 54, op := _, type := _, pos := _, after := _, guard := _ }) (v := ?_) rfl (by kernel_rfl) (by kernel_rfl) (by kernel_rfl) (fun _ _ _ h => h) (Stands.free 19) hcl (Or.inl ⟨by rfl, ?_⟩) trivial ?_
      rotate_left 1
      · (intro w hw; go_simp; try with_reducible rfl)
      intro hcl
      try simp only [Act.put, List.setIfInBounds_toArray, List.set_cons_zero, List.set_cons_succ]
      refine wpAnyT_take (S0 := fun _ => True) (i := 20) (oi := { dst := some 55, op := _, type := _, pos := _, after := _, guard := _ }) (v := ?_) rfl (by kernel_rfl) (by kernel_rfl) (by kernel_rfl) (fun _ _ _ h => h) (Stands.free 20) hcl (Or.inl ⟨by rfl, ?_⟩) trivial ?_
      rotate_left 1
      · (intro w hw; go_simp; try with_reducible rfl)
      intro hcl
      try simp only [Act.put, List.setIfInBounds_toArray, List.set_cons_zero, List.set_cons_succ]
      refine wpAnyT_take (S0 := fun _ => True) (i := 21) (oi := { dst := some 56, op := _, type := _, pos := _, after := _, guard := _ }) (v := ?_) rfl (by kernel_rfl) (by kernel_rfl) (by kernel_rfl) (fun _ _ _ h => h) (Stands.free 21) hcl (Or.inl ⟨by rfl, ?_⟩) trivial ?_
      rotate_left 1
      · (intro w hw; go_simp; try with_reducible rfl)
      intro hcl
      try simp only [Act.put, List.setIfInBounds_toArray, List.set_cons_zero, List.set_cons_succ]
      refine wpAnyT_take (S0 := S0) (i := 22) (oi := { dst := some 57, op := _, type := _, pos := _, after := _, guard := _ }) (v := ?_) rfl (by kernel_rfl) (by kernel_rfl) (by kernel_rfl) (fun _ _ _ h => h) (Stands.of_chains 0 ?_) hcl (Or.inl ⟨by rfl, ?_⟩) hS0 ?_
      rotate_left 1
      · intro j hj
        rcases hV3 j hj with rfl | rfl | rfl
        · exact ⟨22, [], by kernel_rfl, rfl⟩
        · exact ⟨22, [], by kernel_rfl, rfl⟩
        · exact ⟨22, [], by kernel_rfl, rfl⟩
      · (intro w hw; obtain ⟨s0, s1, s2, s3, s4, s5, s6, s7⟩ := hSe w hw; go_simp; try with_reducible rfl)
      intro hcl
      try simp only [Act.put, List.setIfInBounds_toArray, List.set_cons_zero, List.set_cons_succ]
      refine wpAnyT_all (rs := [9, 17, 23]) (by kernel_rfl) (by simp) hcl ?_
      intro i hi hcl
      simp only [List.mem_cons, List.not_mem_nil, or_false] at hi
      rcases hi with rfl | rfl | rfl
      · refine op_of (oi := { dst := some 44, op := _, type := _, pos := _, after := _, guard := _ }) rfl ?_
        go_simp
        try simp only [Act.put, List.setIfInBounds_toArray, List.set_cons_zero, List.set_cons_succ]
        have hb44 : Blk (w0.alloc (.cells #[.string lab, .slice none 0 0, .slice none 0 0, .string ⟨#[]⟩] 33)) w0.heap.size #[.string lab, .slice none 0 0, .slice none 0 0, .string ⟨#[]⟩] 33 := Blk.new w0 _ _
        have hM := hM.to ((Bel.refl w0).alloc (.cells #[.string lab, .slice none 0 0, .slice none 0 0, .string ⟨#[]⟩] 33))
        have hsz44 : w0.heap.size ≤ w0.heap.size := hsz
        have hsz : w0.heap.size ≤ (w0.alloc (.cells #[.string lab, .slice none 0 0, .slice none 0 0, .string ⟨#[]⟩] 33)).heap.size := Nat.le_trans hsz ((Bel.refl w0).alloc (.cells #[.string lab, .slice none 0 0, .slice none 0 0, .string ⟨#[]⟩] 33)).size
        have hS0 := hSm _ _ _ _ _ _ _ _ _ _ hM
        refine ⟨fun _ _ => hS0, ?_⟩
        generalize (w0.alloc (.cells #[.string lab, .slice none 0 0, .slice none 0 0, .string ⟨#[]⟩] 33)) = w1 at *
        refine wpAnyT_all (rs := [10, 17, 23]) (by kernel_rfl) (by simp) hcl ?_
        intro i hi hcl
        simp only [List.mem_cons, List.not_mem_nil, or_false] at hi
        rcases hi with rfl | rfl | rfl
        · refine op_of (oi := { dst := some 45, op := _, type := _, pos := _, after := _, guard := _ }) rfl ?_
          refine step_app und24 info33 (by rfl) (by decide) (by decide) (by rfl) (.tmp 42) (.tmp 44) (by rfl) (by rfl) hM.rr (m := 1) (news := [Value.string lab, .slice none 0 0, .slice none 0 0, .string ⟨#[]⟩]) (by rfl) (by rfl) hb44.news hone44 (by decide) (by omega) hM.bel.size ?_
          intro g10 cap10 w2 ho10 hg10 hf10 hat10
          try simp only [Act.put, List.setIfInBounds_toArray, List.set_cons_zero, List.set_cons_succ]
          have hM := hM.appR ho10 hg10 hf10 (fun g hg' => by simp [Value.ownBlock] at hg'; subst hg'; exact hat10)
          have hsz : w0.heap.size ≤ w2.heap.size := Nat.le_trans hsz hf10.size
          have hS0 := hSm _ _ _ _ _ _ _ _ _ _ hM
          refine ⟨fun _ _ => hS0, ?_⟩
          refine wpAnyT_all (rs := [17, 23]) (by kernel_rfl) (by simp) hcl ?_
          intro i hi hcl
          simp only [List.mem_cons, List.not_mem_nil, or_false] at hi
          rcases hi with rfl | rfl
          · refine op_of (oi := { dst := some 52, op := _, type := _, pos := _, after := _, guard := _ }) rfl ?_
            go_simp
            try simp only [Act.put, List.setIfInBounds_toArray, List.set_cons_zero, List.set_cons_succ]
            have hb52 : Blk (w2.alloc (.cells #[.int .i64 l.n] 3)) w2.heap.size #[.int .i64 l.n] 3 := Blk.new w2 _ _
            have hb44 := hb44.alloc (.cells #[.int .i64 l.n] 3)
            have hM := hM.to ((Bel.refl w2).alloc (.cells #[.int .i64 l.n] 3))
            have hsz52 : w0.heap.size ≤ w2.heap.size := hsz
            have hsz : w0.heap.size ≤ (w2.alloc (.cells #[.int .i64 l.n] 3)).heap.size := Nat.le_trans hsz ((Bel.refl w2).alloc (.cells #[.int .i64 l.n] 3)).size
            have hS0 := hSm _ _ _ _ _ _ _ _ _ _ hM
            refine ⟨fun _ _ => hS0, ?_⟩
            generalize (w2.alloc (.cells #[.int .i64 l.n] 3)) = w3 at *
            refine wpAnyT_all (rs := [18, 23]) (by kernel_rfl) (by simp) hcl ?_
            intro i hi hcl
            simp only [List.mem_cons, List.not_mem_nil, or_false] at hi
            rcases hi with rfl | rfl
            · refine op_of (oi := { dst := some 53, op := _, type := _, pos := _, after := _, guard := _ }) rfl ?_
              refine step_app und27 info3 (by rfl) (by decide) (by decide) (by rfl) (.tmp 49) (.tmp 52) (by rfl) (by rfl) hM.rl (m := 1) (news := [Value.int .i64 l.n]) (by rfl) (by rfl) hb52.news hone52 (by decide) (by omega) hM.bel.size ?_
              intro g18 cap18 w4 ho18 hg18 hf18 hat18
              try simp only [Act.put, List.setIfInBounds_toArray, List.set_cons_zero, List.set_cons_succ]
              have hM := hM.appL ho18 hg18 hf18 (fun g hg' => by simp [Value.ownBlock] at hg'; subst hg'; exact hat18)
              have hsz : w0.heap.size ≤ w4.heap.size := Nat.le_trans hsz hf18.size
              have hS0 := hSm _ _ _ _ _ _ _ _ _ _ hM
              refine ⟨fun _ _ => hS0, ?_⟩
              refine wpAnyT_all (rs := [23]) (by kernel_rfl) (by simp) hcl ?_
              intro i hi hcl
              obtain rfl := List.mem_singleton.1 hi
              refine op_of (oi := { dst := some 58, op := _, type := _, pos := _, after := _, guard := _ }) rfl ?_
              go_simp
              try simp only [Act.put, List.setIfInBounds_toArray, List.set_cons_zero, List.set_cons_succ]
              have hb58 : Blk (w4.alloc (.cells #[.int .i64 0] 3)) w4.heap.size #[.int .i64 0] 3 := Blk.new w4 _ _
              have hb44 := hb44.alloc (.cells #[.int .i64 0] 3)
              have hb52 := hb52.alloc (.cells #[.int .i64 0] 3)
              have hM := hM.to ((Bel.refl w4).alloc (.cells #[.int .i64 0] 3))
              have hsz58 : w0.heap.size ≤ w4.heap.size := hsz
              have hsz : w0.heap.size ≤ (w4.alloc (.cells #[.int .i64 0] 3)).heap.size := Nat.le_trans hsz ((Bel.refl w4).alloc (.cells #[.int .i64 0] 3)).size
              have hS0 := hSm _ _ _ _ _ _ _ _ _ _ hM
              refine ⟨fun _ _ => hS0, ?_⟩
              generalize (w4.alloc (.cells #[.int .i64 0] 3)) = w5 at *
              refine wpAnyT_all (rs := [24]) (by kernel_rfl) (by simp) hcl ?_
              intro i hi hcl
              obtain rfl := List.mem_singleton.1 hi
              refine op_of (oi := { dst := some 59, op := _, type := _, pos := _, after := _, guard := _ }) rfl ?_
              refine step_app und27 info3 (by rfl) (by decide) (by decide) (by rfl) (.tmp 57) (.tmp 58) (by rfl) (by rfl) hM.rj (m := 1) (news := [Value.int .i64 0]) (by rfl) (by rfl) hb58.news hone58 (by decide) (by omega) hM.bel.size ?_
              intro g24 cap24 w6 ho24 hg24 hf24 hat24
              try simp only [Act.put, List.setIfInBounds_toArray, List.set_cons_zero, List.set_cons_succ]
              have hM := hM.appJ ho24 hg24 hf24 (fun g hg' => by simp [Value.ownBlock] at hg'; subst hg'; exact hat24)
              have hsz : w0.heap.size ≤ w6.heap.size := Nat.le_trans hsz hf24.size
              have hS0 := hSm _ _ _ _ _ _ _ _ _ _ hM
              refine ⟨fun _ _ => hS0, ?_⟩
              refine wpAnyT_take (S0 := fun _ => True) (i := 25) (oi := { dst := some 60, op := _, type := _, pos := _, after := _, guard := _ }) (v := ?_) rfl (by kernel_rfl) (by kernel_rfl) (by kernel_rfl) (fun _ _ _ h => h) (Stands.free 25) hcl (Or.inl ⟨by rfl, ?_⟩) trivial ?_
              rotate_left 1
              · (intro w hw; go_simp; try with_reducible rfl)
              intro hcl
              try simp only [Act.put, List.setIfInBounds_toArray, List.set_cons_zero, List.set_cons_succ]
              refine wpAnyT_take (S0 := fun _ => True) (i := 26) (oi := { dst := some 61, op := _, type := _, pos := _, after := _, guard := _ }) (v := ?_) rfl (by kernel_rfl) (by kernel_rfl) (by kernel_rfl) (fun _ _ _ h => h) (Stands.free 26) hcl (Or.inl ⟨by rfl, ?_⟩) trivial ?_
              rotate_left 1
              · (intro w hw; go_simp; try with_reducible rfl)
              intro hcl
              try simp only [Act.put, List.setIfInBounds_toArray, List.set_cons_zero, List.set_cons_succ]
              refine wpAnyT_take (S0 := fun _ => True) (i := 27) (oi := { dst := some 62, op := _, type := _, pos := _, after := _, guard := _ }) (v := ?_) rfl (by kernel_rfl) (by kernel_rfl) (by kernel_rfl) (fun _ _ _ h => h) (Stands.free 27) hcl (Or.inl ⟨by rfl, ?_⟩) trivial ?_
              rotate_left 1
              · (intro w hw; go_simp; try with_reducible rfl)
              intro hcl
              try simp only [Act.put, List.setIfInBounds_toArray, List.set_cons_zero, List.set_cons_succ]
              have s3 := hM.q.cell 3 rfl; have f3 := hM.q.frozen 3
              have q1 := hM.q.set 3 (.slice (some ⟨g10, 0, none⟩) (p.rungs.length + 1) cap10)
              have s5 := q1.cell 5 rfl; have f5 := q1.frozen 5
              have q2 := q1.set 5 (.slice (some ⟨g18, 0, none⟩) (p.lines.length + 1) cap18)
              have s6 := q2.cell 6 rfl; have f6 := q2.frozen 6
              refine wpAnyT_all (rs := [28]) (by kernel_rfl) (by simp) hcl ?_
              intro i hi hcl
              obtain rfl := List.mem_singleton.1 hi
              refine op_of (oi := { dst := none, op := _, type := _, pos := _, after := _, guard := _ }) rfl ?_
              go_simp
              try simp only [Act.put, List.setIfInBounds_toArray, List.set_cons_zero, List.set_cons_succ]
              refine wpAnyT_take (S0 := fun _ => True) (i := 29) (oi := { dst := some 63, op := _, type := _, pos := _, after := _, guard := _ }) (v := ?_) rfl (by kernel_rfl) (by kernel_rfl) (by kernel_rfl) (fun _ _ _ h => h) (Stands.free 29) hcl (Or.inl ⟨by rfl, ?_⟩) trivial ?_
              rotate_left 1
              · (intro w hw; go_simp; try with_reducible rfl)
              intro hcl
              try simp only [Act.put, List.setIfInBounds_toArray, List.set_cons_zero, List.set_cons_succ]
              refine wpAnyT_take (S0 := fun _ => True) (i := 30) (oi := { dst := some 64, op := _, type := _, pos := _, after := _, guard := _ }) (v := ?_) rfl (by kernel_rfl) (by kernel_rfl) (by kernel_rfl) (fun _ _ _ h => h) (Stands.free 30) hcl (Or.inl ⟨by rfl, ?_⟩) trivial ?_
              rotate_left 1
              · (intro w hw; go_simp; try with_reducible rfl)
              intro hcl
              try simp only [Act.put, List.setIfInBounds_toArray, List.set_cons_zero, List.set_cons_succ]
              refine wpAnyT_all (rs := [31]) (by kernel_rfl) (by simp) hcl ?_
              intro i hi hcl
              obtain rfl := List.mem_singleton.1 hi
              refine op_of (oi := { dst := none, op := _, type := _, pos := _, after := _, guard := _ }) rfl ?_
              go_simp
              try simp only [Act.put, List.setIfInBounds_toArray, List.set_cons_zero, List.set_cons_succ]
              refine wpAnyT_take (S0 := fun _ => True) (i := 32) (oi := { dst := some 65, op := _, type := _, pos := _, after := _, guard := _ }) (v := ?_) rfl (by kernel_rfl) (by kernel_rfl) (by kernel_rfl) (fun _ _ _ h => h) (Stands.free 32) hcl (Or.inl ⟨by rfl, ?_⟩) trivial ?_
              rotate_left 1
              · (intro w hw; go_simp; try with_reducible rfl)
              intro hcl
              try simp only [Act.put, List.setIfInBounds_toArray, List.set_cons_zero, List.set_cons_succ]
              refine wpAnyT_take (S0 := fun _ => True) (i := 33) (oi := { dst := some 66, op := _, type := _, pos := _, after := _, guard := _ }) (v := ?_) rfl (by kernel_rfl) (by kernel_rfl) (by kernel_rfl) (fun _ _ _ h => h) (Stands.free 33) hcl (Or.inl ⟨by rfl, ?_⟩) trivial ?_
              rotate_left 1
              · (intro w hw; go_simp; try with_reducible rfl)
              intro hcl
              try simp only [Act.put, List.setIfInBounds_toArray, List.set_cons_zero, List.set_cons_succ]
              refine wpAnyT_all (rs := [34]) (by kernel_rfl) (by simp) hcl ?_
              intro i hi hcl
              obtain rfl := List.mem_singleton.1 hi
              refine op_of (oi := { dst := none, op := _, type := _, pos := _, after := _, guard := _ }) rfl ?_
              go_simp
              try simp only [Act.put, List.setIfInBounds_toArray, List.set_cons_zero, List.set_cons_succ]
              refine wpAnyT_done (by kernel_rfl) ?_ _
              have hfin := hM.stored hbase hcsl
              go_wp2_with fail
              exact bodyPost_ret (v := .int .i64 0) (by simp [results, Tryz.results204, go_sem]) rfl ⟨by rw [HS2.out], hfin.2.bel, fun _ => ⟨_, hfin.1, by rw [HS2.out]; exact hfin.2⟩⟩
            · refine op_of (oi := { dst := some 58, op := _, type := _, pos := _, after := _, guard := _ }) rfl ?_
              go_simp
              try simp only [Act.put, List.setIfInBounds_toArray, List.set_cons_zero, List.set_cons_succ]
              have hb58 : Blk (w3.alloc (.cells #[.int .i64 0] 3)) w3.heap.size #[.int .i64 0] 3 := Blk.new w3 _ _
              have hb44 := hb44.alloc (.cells #[.int .i64 0] 3)
              have hb52 := hb52.alloc (.cells #[.int .i64 0] 3)
              have hM := hM.to ((Bel.refl w3).alloc (.cells #[.int .i64 0] 3))
              have hsz58 : w0.heap.size ≤ w3.heap.size := hsz
              have hsz : w0.heap.size ≤ (w3.alloc (.cells #[.int .i64 0] 3)).heap.size := Nat.le_trans hsz ((Bel.refl w3).alloc (.cells #[.int .i64 0] 3)).size
              have hS0 := hSm _ _ _ _ _ _ _ _ _ _ hM
              refine ⟨fun _ _ => hS0, ?_⟩
              generalize (w3.alloc (.cells #[.int .i64 0] 3)) = w4 at *
              refine wpAnyT_all (rs := [18]) (by kernel_rfl) (by simp) hcl ?_
              intro i hi hcl
              obtain rfl := List.mem_singleton.1 hi
              refine op_of (oi := { dst := some 53, op := _, type := _, pos := _, after := _, guard := _ }) rfl ?_
              refine step_app und27 info3 (by rfl) (by decide) (by decide) (by rfl) (.tmp 49) (.tmp 52) (by rfl) (by rfl) hM.rl (m := 1) (news := [Value.int .i64 l.n]) (by rfl) (by rfl) hb52.news hone52 (by decide) (by omega) hM.bel.size ?_
              intro g18 cap18 w5 ho18 hg18 hf18 hat18
              try simp only [Act.put, List.setIfInBounds_toArray, List.set_cons_zero, List.set_cons_succ]
              have hb58 := grown_blk hb58 hg18 (fun e => by have := hAl _ e.symm; omega)
              have hM := hM.appL ho18 hg18 hf18 (fun g hg' => by simp [Value.ownBlock] at hg'; subst hg'; exact hat18)
              have hsz : w0.heap.size ≤ w5.heap.size := Nat.le_trans hsz hf18.size
              have hS0 := hSm _ _ _ _ _ _ _ _ _ _ hM
              refine ⟨fun _ _ => hS0, ?_⟩
              refine wpAnyT_all (rs := [24]) (by kernel_rfl) (by simp) hcl ?_
              intro i hi hcl
              obtain rfl := List.mem_singleton.1 hi
              refine op_of (oi := { dst := some 59, op := _, type := _, pos := _, after := _, guard := _ }) rfl ?_
              refine step_app und27 info3 (by rfl) (by decide) (by decide) (by rfl) (.tmp 57) (.tmp 58) (by rfl) (by rfl) hM.rj (m := 1) (news := [Value.int .i64 0]) (by rfl) (by rfl) hb58.news hone58 (by decide) (by omega) hM.bel.size ?_
              intro g24 cap24 w6 ho24 hg24 hf24 hat24
              try simp only [Act.put, List.setIfInBounds_toArray, List.set_cons_zero, List.set_cons_succ]
              have hM := hM.appJ ho24 hg24 hf24 (fun g hg' => by simp [Value.ownBlock] at hg'; subst hg'; exact hat24)
              have hsz : w0.heap.size ≤ w6.heap.size := Nat.le_trans hsz hf24.size
              have hS0 := hSm _ _ _ _ _ _ _ _ _ _ hM
              refine ⟨fun _ _ => hS0, ?_⟩
              refine wpAnyT_take (S0 := fun _ => True) (i := 25) (oi := { dst := some 60, op := _, type := _, pos := _, after := _, guard := _ }) (v := ?_) rfl (by kernel_rfl) (by kernel_rfl) (by kernel_rfl) (fun _ _ _ h => h) (Stands.free 25) hcl (Or.inl ⟨by rfl, ?_⟩) trivial ?_
              rotate_left 1
              · (intro w hw; go_simp; try with_reducible rfl)
              intro hcl
              try simp only [Act.put, List.setIfInBounds_toArray, List.set_cons_zero, List.set_cons_succ]
              refine wpAnyT_take (S0 := fun _ => True) (i := 26) (oi := { dst := some 61, op := _, type := _, pos := _, after := _, guard := _ }) (v := ?_) rfl (by kernel_rfl) (by kernel_rfl) (by kernel_rfl) (fun _ _ _ h => h) (Stands.free 26) hcl (Or.inl ⟨by rfl, ?_⟩) trivial ?_
              rotate_left 1
              · (intro w hw; go_simp; try with_reducible rfl)
              intro hcl
              try simp only [Act.put, List.setIfInBounds_toArray, List.set_cons_zero, List.set_cons_succ]
              refine wpAnyT_take (S0 := fun _ => True) (i := 27) (oi := { dst := some 62, op := _, type := _, pos := _, after := _, guard := _ }) (v := ?_) rfl (by kernel_rfl) (by kernel_rfl) (by kernel_rfl) (fun _ _ _ h => h) (Stands.free 27) hcl (Or.inl ⟨by rfl, ?_⟩) trivial ?_
              rotate_left 1
              · (intro w hw; go_simp; try with_reducible rfl)
              intro hcl
              try simp only [Act.put, List.setIfInBounds_toArray, List.set_cons_zero, List.set_cons_succ]
              have s3 := hM.q.cell 3 rfl; have f3 := hM.q.frozen 3
              have q1 := hM.q.set 3 (.slice (some ⟨g10, 0, none⟩) (p.rungs.length + 1) cap10)
              have s5 := q1.cell 5 rfl; have f5 := q1.frozen 5
              have q2 := q1.set 5 (.slice (some ⟨g18, 0, none⟩) (p.lines.length + 1) cap18)
              have s6 := q2.cell 6 rfl; have f6 := q2.frozen 6
              refine wpAnyT_all (rs := [28]) (by kernel_rfl) (by simp) hcl ?_
              intro i hi hcl
              obtain rfl := List.mem_singleton.1 hi
              refine op_of (oi := { dst := none, op := _, type := _, pos := _, after := _, guard := _ }) rfl ?_
              go_simp
              try simp only [Act.put, List.setIfInBounds_toArray, List.set_cons_zero, List.set_cons_succ]
              refine wpAnyT_take (S0 := fun _ => True) (i := 29) (oi := { dst := some 63, op := _, type := _, pos := _, after := _, guard := _ }) (v := ?_) rfl (by kernel_rfl) (by kernel_rfl) (by kernel_rfl) (fun _ _ _ h => h) (Stands.free 29) hcl (Or.inl ⟨by rfl, ?_⟩) trivial ?_
              rotate_left 1
              · (intro w hw; go_simp; try with_reducible rfl)
              intro hcl
              try simp only [Act.put, List.setIfInBounds_toArray, List.set_cons_zero, List.set_cons_succ]
              refine wpAnyT_take (S0 := fun _ => True) (i := 30) (oi := { dst := some 64, op := _, type := _, pos := _, after := _, guard := _ }) (v := ?_) rfl (by kernel_rfl) (by kernel_rfl) (by kernel_rfl) (fun _ _ _ h => h) (Stands.free 30) hcl (Or.inl ⟨by rfl, ?_⟩) trivial ?_
              rotate_left 1
              · (intro w hw; go_simp; try with_reducible rfl)
              intro hcl
              try simp only [Act.put, List.setIfInBounds_toArray, List.set_cons_zero, List.set_cons_succ]
              refine wpAnyT_all (rs := [31]) (by kernel_rfl) (by simp) hcl ?_
              intro i hi hcl
              obtain rfl := List.mem_singleton.1 hi
              refine op_of (oi := { dst := none, op := _, type := _, pos := _, after := _, guard := _ }) rfl ?_
              go_simp
              try simp only [Act.put, List.setIfInBounds_toArray, List.set_cons_zero, List.set_cons_succ]
              refine wpAnyT_take (S0 := fun _ => True) (i := 32) (oi := { dst := some 65, op := _, type := _, pos := _, after := _, guard := _ }) (v := ?_) rfl (by kernel_rfl) (by kernel_rfl) (by kernel_rfl) (fun _ _ _ h => h) (Stands.free 32) hcl (Or.inl ⟨by rfl, ?_⟩) trivial ?_
              rotate_left 1
              · (intro w hw; go_simp; try with_reducible rfl)
              intro hcl
              try simp only [Act.put, List.setIfInBounds_toArray, List.set_cons_zero, List.set_cons_succ]
              refine wpAnyT_take (S0 := fun _ => True) (i := 33) (oi := { dst := some 66, op := _, type := _, pos := _, after := _, guard := _ }) (v := ?_) rfl (by kernel_rfl) (by kernel_rfl) (by kernel_rfl) (fun _ _ _ h => h) (Stands.free 33) hcl (Or.inl ⟨by rfl, ?_⟩) trivial ?_
              rotate_left 1
              · (intro w hw; go_simp; try with_reducible rfl)
              intro hcl
              try simp only [Act.put, List.setIfInBounds_toArray, List.set_cons_zero, List.set_cons_succ]
              refine wpAnyT_all (rs := [34]) (by kernel_rfl) (by simp) hcl ?_
              intro i hi hcl
              obtain rfl := List.mem_singleton.1 hi
              refine op_of (oi := { dst := none, op := _, type := _, pos := _, after := _, guard := _ }) rfl ?_
              go_simp
              try simp only [Act.put, List.setIfInBounds_toArray, List.set_cons_zero, List.set_cons_succ]
              refine wpAnyT_done (by kernel_rfl) ?_ _
              have hfin := hM.stored hbase hcsl
              go_wp2_with fail
              exact bodyPost_ret (v := .int .i64 0) (by simp [results, Tryz.results204, go_sem]) rfl ⟨by rw [HS2.out], hfin.2.bel, fun _ => ⟨_, hfin.1, by rw [HS2.out]; exact hfin.2⟩⟩
          · refine op_of (oi := { dst := some 58, op := _, type := _, pos := _, after := _, guard := _ }) rfl ?_
            go_simp
            try simp only [Act.put, List.setIfInBounds_toArray, List.set_cons_zero, List.set_cons_succ]
            have hb58 : Blk (w2.alloc (.cells #[.int .i64 0] 3)) w2.heap.size #[.int .i64 0] 3 := Blk.new w2 _ _
            have hb44 := hb44.alloc (.cells #[.int .i64 0] 3)
            have hM := hM.to ((Bel.refl w2).alloc (.cells #[.int .i64 0] 3))
            have hsz58 : w0.heap.size ≤ w2.heap.size := hsz
            have hsz : w0.heap.size ≤ (w2.alloc (.cells #[.int .i64 0] 3)).heap.size := Nat.le_trans hsz ((Bel.refl w2).alloc (.cells #[.int .i64 0] 3)).size
            have hS0 := hSm _ _ _ _ _ _ _ _ _ _ hM
            refine ⟨fun _ _ => hS0, ?_⟩
            generalize (w2.alloc (.cells #[.int .i64 0] 3)) = w3 at *
            refine wpAnyT_all (rs := [17]) (by kernel_rfl) (by simp) hcl ?_
            intro i hi hcl
            obtain rfl := List.mem_singleton.1 hi
            refine op_of (oi := { dst := some 52, op := _, type := _, pos := _, after := _, guard := _ }) rfl ?_
            go_simp
            try simp only [Act.put, List.setIfInBounds_toArray, List.set_cons_zero, List.set_cons_succ]
            have hb52 : Blk (w3.alloc (.cells #[.int .i64 l.n] 3)) w3.heap.size #[.int .i64 l.n] 3 := Blk.new w3 _ _
            have hb44 := hb44.alloc (.cells #[.int .i64 l.n] 3)
            have hb58 := hb58.alloc (.cells #[.int .i64 l.n] 3)
            have hM := hM.to ((Bel.refl w3).alloc (.cells #[.int .i64 l.n] 3))
            have hsz52 : w0.heap.size ≤ w3.heap.size := hsz
            have hsz : w0.heap.size ≤ (w3.alloc (.cells #[.int .i64 l.n] 3)).heap.size := Nat.le_trans hsz ((Bel.refl w3).alloc (.cells #[.int .i64 l.n] 3)).size
            have hS0 := hSm _ _ _ _ _ _ _ _ _ _ hM
            refine ⟨fun _ _ => hS0, ?_⟩
            generalize (w3.alloc (.cells #[.int .i64 l.n] 3)) = w4 at *
            refine wpAnyT_all (rs := [18]) (by kernel_rfl) (by simp) hcl ?_
            intro i hi hcl
            obtain rfl := List.mem_singleton.1 hi
            refine op_of (oi := { dst := some 53, op := _, type := _, pos := _, after := _, guard := _ }) rfl ?_
            refine step_app und27 info3 (by rfl) (by decide) (by decide) (by rfl) (.tmp 49) (.tmp 52) (by rfl) (by rfl) hM.rl (m := 1) (news := [Value.int .i64 l.n]) (by rfl) (by rfl) hb52.news hone52 (by decide) (by omega) hM.bel.size ?_
            intro g18 cap18 w5 ho18 hg18 hf18 hat18
            try simp only [Act.put, List.setIfInBounds_toArray, List.set_cons_zero, List.set_cons_succ]
            have hb58 := grown_blk hb58 hg18 (fun e => by have := hAl _ e.symm; omega)
            have hM := hM.appL ho18 hg18 hf18 (fun g hg' => by simp [Value.ownBlock] at hg'; subst hg'; exact hat18)
            have hsz : w0.heap.size ≤ w5.heap.size := Nat.le_trans hsz hf18.size
            have hS0 := hSm _ _ _ _ _ _ _ _ _ _ hM
            refine ⟨fun _ _ => hS0, ?_⟩
            refine wpAnyT_all (rs := [24]) (by kernel_rfl) (by simp) hcl ?_
            intro i hi hcl
            obtain rfl := List.mem_singleton.1 hi
            refine op_of (oi := { dst := some 59, op := _, type := _, pos := _, after := _, guard := _ }) rfl ?_
            refine step_app und27 info3 (by rfl) (by decide) (by decide) (by rfl) (.tmp 57) (.tmp 58) (by rfl) (by rfl) hM.rj (m := 1) (news := [Value.int .i64 0]) (by rfl) (by rfl) hb58.news hone58 (by decide) (by omega) hM.bel.size ?_
            intro g24 cap24 w6 ho24 hg24 hf24 hat24
            try simp only [Act.put, List.setIfInBounds_toArray, List.set_cons_zero, List.set_cons_succ]
            have hM := hM.appJ ho24 hg24 hf24 (fun g hg' => by simp [Value.ownBlock] at hg'; subst hg'; exact hat24)
            have hsz : w0.heap.size ≤ w6.heap.size := Nat.le_trans hsz hf24.size
            have hS0 := hSm _ _ _ _ _ _ _ _ _ _ hM
            refine ⟨fun _ _ => hS0, ?_⟩
            refine wpAnyT_take (S0 := fun _ => True) (i := 25) (oi := { dst := some 60, op := _, type := _, pos := _, after := _, guard := _ }) (v := ?_) rfl (by kernel_rfl) (by kernel_rfl) (by kernel_rfl) (fun _ _ _ h => h) (Stands.free 25) hcl (Or.inl ⟨by rfl, ?_⟩) trivial ?_
            rotate_left 1
            · (intro w hw; go_simp; try with_reducible rfl)
            intro hcl
            try simp only [Act.put, List.setIfInBounds_toArray, List.set_cons_zero, List.set_cons_succ]
            refine wpAnyT_take (S0 := fun _ => True) (i := 26) (oi := { dst := some 61, op := _, type := _, pos := _, after := _, guard := _ }) (v := ?_) rfl (by kernel_rfl) (by kernel_rfl) (by kernel_rfl) (fun _ _ _ h => h) (Stands.free 26) hcl (Or.inl ⟨by rfl, ?_⟩) trivial ?_
            rotate_left 1
            · (intro w hw; go_simp; try with_reducible rfl)
            intro hcl
            try simp only [Act.put, List.setIfInBounds_toArray, List.set_cons_zero, List.set_cons_succ]
            refine wpAnyT_take (S0 := fun _ => True) (i := 27) (oi := { dst := some 62, op := _, type := _, pos := _, after := _, guard := _ }) (v := ?_) rfl (by kernel_rfl) (by kernel_rfl) (by kernel_rfl) (fun _ _ _ h => h) (Stands.free 27) hcl (Or.inl ⟨by rfl, ?_⟩) trivial ?_
            rotate_left 1
            · (intro w hw; go_simp; try with_reducible rfl)
            intro hcl
            try simp only [Act.put, List.setIfInBounds_toArray, List.set_cons_zero, List.set_cons_succ]
            have s3 := hM.q.cell 3 rfl; have f3 := hM.q.frozen 3
            have q1 := hM.q.set 3 (.slice (some ⟨g10, 0, none⟩) (p.rungs.length + 1) cap10)
            have s5 := q1.cell 5 rfl; have f5 := q1.frozen 5
            have q2 := q1.set 5 (.slice (some ⟨g18, 0, none⟩) (p.lines.length + 1) cap18)
            have s6 := q2.cell 6 rfl; have f6 := q2.frozen 6
            refine wpAnyT_all (rs := [28]) (by kernel_rfl) (by simp) hcl ?_
            intro i hi hcl
            obtain rfl := List.mem_singleton.1 hi
            refine op_of (oi := { dst := none, op := _, type := _, pos := _, after := _, guard := _ }) rfl ?_
            go_simp
            try simp only [Act.put, List.setIfInBounds_toArray, List.set_cons_zero, List.set_cons_succ]
            refine wpAnyT_take (S0 := fun _ => True) (i := 29) (oi := { dst := some 63, op := _, type := _, pos := _, after := _, guard := _ }) (v := ?_) rfl (by kernel_rfl) (by kernel_rfl) (by kernel_rfl) (fun _ _ _ h => h) (Stands.free 29) hcl (Or.inl ⟨by rfl, ?_⟩) trivial ?_
            rotate_left 1
            · (intro w hw; go_simp; try with_reducible rfl)
            intro hcl
            try simp only [Act.put, List.setIfInBounds_toArray, List.set_cons_zero, List.set_cons_succ]
            refine wpAnyT_take (S0 := fun _ => True) (i := 30) (oi := { dst := some 64, op := _, type := _, pos := _, after := _, guard := _ }) (v := ?_) rfl (by kernel_rfl) (by kernel_rfl) (by kernel_rfl) (fun _ _ _ h => h) (Stands.free 30) hcl (Or.inl ⟨by rfl, ?_⟩) trivial ?_
            rotate_left 1
            · (intro w hw; go_simp; try with_reducible rfl)
            intro hcl
            try simp only [Act.put, List.setIfInBounds_toArray, List.set_cons_zero, List.set_cons_succ]
            refine wpAnyT_all (rs := [31]) (by kernel_rfl) (by simp) hcl ?_
            intro i hi hcl
            obtain rfl := List.mem_singleton.1 hi
            refine op_of (oi := { dst := none, op := _, type := _, pos := _, after := _, guard := _ }) rfl ?_
            go_simp
            try simp only [Act.put, List.setIfInBounds_toArray, List.set_cons_zero, List.set_cons_succ]
            refine wpAnyT_take (S0 := fun _ => True) (i := 32) (oi := { dst := some 65, op := _, type := _, pos := _, after := _, guard := _ }) (v := ?_) rfl (by kernel_rfl) (by kernel_rfl) (by kernel_rfl) (fun _ _ _ h => h) (Stands.free 32) hcl (Or.inl ⟨by rfl, ?_⟩) trivial ?_
            rotate_left 1
            · (intro w hw; go_simp; try with_reducible rfl)
            intro hcl
            try simp only [Act.put, List.setIfInBounds_toArray, List.set_cons_zero, List.set_cons_succ]
            refine wpAnyT_take (S0 := fun _ => True) (i := 33) (oi := { dst := some 66, op := _, type := _, pos := _, after := _, guard := _ }) (v := ?_) rfl (by kernel_rfl) (by kernel_rfl) (by kernel_rfl) (fun _ _ _ h => h) (Stands.free 33) hcl (Or.inl ⟨by rfl, ?_⟩) trivial ?_
            rotate_left 1
            · (intro w hw; go_simp; try with_reducible rfl)
            intro hcl
            try simp only [Act.put, List.setIfInBounds_toArray, List.set_cons_zero, List.set_cons_succ]
            refine wpAnyT_all (rs := [34]) (by kernel_rfl) (by simp) hcl ?_
            intro i hi hcl
            obtain rfl := List.mem_singleton.1 hi
            refine op_of (oi := { dst := none, op := _, type := _, pos := _, after := _, guard := _ }) rfl ?_
            go_simp
            try simp only [Act.put, List.setIfInBounds_toArray, List.set_cons_zero, List.set_cons_succ]
            refine wpAnyT_done (by kernel_rfl) ?_ _
            have hfin := hM.stored hbase hcsl
            go_wp2_with fail
            exact bodyPost_ret (v := .int .i64 0) (by simp [results, Tryz.results204, go_sem]) rfl ⟨by rw [HS2.out], hfin.2.bel, fun _ => ⟨_, hfin.1, by rw [HS2.out]; exact hfin.2⟩⟩
        · refine op_of (oi := { dst := some 52, op := _, type := _, pos := _, after := _, guard := _ }) rfl ?_
          go_simp
          try simp only [Act.put, List.setIfInBounds_toArray, List.set_cons_zero, List.set_cons_succ]
          have hb52 : Blk (w1.alloc (.cells #[.int .i64 l.n] 3)) w1.heap.size #[.int .i64 l.n] 3 := Blk.new w1 _ _
          have hb44 := hb44.alloc (.cells #[.int .i64 l.n] 3)
          have hM := hM.to ((Bel.refl w1).alloc (.cells #[.int .i64 l.n] 3))
          have hsz52 : w0.heap.size ≤ w1.heap.size := hsz
          have hsz : w0.heap.size ≤ (w1.alloc (.cells #[.int .i64 l.n] 3)).heap.size := Nat.le_trans hsz ((Bel.refl w1).alloc (.cells #[.int .i64 l.n] 3)).size
          have hS0 := hSm _ _ _ _ _ _ _ _ _ _ hM
          refine ⟨fun _ _ => hS0, ?_⟩
          generalize (w1.alloc (.cells #[.int .i64 l.n] 3)) = w2 at *
          refine wpAnyT_all (rs := [10, 23]) (by kernel_rfl) (by simp) hcl ?_
          intro i hi hcl
          simp only [List.mem_cons, List.not_mem_nil, or_false] at hi
          rcases hi with rfl | rfl
          · refine op_of (oi := { dst := some 45, op := _, type := _, pos := _, after := _, guard := _ }) rfl ?_
            refine step_app und24 info33 (by rfl) (by decide) (by decide) (by rfl) (.tmp 42) (.tmp 44) (by rfl) (by rfl) hM.rr (m := 1) (news := [Value.string lab, .slice none 0 0, .slice none 0 0, .string ⟨#[]⟩]) (by rfl) (by rfl) hb44.news hone44 (by decide) (by omega) hM.bel.size ?_
            intro g10 cap10 w3 ho10 hg10 hf10 hat10
            try simp only [Act.put, List.setIfInBounds_toArray, List.set_cons_zero, List.set_cons_succ]
            have hb52 := hf10.blk hb52 (.inr (by decide))
            have hM := hM.appR ho10 hg10 hf10 (fun g hg' => by simp [Value.ownBlock] at hg'; subst hg'; exact hat10)
            have hsz : w0.heap.size ≤ w3.heap.size := Nat.le_trans hsz hf10.size
            have hS0 := hSm _ _ _ _ _ _ _ _ _ _ hM
            refine ⟨fun _ _ => hS0, ?_⟩
            refine wpAnyT_all (rs := [18, 23]) (by kernel_rfl) (by simp) hcl ?_
            intro i hi hcl
            simp only [List.mem_cons, List.not_mem_nil, or_false] at hi
            rcases hi with rfl | rfl
            · refine op_of (oi := { dst := some 53, op := _, type := _, pos := _, after := _, guard := _ }) rfl ?_
              refine step_app und27 info3 (by rfl) (by decide) (by decide) (by rfl) (.tmp 49) (.tmp 52) (by rfl) (by rfl) hM.rl (m := 1) (news := [Value.int .i64 l.n]) (by rfl) (by rfl) hb52.news hone52 (by decide) (by omega) hM.bel.size ?_
              intro g18 cap18 w4 ho18 hg18 hf18 hat18
              try simp only [Act.put, List.setIfInBounds_toArray, List.set_cons_zero, List.set_cons_succ]
              have hM := hM.appL ho18 hg18 hf18 (fun g hg' => by simp [Value.ownBlock] at hg'; subst hg'; exact hat18)
              have hsz : w0.heap.size ≤ w4.heap.size := Nat.le_trans hsz hf18.size
              have hS0 := hSm _ _ _ _ _ _ _ _ _ _ hM
              refine ⟨fun _ _ => hS0, ?_⟩
              refine wpAnyT_all (rs := [23]) (by kernel_rfl) (by simp) hcl ?_
              intro i hi hcl
              obtain rfl := List.mem_singleton.1 hi
              refine op_of (oi := { dst := some 58, op := _, type := _, pos := _, after := _, guard := _ }) rfl ?_
              go_simp
              try simp only [Act.put, List.setIfInBounds_toArray, List.set_cons_zero, List.set_cons_succ]
              have hb58 : Blk (w4.alloc (.cells #[.int .i64 0] 3)) w4.heap.size #[.int .i64 0] 3 := Blk.new w4 _ _
              have hb44 := hb44.alloc (.cells #[.int .i64 0] 3)
              have hb52 := hb52.alloc (.cells #[.int .i64 0] 3)
              have hM := hM.to ((Bel.refl w4).alloc (.cells #[.int .i64 0] 3))
              have hsz58 : w0.heap.size ≤ w4.heap.size := hsz
              have hsz : w0.heap.size ≤ (w4.alloc (.cells #[.int .i64 0] 3)).heap.size := Nat.le_trans hsz ((Bel.refl w4).alloc (.cells #[.int .i64 0] 3)).size
              have hS0 := hSm _ _ _ _ _ _ _ _ _ _ hM
              refine ⟨fun _ _ => hS0, ?_⟩
              generalize (w4.alloc (.cells #[.int .i64 0] 3)) = w5 at *
              refine wpAnyT_all (rs := [24]) (by kernel_rfl) (by simp) hcl ?_
              intro i hi hcl
              obtain rfl := List.mem_singleton.1 hi
              refine op_of (oi := { dst := some 59, op := _, type := _, pos := _, after := _, guard := _ }) rfl ?_
              refine step_app und27 info3 (by rfl) (by decide) (by decide) (by rfl) (.tmp 57) (.tmp 58) (by rfl) (by rfl) hM.rj (m := 1) (news := [Value.int .i64 0]) (by rfl) (by rfl) hb58.news hone58 (by decide) (by omega) hM.bel.size ?_
              intro g24 cap24 w6 ho24 hg24 hf24 hat24
              try simp only [Act.put, List.setIfInBounds_toArray, List.set_cons_zero, List.set_cons_succ]
              have hM := hM.appJ ho24 hg24 hf24 (fun g hg' => by simp [Value.ownBlock] at hg'; subst hg'; exact hat24)
              have hsz : w0.heap.size ≤ w6.heap.size := Nat.le_trans hsz hf24.size
              have hS0 := hSm _ _ _ _ _ _ _ _ _ _ hM
              refine ⟨fun _ _ => hS0, ?_⟩
              refine wpAnyT_take (S0 := fun _ => True) (i := 25) (oi := { dst := some 60, op := _, type := _, pos := _, after := _, guard := _ }) (v := ?_) rfl (by kernel_rfl) (by kernel_rfl) (by kernel_rfl) (fun _ _ _ h => h) (Stands.free 25) hcl (Or.inl ⟨by rfl, ?_⟩) trivial ?_
              rotate_left 1
              · (intro w hw; go_simp; try with_reducible rfl)
              intro hcl
              try simp only [Act.put, List.setIfInBounds_toArray, List.set_cons_zero, List.set_cons_succ]
              refine wpAnyT_take (S0 := fun _ => True) (i := 26) (oi := { dst := some 61, op := _, type := _, pos := _, after := _, guard := _ }) (v := ?_) rfl (by kernel_rfl) (by kernel_rfl) (by kernel_rfl) (fun _ _ _ h => h) (Stands.free 26) hcl (Or.inl ⟨by rfl, ?_⟩) trivial ?_
              rotate_left 1
              · (intro w hw; go_simp; try with_reducible rfl)
              intro hcl
              try simp only [Act.put, List.setIfInBounds_toArray, List.set_cons_zero, List.set_cons_succ]
              refine wpAnyT_take (S0 := fun _ => True) (i := 27) (oi := { dst := some 62, op := _, type := _, pos := _, after := _, guard := _ }) (v := ?_) rfl (by kernel_rfl) (by kernel_rfl) (by kernel_rfl) (fun _ _ _ h => h) (Stands.free 27) hcl (Or.inl ⟨by rfl, ?_⟩) trivial ?_
              rotate_left 1
              · (intro w hw; go_simp; try with_reducible rfl)
              intro hcl
              try simp only [Act.put, List.setIfInBounds_toArray, List.set_cons_zero, List.set_cons_succ]
              have s3 := hM.q.cell 3 rfl; have f3 := hM.q.frozen 3
              have q1 := hM.q.set 3 (.slice (some ⟨g10, 0, none⟩) (p.rungs.length + 1) cap10)
              have s5 := q1.cell 5 rfl; have f5 := q1.frozen 5
              have q2 := q1.set 5 (.slice (some ⟨g18, 0, none⟩) (p.lines.length + 1) cap18)
              have s6 := q2.cell 6 rfl; have f6 := q2.frozen 6
              refine wpAnyT_all (rs := [28]) (by kernel_rfl) (by simp) hcl ?_
              intro i hi hcl
              obtain rfl := List.mem_singleton.1 hi
              refine op_of (oi := { dst := none, op := _, type := _, pos := _, after := _, guard := _ }) rfl ?_
              go_simp
              try simp only [Act.put, List.setIfInBounds_toArray, List.set_cons_zero, List.set_cons_succ]
              refine wpAnyT_take (S0 := fun _ => True) (i := 29) (oi := { dst := some 63, op := _, type := _, pos := _, after := _, guard := _ }) (v := ?_) rfl (by kernel_rfl) (by kernel_rfl) (by kernel_rfl) (fun _ _ _ h => h) (Stands.free 29) hcl (Or.inl ⟨by rfl, ?_⟩) trivial ?_
              rotate_left 1
              · (intro w hw; go_simp; try with_reducible rfl)
              intro hcl
              try simp only [Act.put, List.setIfInBounds_toArray, List.set_cons_zero, List.set_cons_succ]
              refine wpAnyT_take (S0 := fun _ => True) (i := 30) (oi := { dst := some 64, op := _, type := _, pos := _, after := _, guard := _ }) (v := ?_) rfl (by kernel_rfl) (by kernel_rfl) (by kernel_rfl) (fun _ _ _ h => h) (Stands.free 30) hcl (Or.inl ⟨by rfl, ?_⟩) trivial ?_
              rotate_left 1
              · (intro w hw; go_simp; try with_reducible rfl)
              intro hcl
              try simp only [Act.put, List.setIfInBounds_toArray, List.set_cons_zero, List.set_cons_succ]
              refine wpAnyT_all (rs := [31]) (by kernel_rfl) (by simp) hcl ?_
              intro i hi hcl
              obtain rfl := List.mem_singleton.1 hi
              refine op_of (oi := { dst := none, op := _, type := _, pos := _, after := _, guard := _ }) rfl ?_
              go_simp
              try simp only [Act.put, List.setIfInBounds_toArray, List.set_cons_zero, List.set_cons_succ]
              refine wpAnyT_take (S0 := fun _ => True) (i := 32) (oi := { dst := some 65, op := _, type := _, pos := _, after := _, guard := _ }) (v := ?_) rfl (by kernel_rfl) (by kernel_rfl) (by kernel_rfl) (fun _ _ _ h => h) (Stands.free 32) hcl (Or.inl ⟨by rfl, ?_⟩) trivial ?_
              rotate_left 1
              · (intro w hw; go_simp; try with_reducible rfl)
              intro hcl
              try simp only [Act.put, List.setIfInBounds_toArray, List.set_cons_zero, List.set_cons_succ]
              refine wpAnyT_take (S0 := fun _ => True) (i := 33) (oi := { dst := some 66, op := _, type := _, pos := _, after := _, guard := _ }) (v := ?_) rfl (by kernel_rfl) (by kernel_rfl) (by kernel_rfl) (fun _ _ _ h => h) (Stands.free 33) hcl (Or.inl ⟨by rfl, ?_⟩) trivial ?_
              rotate_left 1
              · (intro w hw; go_simp; try with_reducible rfl)
              intro hcl
              try simp only [Act.put, List.setIfInBounds_toArray, List.set_cons_zero, List.set_cons_succ]
              refine wpAnyT_all (rs := [34]) (by kernel_rfl) (by simp) hcl ?_
              intro i hi hcl
              obtain rfl := List.mem_singleton.1 hi
              refine op_of (oi := { dst := none, op := _, type := _, pos := _, after := _, guard := _ }) rfl ?_
              go_simp
              try simp only [Act.put, List.setIfInBounds_toArray, List.set_cons_zero, List.set_cons_succ]
              refine wpAnyT_done (by kernel_rfl) ?_ _
              have hfin := hM.stored hbase hcsl
              go_wp2_with fail
              exact bodyPost_ret (v := .int .i64 0) (by simp [results, Tryz.results204, go_sem]) rfl ⟨by rw [HS2.out], hfin.2.bel, fun _ => ⟨_, hfin.1, by rw [HS2.out]; exact hfin.2⟩⟩
            · refine op_of (oi := { dst := some 58, op := _, type := _, pos := _, after := _, guard := _ }) rfl ?_
              go_simp
              try simp only [Act.put, List.setIfInBounds_toArray, List.set_cons_zero, List.set_cons_succ]
              have hb58 : Blk (w3.alloc (.cells #[.int .i64 0] 3)) w3.heap.size #[.int .i64 0] 3 := Blk.new w3 _ _
              have hb44 := hb44.alloc (.cells #[.int .i64 0] 3)
              have hb52 := hb52.alloc (.cells #[.int .i64 0] 3)
              have hM := hM.to ((Bel.refl w3).alloc (.cells #[.int .i64 0] 3))
              have hsz58 : w0.heap.size ≤ w3.heap.size := hsz
              have hsz : w0.heap.size ≤ (w3.alloc (.cells #[.int .i64 0] 3)).heap.size := Nat.le_trans hsz ((Bel.refl w3).alloc (.cells #[.int .i64 0] 3)).size
              have hS0 := hSm _ _ _ _ _ _ _ _ _ _ hM
              refine ⟨fun _ _ => hS0, ?_⟩
              generalize (w3.alloc (.cells #[.int .i64 0] 3)) = w4 at *
              refine wpAnyT_all (rs := [18]) (by kernel_rfl) (by simp) hcl ?_
              intro i hi hcl
              obtain rfl := List.mem_singleton.1 hi
              refine op_of (oi := { dst := some 53, op := _, type := _, pos := _, after := _, guard := _ }) rfl ?_
              refine step_app und27 info3 (by rfl) (by decide) (by decide) (by rfl) (.tmp 49) (.tmp 52) (by rfl) (by rfl) hM.rl (m := 1) (news := [Value.int .i64 l.n]) (by rfl) (by rfl) hb52.news hone52 (by decide) (by omega) hM.bel.size ?_
              intro g18 cap18 w5 ho18 hg18 hf18 hat18
              try simp only [Act.put, List.setIfInBounds_toArray, List.set_cons_zero, List.set_cons_succ]
              have hb58 := grown_blk hb58 hg18 (fun e => by have := hAl _ e.symm; omega)
              have hM := hM.appL ho18 hg18 hf18 (fun g hg' => by simp [Value.ownBlock] at hg'; subst hg'; exact hat18)
              have hsz : w0.heap.size ≤ w5.heap.size := Nat.le_trans hsz hf18.size
              have hS0 := hSm _ _ _ _ _ _ _ _ _ _ hM
              refine ⟨fun _ _ => hS0, ?_⟩
              refine wpAnyT_all (rs := [24]) (by kernel_rfl) (by simp) hcl ?_
              intro i hi hcl
              obtain rfl := List.mem_singleton.1 hi
              refine op_of (oi := { dst := some 59, op := _, type := _, pos := _, after := _, guard := _ }) rfl ?_
              refine step_app und27 info3 (by rfl) (by decide) (by decide) (by rfl) (.tmp 57) (.tmp 58) (by rfl) (by rfl) hM.rj (m := 1) (news := [Value.int .i64 0]) (by rfl) (by rfl) hb58.news hone58 (by decide) (by omega) hM.bel.size ?_
              intro g24 cap24 w6 ho24 hg24 hf24 hat24
              try simp only [Act.put, List.setIfInBounds_toArray, List.set_cons_zero, List.set_cons_succ]
              have hM := hM.appJ ho24 hg24 hf24 (fun g hg' => by simp [Value.ownBlock] at hg'; subst hg'; exact hat24)
              have hsz : w0.heap.size ≤ w6.heap.size := Nat.le_trans hsz hf24.size
              have hS0 := hSm _ _ _ _ _ _ _ _ _ _ hM
              refine ⟨fun _ _ => hS0, ?_⟩
              refine wpAnyT_take (S0 := fun _ => True) (i := 25) (oi := { dst := some 60, op := _, type := _, pos := _, after := _, guard := _ }) (v := ?_) rfl (by kernel_rfl) (by kernel_rfl) (by kernel_rfl) (fun _ _ _ h => h) (Stands.free 25) hcl (Or.inl ⟨by rfl, ?_⟩) trivial ?_
              rotate_left 1
              · (intro w hw; go_simp; try with_reducible rfl)
              intro hcl
              try simp only [Act.put, List.setIfInBounds_toArray, List.set_cons_zero, List.set_cons_succ]
              refine wpAnyT_take (S0 := fun _ => True) (i := 26) (oi := { dst := some 61, op := _, type := _, pos := _, after := _, guard := _ }) (v := ?_) rfl (by kernel_rfl) (by kernel_rfl) (by kernel_rfl) (fun _ _ _ h => h) (Stands.free 26) hcl (Or.inl ⟨by rfl, ?_⟩) trivial ?_
              rotate_left 1
              · (intro w hw; go_simp; try with_reducible rfl)
              intro hcl
              try simp only [Act.put, List.setIfInBounds_toArray, List.set_cons_zero, List.set_cons_succ]
              refine wpAnyT_take (S0 := fun _ => True) (i := 27) (oi := { dst := some 62, op := _, type := _, pos := _, after := _, guard := _ }) (v := ?_) rfl (by kernel_rfl) (by kernel_rfl) (by kernel_rfl) (fun _ _ _ h => h) (Stands.free 27) hcl (Or.inl ⟨by rfl, ?_⟩) trivial ?_
              rotate_left 1
              · (intro w hw; go_simp; try with_reducible rfl)
              intro hcl
              try simp only [Act.put, List.setIfInBounds_toArray, List.set_cons_zero, List.set_cons_succ]
              have s3 := hM.q.cell 3 rfl; have f3 := hM.q.frozen 3
              have q1 := hM.q.set 3 (.slice (some ⟨g10, 0, none⟩) (p.rungs.length + 1) cap10)
              have s5 := q1.cell 5 rfl; have f5 := q1.frozen 5
              have q2 := q1.set 5 (.slice (some ⟨g18, 0, none⟩) (p.lines.length + 1) cap18)
              have s6 := q2.cell 6 rfl; have f6 := q2.frozen 6
              refine wpAnyT_all (rs := [28]) (by kernel_rfl) (by simp) hcl ?_
              intro i hi hcl
              obtain rfl := List.mem_singleton.1 hi
              refine op_of (oi := { dst := none, op := _, type := _, pos := _, after := _, guard := _ }) rfl ?_
              go_simp
              try simp only [Act.put, List.setIfInBounds_toArray, List.set_cons_zero, List.set_cons_succ]
              refine wpAnyT_take (S0 := fun _ => True) (i := 29) (oi := { dst := some 63, op := _, type := _, pos := _, after := _, guard := _ }) (v := ?_) rfl (by kernel_rfl) (by kernel_rfl) (by kernel_rfl) (fun _ _ _ h => h) (Stands.free 29) hcl (Or.inl ⟨by rfl, ?_⟩) trivial ?_
              rotate_left 1
              · (intro w hw; go_simp; try with_reducible rfl)
              intro hcl
              try simp only [Act.put, List.setIfInBounds_toArray, List.set_cons_zero, List.set_cons_succ]
              refine wpAnyT_take (S0 := fun _ => True) (i := 30) (oi := { dst := some 64, op := _, type := _, pos := _, after := _, guard := _ }) (v := ?_) rfl (by kernel_rfl) (by kernel_rfl) (by kernel_rfl) (fun _ _ _ h => h) (Stands.free 30) hcl (Or.inl ⟨by rfl, ?_⟩) trivial ?_
              rotate_left 1
              · (intro w hw; go_simp; try with_reducible rfl)
              intro hcl
              try simp only [Act.put, List.setIfInBounds_toArray, List.set_cons_zero, List.set_cons_succ]
              refine wpAnyT_all (rs := [31]) (by kernel_rfl) (by simp) hcl ?_
              intro i hi hcl
              obtain rfl := List.mem_singleton.1 hi
              refine op_of (oi := { dst := none, op := _, type := _, pos := _, after := _, guard := _ }) rfl ?_
              go_simp
              try simp only [Act.put, List.setIfInBounds_toArray, List.set_cons_zero, List.set_cons_succ]
              refine wpAnyT_take (S0 := fun _ => True) (i := 32) (oi := { dst := some 65, op := _, type := _, pos := _, after := _, guard := _ }) (v := ?_) rfl (by kernel_rfl) (by kernel_rfl) (by kernel_rfl) (fun _ _ _ h => h) (Stands.free 32) hcl (Or.inl ⟨by rfl, ?_⟩) trivial ?_
              rotate_left 1
              · (intro w hw; go_simp; try with_reducible rfl)
              intro hcl
              try simp only [Act.put, List.setIfInBounds_toArray, List.set_cons_zero, List.set_cons_succ]
              refine wpAnyT_take (S0 := fun _ => True) (i := 33) (oi := { dst := some 66, op := _, type := _, pos := _, after := _, guard := _ }) (v := ?_) rfl (by kernel_rfl) (by kernel_rfl) (by kernel_rfl) (fun _ _ _ h => h) (Stands.free 33) hcl (Or.inl ⟨by rfl, ?_⟩) trivial ?_
              rotate_left 1
              · (intro w hw; go_simp; try with_reducible rfl)
              intro hcl
              try simp only [Act.put, List.setIfInBounds_toArray, List.set_cons_zero, List.set_cons_succ]
              refine wpAnyT_all (rs := [34]) (by kernel_rfl) (by simp) hcl ?_
              intro i hi hcl
              obtain rfl := List.mem_singleton.1 hi
              refine op_of (oi := { dst := none, op := _, type := _, pos := _, after := _, guard := _ }) rfl ?_
              go_simp
              try simp only [Act.put, List.setIfInBounds_toArray, List.set_cons_zero, List.set_cons_succ]
              refine wpAnyT_done (by kernel_rfl) ?_ _
              have hfin := hM.stored hbase hcsl
              go_wp2_with fail
              exact bodyPost_ret (v := .int .i64 0) (by simp [results, Tryz.results204, go_sem]) rfl ⟨by rw [HS2.out], hfin.2.bel, fun _ => ⟨_, hfin.1, by rw [HS2.out]; exact hfin.2⟩⟩
          · refine op_of (oi := { dst := some 58, op := _, type := _, pos := _, after := _, guard := _ }) rfl ?_
            go_simp
            try simp only [Act.put, List.setIfInBounds_toArray, List.set_cons_zero, List.set_cons_succ]
            have hb58 : Blk (w2.alloc (.cells #[.int .i64 0] 3)) w2.heap.size #[.int .i64 0] 3 := Blk.new w2 _ _
            have hb44 := hb44.alloc (.cells #[.int .i64 0] 3)
            have hb52 := hb52.alloc (.cells #[.int .i64 0] 3)
            have hM := hM.to ((Bel.refl w2).alloc (.cells #[.int .i64 0] 3))
            have hsz58 : w0.heap.size ≤ w2.heap.size := hsz
            have hsz : w0.heap.size ≤ (w2.alloc (.cells #[.int .i64 0] 3)).heap.size := Nat.le_trans hsz ((Bel.refl w2).alloc (.cells #[.int .i64 0] 3)).size
            have hS0 := hSm _ _ _ _ _ _ _ _ _ _ hM
            refine ⟨fun _ _ => hS0, ?_⟩
            generalize (w2.alloc (.cells #[.int .i64 0] 3)) = w3 at *
            refine wpAnyT_all (rs := [10]) (by kernel_rfl) (by simp) hcl ?_
            intro i hi hcl
            obtain rfl := List.mem_singleton.1 hi
            refine op_of (oi := { dst := some 45, op := _, type := _, pos := _, after := _, guard := _ }) rfl ?_
            refine step_app und24 info33 (by rfl) (by decide) (by decide) (by rfl) (.tmp 42) (.tmp 44) (by rfl) (by rfl) hM.rr (m := 1) (news := [Value.string lab, .slice none 0 0, .slice none 0 0, .string ⟨#[]⟩]) (by rfl) (by rfl) hb44.news hone44 (by decide) (by omega) hM.bel.size ?_
            intro g10 cap10 w4 ho10 hg10 hf10 hat10
            try simp only [Act.put, List.setIfInBounds_toArray, List.set_cons_zero, List.set_cons_succ]
            have hb52 := hf10.blk hb52 (.inr (by decide))
            have hb58 := hf10.blk hb58 (.inr (by decide))
            have hM := hM.appR ho10 hg10 hf10 (fun g hg' => by simp [Value.ownBlock] at hg'; subst hg'; exact hat10)
            have hsz : w0.heap.size ≤ w4.heap.size := Nat.le_trans hsz hf10.size
            have hS0 := hSm _ _ _ _ _ _ _ _ _ _ hM
            refine ⟨fun _ _ => hS0, ?_⟩
            refine wpAnyT_all (rs := [18]) (by kernel_rfl) (by simp) hcl ?_
            intro i hi hcl
            obtain rfl := List.mem_singleton.1 hi
            refine op_of (oi := { dst := some 53, op := _, type := _, pos := _, after := _, guard := _ }) rfl ?_
            refine step_app und27 info3 (by rfl) (by decide) (by decide) (by rfl) (.tmp 49) (.tmp 52) (by rfl) (by rfl) hM.rl (m := 1) (news := [Value.int .i64 l.n]) (by rfl) (by rfl) hb52.news hone52 (by decide) (by omega) hM.bel.size ?_
            intro g18 cap18 w5 ho18 hg18 hf18 hat18
            try simp only [Act.put, List.setIfInBounds_toArray, List.set_cons_zero, List.set_cons_succ]
            have hb58 := grown_blk hb58 hg18 (fun e => by have := hAl _ e.symm; omega)
            have hM := hM.appL ho18 hg18 hf18 (fun g hg' => by simp [Value.ownBlock] at hg'; subst hg'; exact hat18)
            have hsz : w0.heap.size ≤ w5.heap.size := Nat.le_trans hsz hf18.size
            have hS0 := hSm _ _ _ _ _ _ _ _ _ _ hM
            refine ⟨fun _ _ => hS0, ?_⟩
            refine wpAnyT_all (rs := [24]) (by kernel_rfl) (by simp) hcl ?_
            intro i hi hcl
            obtain rfl := List.mem_singleton.1 hi
            refine op_of (oi := { dst := some 59, op := _, type := _, pos := _, after := _, guard := _ }) rfl ?_
            refine step_app und27 info3 (by rfl) (by decide) (by decide) (by rfl) (.tmp 57) (.tmp 58) (by rfl) (by rfl) hM.rj (m := 1) (news := [Value.int .i64 0]) (by rfl) (by rfl) hb58.news hone58 (by decide) (by omega) hM.bel.size ?_
            intro g24 cap24 w6 ho24 hg24 hf24 hat24
            try simp only [Act.put, List.setIfInBounds_toArray, List.set_cons_zero, List.set_cons_succ]
            have hM := hM.appJ ho24 hg24 hf24 (fun g hg' => by simp [Value.ownBlock] at hg'; subst hg'; exact hat24)
            have hsz : w0.heap.size ≤ w6.heap.size := Nat.le_trans hsz hf24.size
            have hS0 := hSm _ _ _ _ _ _ _ _ _ _ hM
            refine ⟨fun _ _ => hS0, ?_⟩
            refine wpAnyT_take (S0 := fun _ => True) (i := 25) (oi := { dst := some 60, op := _, type := _, pos := _, after := _, guard := _ }) (v := ?_) rfl (by kernel_rfl) (by kernel_rfl) (by kernel_rfl) (fun _ _ _ h => h) (Stands.free 25) hcl (Or.inl ⟨by rfl, ?_⟩) trivial ?_
            rotate_left 1
            · (intro w hw; go_simp; try with_reducible rfl)
            intro hcl
            try simp only [Act.put, List.setIfInBounds_toArray, List.set_cons_zero, List.set_cons_succ]
            refine wpAnyT_take (S0 := fun _ => True) (i := 26) (oi := { dst := some 61, op := _, type := _, pos := _, after := _, guard := _ }) (v := ?_) rfl (by kernel_rfl) (by kernel_rfl) (by kernel_rfl) (fun _ _ _ h => h) (Stands.free 26) hcl (Or.inl ⟨by rfl, ?_⟩) trivial ?_
            rotate_left 1
            · (intro w hw; go_simp; try with_reducible rfl)
            intro hcl
            try simp only [Act.put, List.setIfInBounds_toArray, List.set_cons_zero, List.set_cons_succ]
            refine wpAnyT_take (S0 := fun _ => True) (i := 27) (oi := { dst := some 62, op := _, type := _, pos := _, after := _, guard := _ }) (v := ?_) rfl (by kernel_rfl) (by kernel_rfl) (by kernel_rfl) (fun _ _ _ h => h) (Stands.free 27) hcl (Or.inl ⟨by rfl, ?_⟩) trivial ?_
            rotate_left 1
            · (intro w hw; go_simp; try with_reducible rfl)
            intro hcl
            try simp only [Act.put, List.setIfInBounds_toArray, List.set_cons_zero, List.set_cons_succ]
            have s3 := hM.q.cell 3 rfl; have f3 := hM.q.frozen 3
            have q1 := hM.q.set 3 (.slice (some ⟨g10, 0, none⟩) (p.rungs.length + 1) cap10)
            have s5 := q1.cell 5 rfl; have f5 := q1.frozen 5
            have q2 := q1.set 5 (.slice (some ⟨g18, 0, none⟩) (p.lines.length + 1) cap18)
            have s6 := q2.cell 6 rfl; have f6 := q2.frozen 6
            refine wpAnyT_all (rs := [28]) (by kernel_rfl) (by simp) hcl ?_
            intro i hi hcl
            obtain rfl := List.mem_singleton.1 hi
            refine op_of (oi := { dst := none, op := _, type := _, pos := _, after := _, guard := _ }) rfl ?_
            go_simp
            try simp only [Act.put, List.setIfInBounds_toArray, List.set_cons_zero, List.set_cons_succ]
            refine wpAnyT_take (S0 := fun _ => True) (i := 29) (oi := { dst := some 63, op := _, type := _, pos := _, after := _, guard := _ }) (v := ?_) rfl (by kernel_rfl) (by kernel_rfl) (by kernel_rfl) (fun _ _ _ h => h) (Stands.free 29) hcl (Or.inl ⟨by rfl, ?_⟩) trivial ?_
            rotate_left 1
            · (intro w hw; go_simp; try with_reducible rfl)
            intro hcl
            try simp only [Act.put, List.setIfInBounds_toArray, List.set_cons_zero, List.set_cons_succ]
            refine wpAnyT_take (S0 := fun _ => True) (i := 30) (oi := { dst := some 64, op := _, type := _, pos := _, after := _, guard := _ }) (v := ?_) rfl (by kernel_rfl) (by kernel_rfl) (by kernel_rfl) (fun _ _ _ h => h) (Stands.free 30) hcl (Or.inl ⟨by rfl, ?_⟩) trivial ?_
            rotate_left 1
            · (intro w hw; go_simp; try with_reducible rfl)
            intro hcl
            try simp only [Act.put, List.setIfInBounds_toArray, List.set_cons_zero, List.set_cons_succ]
            refine wpAnyT_all (rs := [31]) (by kernel_rfl) (by simp) hcl ?_
            intro i hi hcl
            obtain rfl := List.mem_singleton.1 hi
            refine op_of (oi := { dst := none, op := _, type := _, pos := _, after := _, guard := _ }) rfl ?_
            go_simp
            try simp only [Act.put, List.setIfInBounds_toArray, List.set_cons_zero, List.set_cons_succ]
            refine wpAnyT_take (S0 := fun _ => True) (i := 32) (oi := { dst := some 65, op := _, type := _, pos := _, after := _, guard := _ }) (v := ?_) rfl (by kernel_rfl) (by kernel_rfl) (by kernel_rfl) (fun _ _ _ h => h) (Stands.free 32) hcl (Or.inl ⟨by rfl, ?_⟩) trivial ?_
            rotate_left 1
            · (intro w hw; go_simp; try with_reducible rfl)
            intro hcl
            try simp only [Act.put, List.setIfInBounds_toArray, List.set_cons_zero, List.set_cons_succ]
            refine wpAnyT_take (S0 := fun _ => True) (i := 33) (oi := { dst := some 66, op := _, type := _, pos := _, after := _, guard := _ }) (v := ?_) rfl (by kernel_rfl) (by kernel_rfl) (by kernel_rfl) (fun _ _ _ h => h) (Stands.free 33) hcl (Or.inl ⟨by rfl, ?_⟩) trivial ?_
            rotate_left 1
            · (intro w hw; go_simp; try with_reducible rfl)
            intro hcl
            try simp only [Act.put, List.setIfInBounds_toArray, List.set_cons_zero, List.set_cons_succ]
            refine wpAnyT_all (rs := [34]) (by kernel_rfl) (by simp) hcl ?_
            intro i hi hcl
            obtain rfl := List.mem_singleton.1 hi
            refine op_of (oi := { dst := none, op := _, type := _, pos := _, after := _, guard := _ }) rfl ?_
            go_simp
            try simp only [Act.put, List.setIfInBounds_toArray, List.set_cons_zero, List.set_cons_succ]
            refine wpAnyT_done (by kernel_rfl) ?_ _
            have hfin := hM.stored hbase hcsl
            go_wp2_with fail
            exact bodyPost_ret (v := .int .i64 0) (by simp [results, Tryz.results204, go_sem]) rfl ⟨by rw [HS2.out], hfin.2.bel, fun _ => ⟨_, hfin.1, by rw [HS2.out]; exact hfin.2⟩⟩
        · refine op_of (oi := { dst := some 58, op := _, type := _, pos := _, after := _, guard := _ }) rfl ?_
          go_simp
          try simp only [Act.put, List.setIfInBounds_toArray, List.set_cons_zero, List.set_cons_succ]
          have hb58 : Blk (w1.alloc (.cells #[.int .i64 0] 3)) w1.heap.size #[.int .i64 0] 3 := Blk.new w1 _ _
          have hb44 := hb44.alloc (.cells #[.int .i64 0] 3)
          have hM := hM.to ((Bel.refl w1).alloc (.cells #[.int .i64 0] 3))
          have hsz58 : w0.heap.size ≤ w1.heap.size := hsz
          have hsz : w0.heap.size ≤ (w1.alloc (.cells #[.int .i64 0] 3)).heap.size := Nat.le_trans hsz ((Bel.refl w1).alloc (.cells #[.int .i64 0] 3)).size
          have hS0 := hSm _ _ _ _ _ _ _ _ _ _ hM
          refine ⟨fun _ _ => hS0, ?_⟩
          generalize (w1.alloc (.cells #[.int .i64 0] 3)) = w2 at *
          refine wpAnyT_all (rs := [10, 17]) (by kernel_rfl) (by simp) hcl ?_
          intro i hi hcl
          simp only [List.mem_cons, List.not_mem_nil, or_false] at hi
          rcases hi with rfl | rfl
          · refine op_of (oi := { dst := some 45, op := _, type := _, pos := _, after := _, guard := _ }) rfl ?_
            refine step_app und24 info33 (by rfl) (by decide) (by decide) (by rfl) (.tmp 42) (.tmp 44) (by rfl) (by rfl) hM.rr (m := 1) (news := [Value.string lab, .slice none 0 0, .slice none 0 0, .string ⟨#[]⟩]) (by rfl) (by rfl) hb44.news hone44 (by decide) (by omega) hM.bel.size ?_
            intro g10 cap10 w3 ho10 hg10 hf10 hat10
            try simp only [Act.put, List.setIfInBounds_toArray, List.set_cons_zero, List.set_cons_succ]
            have hb58 := hf10.blk hb58 (.inr (by decide))
            have hM := hM.appR ho10 hg10 hf10 (fun g hg' => by simp [Value.ownBlock] at hg'; subst hg'; exact hat10)
            have hsz : w0.heap.size ≤ w3.heap.size := Nat.le_trans hsz hf10.size
            have hS0 := hSm _ _ _ _ _ _ _ _ _ _ hM
            refine ⟨fun _ _ => hS0, ?_⟩
            refine wpAnyT_all (rs := [17]) (by kernel_rfl) (by simp) hcl ?_
            intro i hi hcl
            obtain rfl := List.mem_singleton.1 hi
            refine op_of (oi := { dst := some 52, op := _, type := _, pos := _, after := _, guard := _ }) rfl ?_
            go_simp
            try simp only [Act.put, List.setIfInBounds_toArray, List.set_cons_zero, List.set_cons_succ]
            have hb52 : Blk (w3.alloc (.cells #[.int .i64 l.n] 3)) w3.heap.size #[.int .i64 l.n] 3 := Blk.new w3 _ _
            have hb44 := hb44.alloc (.cells #[.int .i64 l.n] 3)
            have hb58 := hb58.alloc (.cells #[.int .i64 l.n] 3)
            have hM := hM.to ((Bel.refl w3).alloc (.cells #[.int .i64 l.n] 3))
            have hsz52 : w0.heap.size ≤ w3.heap.size := hsz
            have hsz : w0.heap.size ≤ (w3.alloc (.cells #[.int .i64 l.n] 3)).heap.size := Nat.le_trans hsz ((Bel.refl w3).alloc (.cells #[.int .i64 l.n] 3)).size
            have hS0 := hSm _ _ _ _ _ _ _ _ _ _ hM
            refine ⟨fun _ _ => hS0, ?_⟩
            generalize (w3.alloc (.cells #[.int .i64 l.n] 3)) = w4 at *
            refine wpAnyT_all (rs := [18]) (by kernel_rfl) (by simp) hcl ?_
            intro i hi hcl
            obtain rfl := List.mem_singleton.1 hi
            refine op_of (oi := { dst := some 53, op := _, type := _, pos := _, after := _, guard := _ }) rfl ?_
            refine step_app und27 info3 (by rfl) (by decide) (by decide) (by rfl) (.tmp 49) (.tmp 52) (by rfl) (by rfl) hM.rl (m := 1) (news := [Value.int .i64 l.n]) (by rfl) (by rfl) hb52.news hone52 (by decide) (by omega) hM.bel.size ?_
            intro g18 cap18 w5 ho18 hg18 hf18 hat18
            try simp only [Act.put, List.setIfInBounds_toArray, List.set_cons_zero, List.set_cons_succ]
            have hb58 := grown_blk hb58 hg18 (fun e => by have := hAl _ e.symm; omega)
            have hM := hM.appL ho18 hg18 hf18 (fun g hg' => by simp [Value.ownBlock] at hg'; subst hg'; exact hat18)
            have hsz : w0.heap.size ≤ w5.heap.size := Nat.le_trans hsz hf18.size
            have hS0 := hSm _ _ _ _ _ _ _ _ _ _ hM
            refine ⟨fun _ _ => hS0, ?_⟩
            refine wpAnyT_all (rs := [24]) (by kernel_rfl) (by simp) hcl ?_
            intro i hi hcl
            obtain rfl := List.mem_singleton.1 hi
            refine op_of (oi := { dst := some 59, op := _, type := _, pos := _, after := _, guard := _ }) rfl ?_
            refine step_app und27 info3 (by rfl) (by decide) (by decide) (by rfl) (.tmp 57) (.tmp 58) (by rfl) (by rfl) hM.rj (m := 1) (news := [Value.int .i64 0]) (by rfl) (by rfl) hb58.news hone58 (by decide) (by omega) hM.bel.size ?_
            intro g24 cap24 w6 ho24 hg24 hf24 hat24
            try simp only [Act.put, List.setIfInBounds_toArray, List.set_cons_zero, List.set_cons_succ]
            have hM := hM.appJ ho24 hg24 hf24 (fun g hg' => by simp [Value.ownBlock] at hg'; subst hg'; exact hat24)
            have hsz : w0.heap.size ≤ w6.heap.size := Nat.le_trans hsz hf24.size
            have hS0 := hSm _ _ _ _ _ _ _ _ _ _ hM
            refine ⟨fun _ _ => hS0, ?_⟩
            refine wpAnyT_take (S0 := fun _ => True) (i := 25) (oi := { dst := some 60, op := _, type := _, pos := _, after := _, guard := _ }) (v := ?_) rfl (by kernel_rfl) (by kernel_rfl) (by kernel_rfl) (fun _ _ _ h => h) (Stands.free 25) hcl (Or.inl ⟨by rfl, ?_⟩) trivial ?_
            rotate_left 1
            · (intro w hw; go_simp; try with_reducible rfl)
            intro hcl
            try simp only [Act.put, List.setIfInBounds_toArray, List.set_cons_zero, List.set_cons_succ]
            refine wpAnyT_take (S0 := fun _ => True) (i := 26) (oi := { dst := some 61, op := _, type := _, pos := _, after := _, guard := _ }) (v := ?_) rfl (by kernel_rfl) (by kernel_rfl) (by kernel_rfl) (fun _ _ _ h => h) (Stands.free 26) hcl (Or.inl ⟨by rfl, ?_⟩) trivial ?_
            rotate_left 1
            · (intro w hw; go_simp; try with_reducible rfl)
            intro hcl
            try simp only [Act.put, List.setIfInBounds_toArray, List.set_cons_zero, List.set_cons_succ]
            refine wpAnyT_take (S0 := fun _ => True) (i := 27) (oi := { dst := some 62, op := _, type := _, pos := _, after := _, guard := _ }) (v := ?_) rfl (by kernel_rfl) (by kernel_rfl) (by kernel_rfl) (fun _ _ _ h => h) (Stands.free 27) hcl (Or.inl ⟨by rfl, ?_⟩) trivial ?_
            rotate_left 1
            · (intro w hw; go_simp; try with_reducible rfl)
            intro hcl
            try simp only [Act.put, List.setIfInBounds_toArray, List.set_cons_zero, List.set_cons_succ]
            have s3 := hM.q.cell 3 rfl; have f3 := hM.q.frozen 3
            have q1 := hM.q.set 3 (.slice (some ⟨g10, 0, none⟩) (p.rungs.length + 1) cap10)
            have s5 := q1.cell 5 rfl; have f5 := q1.frozen 5
            have q2 := q1.set 5 (.slice (some ⟨g18, 0, none⟩) (p.lines.length + 1) cap18)
            have s6 := q2.cell 6 rfl; have f6 := q2.frozen 6
            refine wpAnyT_all (rs := [28]) (by kernel_rfl) (by simp) hcl ?_
            intro i hi hcl
            obtain rfl := List.mem_singleton.1 hi
            refine op_of (oi := { dst := none, op := _, type := _, pos := _, after := _, guard := _ }) rfl ?_
            go_simp
            try simp only [Act.put, List.setIfInBounds_toArray, List.set_cons_zero, List.set_cons_succ]
            refine wpAnyT_take (S0 := fun _ => True) (i := 29) (oi := { dst := some 63, op := _, type := _, pos := _, after := _, guard := _ }) (v := ?_) rfl (by kernel_rfl) (by kernel_rfl) (by kernel_rfl) (fun _ _ _ h => h) (Stands.free 29) hcl (Or.inl ⟨by rfl, ?_⟩) trivial ?_
            rotate_left 1
            · (intro w hw; go_simp; try with_reducible rfl)
            intro hcl
            try simp only [Act.put, List.setIfInBounds_toArray, List.set_cons_zero, List.set_cons_succ]
            refine wpAnyT_take (S0 := fun _ => True) (i := 30) (oi := { dst := some 64, op := _, type := _, pos := _, after := _, guard := _ }) (v := ?_) rfl (by kernel_rfl) (by kernel_rfl) (by kernel_rfl) (fun _ _ _ h => h) (Stands.free 30) hcl (Or.inl ⟨by rfl, ?_⟩) trivial ?_
            rotate_left 1
            · (intro w hw; go_simp; try with_reducible rfl)
            intro hcl
            try simp only [Act.put, List.setIfInBounds_toArray, List.set_cons_zero, List.set_cons_succ]
            refine wpAnyT_all (rs := [31]) (by kernel_rfl) (by simp) hcl ?_
            intro i hi hcl
            obtain rfl := List.mem_singleton.1 hi
            refine op_of (oi := { dst := none, op := _, type := _, pos := _, after := _, guard := _ }) rfl ?_
            go_simp
            try simp only [Act.put, List.setIfInBounds_toArray, List.set_cons_zero, List.set_cons_succ]
            refine wpAnyT_take (S0 := fun _ => True) (i := 32) (oi := { dst := some 65, op := _, type := _, pos := _, after := _, guard := _ }) (v := ?_) rfl (by kernel_rfl) (by kernel_rfl) (by kernel_rfl) (fun _ _ _ h => h) (Stands.free 32) hcl (Or.inl ⟨by rfl, ?_⟩) trivial ?_
            rotate_left 1
            · (intro w hw; go_simp; try with_reducible rfl)
            intro hcl
            try simp only [Act.put, List.setIfInBounds_toArray, List.set_cons_zero, List.set_cons_succ]
            refine wpAnyT_take (S0 := fun _ => True) (i := 33) (oi := { dst := some 66, op := _, type := _, pos := _, after := _, guard := _ }) (v := ?_) rfl (by kernel_rfl) (by kernel_rfl) (by kernel_rfl) (fun _ _ _ h => h) (Stands.free 33) hcl (Or.inl ⟨by rfl, ?_⟩) trivial ?_
            rotate_left 1
            · (intro w hw; go_simp; try with_reducible rfl)
            intro hcl
            try simp only [Act.put, List.setIfInBounds_toArray, List.set_cons_zero, List.set_cons_succ]
            refine wpAnyT_all (rs := [34]) (by kernel_rfl) (by simp) hcl ?_
            intro i hi hcl
            obtain rfl := List.mem_singleton.1 hi
            refine op_of (oi := { dst := none, op := _, type := _, pos := _, after := _, guard := _ }) rfl ?_
            go_simp
            try simp only [Act.put, List.setIfInBounds_toArray, List.set_cons_zero, List.set_cons_succ]
            refine wpAnyT_done (by kernel_rfl) ?_ _
            have hfin := hM.stored hbase hcsl
            go_wp2_with fail
            exact bodyPost_ret (v := .int .i64 0) (by simp [results, Tryz.results204, go_sem]) rfl ⟨by rw [HS2.out], hfin.2.bel, fun _ => ⟨_, hfin.1, by rw [HS2.out]; exact hfin.2⟩⟩
          · refine op_of (oi := { dst := some 52, op := _, type := _, pos := _, after := _, guard := _ }) rfl ?_
            go_simp
            try simp only [Act.put, List.setIfInBounds_toArray, List.set_cons_zero, List.set_cons_succ]
            have hb52 : Blk (w2.alloc (.cells #[.int .i64 l.n] 3)) w2.heap.size #[.int .i64 l.n] 3 := Blk.new w2 _ _
            have hb44 := hb44.alloc (.cells #[.int .i64 l.n] 3)
            have hb58 := hb58.alloc (.cells #[.int .i64 l.n] 3)
            have hM := hM.to ((Bel.refl w2).alloc (.cells #[.int .i64 l.n] 3))
            have hsz52 : w0.heap.size ≤ w2.heap.size := hsz
            have hsz : w0.heap.size ≤ (w2.alloc (.cells #[.int .i64 l.n] 3)).heap.size := Nat.le_trans hsz ((Bel.refl w2).alloc (.cells #[.int .i64 l.n] 3)).size
            have hS0 := hSm _ _ _ _ _ _ _ _ _ _ hM
            refine ⟨fun _ _ => hS0, ?_⟩
            generalize (w2.alloc (.cells #[.int .i64 l.n] 3)) = w3 at *
            refine wpAnyT_all (rs := [10]) (by kernel_rfl) (by simp) hcl ?_
            intro i hi hcl
            obtain rfl := List.mem_singleton.1 hi
            refine op_of (oi := { dst := some 45, op := _, type := _, pos := _, after := _, guard := _ }) rfl ?_
            refine step_app und24 info33 (by rfl) (by decide) (by decide) (by rfl) (.tmp 42) (.tmp 44) (by rfl) (by rfl) hM.rr (m := 1) (news := [Value.string lab, .slice none 0 0, .slice none 0 0, .string ⟨#[]⟩]) (by rfl) (by rfl) hb44.news hone44 (by decide) (by omega) hM.bel.size ?_
            intro g10 cap10 w4 ho10 hg10 hf10 hat10
            try simp only [Act.put, List.setIfInBounds_toArray, List.set_cons_zero, List.set_cons_succ]
            have hb52 := hf10.blk hb52 (.inr (by decide))
            have hb58 := hf10.blk hb58 (.inr (by decide))
            have hM := hM.appR ho10 hg10 hf10 (fun g hg' => by simp [Value.ownBlock] at hg'; subst hg'; exact hat10)
            have hsz : w0.heap.size ≤ w4.heap.size := Nat.le_trans hsz hf10.size
            have hS0 := hSm _ _ _ _ _ _ _ _ _ _ hM
            refine ⟨fun _ _ => hS0, ?_⟩
            refine wpAnyT_all (rs := [18]) (by kernel_rfl) (by simp) hcl ?_
            intro i hi hcl
            obtain rfl := List.mem_singleton.1 hi
            refine op_of (oi := { dst := some 53, op := _, type := _, pos := _, after := _, guard := _ }) rfl ?_
            refine step_app und27 info3 (by rfl) (by decide) (by decide) (by rfl) (.tmp 49) (.tmp 52) (by rfl) (by rfl) hM.rl (m := 1) (news := [Value.int .i64 l.n]) (by rfl) (by rfl) hb52.news hone52 (by decide) (by omega) hM.bel.size ?_
            intro g18 cap18 w5 ho18 hg18 hf18 hat18
            try simp only [Act.put, List.setIfInBounds_toArray, List.set_cons_zero, List.set_cons_succ]
            have hb58 := grown_blk hb58 hg18 (fun e => by have := hAl _ e.symm; omega)
            have hM := hM.appL ho18 hg18 hf18 (fun g hg' => by simp [Value.ownBlock] at hg'; subst hg'; exact hat18)
            have hsz : w0.heap.size ≤ w5.heap.size := Nat.le_trans hsz hf18.size
            have hS0 := hSm _ _ _ _ _ _ _ _ _ _ hM
            refine ⟨fun _ _ => hS0, ?_⟩
            refine wpAnyT_all (rs := [24]) (by kernel_rfl) (by simp) hcl ?_
            intro i hi hcl
            obtain rfl := List.mem_singleton.1 hi
            refine op_of (oi := { dst := some 59, op := _, type := _, pos := _, after := _, guard := _ }) rfl ?_
            refine step_app und27 info3 (by rfl) (by decide) (by decide) (by rfl) (.tmp 57) (.tmp 58) (by rfl) (by rfl) hM.rj (m := 1) (news := [Value.int .i64 0]) (by rfl) (by rfl) hb58.news hone58 (by decide) (by omega) hM.bel.size ?_
            intro g24 cap24 w6 ho24 hg24 hf24 hat24
            try simp only [Act.put, List.setIfInBounds_toArray, List.set_cons_zero, List.set_cons_succ]
            have hM := hM.appJ ho24 hg24 hf24 (fun g hg' => by simp [Value.ownBlock] at hg'; subst hg'; exact hat24)
            have hsz : w0.heap.size ≤ w6.heap.size := Nat.le_trans hsz hf24.size
            have hS0 := hSm _ _ _ _ _ _ _ _ _ _ hM
            refine ⟨fun _ _ => hS0, ?_⟩
            refine wpAnyT_take (S0 := fun _ => True) (i := 25) (oi := { dst := some 60, op := _, type := _, pos := _, after := _, guard := _ }) (v := ?_) rfl (by kernel_rfl) (by kernel_rfl) (by kernel_rfl) (fun _ _ _ h => h) (Stands.free 25) hcl (Or.inl ⟨by rfl, ?_⟩) trivial ?_
            rotate_left 1
            · (intro w hw; go_simp; try with_reducible rfl)
            intro hcl
            try simp only [Act.put, List.setIfInBounds_toArray, List.set_cons_zero, List.set_cons_succ]
            refine wpAnyT_take (S0 := fun _ => True) (i := 26) (oi := { dst := some 61, op := _, type := _, pos := _, after := _, guard := _ }) (v := ?_) rfl (by kernel_rfl) (by kernel_rfl) (by kernel_rfl) (fun _ _ _ h => h) (Stands.free 26) hcl (Or.inl ⟨by rfl, ?_⟩) trivial ?_
            rotate_left 1
            · (intro w hw; go_simp; try with_reducible rfl)
            intro hcl
            try simp only [Act.put, List.setIfInBounds_toArray, List.set_cons_zero, List.set_cons_succ]
            refine wpAnyT_take (S0 := fun _ => True) (i := 27) (oi := { dst := some 62, op := _, type := _, pos := _, after := _, guard := _ }) (v := ?_) rfl (by kernel_rfl) (by kernel_rfl) (by kernel_rfl) (fun _ _ _ h => h) (Stands.free 27) hcl (Or.inl ⟨by rfl, ?_⟩) trivial ?_
            rotate_left 1
            · (intro w hw; go_simp; try with_reducible rfl)
            intro hcl
            try simp only [Act.put, List.setIfInBounds_toArray, List.set_cons_zero, List.set_cons_succ]
            have s3 := hM.q.cell 3 rfl; have f3 := hM.q.frozen 3
            have q1 := hM.q.set 3 (.slice (some ⟨g10, 0, none⟩) (p.rungs.length + 1) cap10)
            have s5 := q1.cell 5 rfl; have f5 := q1.frozen 5
            have q2 := q1.set 5 (.slice (some ⟨g18, 0, none⟩) (p.lines.length + 1) cap18)
            have s6 := q2.cell 6 rfl; have f6 := q2.frozen 6
            refine wpAnyT_all (rs := [28]) (by kernel_rfl) (by simp) hcl ?_
            intro i hi hcl
            obtain rfl := List.mem_singleton.1 hi
            refine op_of (oi := { dst := none, op := _, type := _, pos := _, after := _, guard := _ }) rfl ?_
            go_simp
            try simp only [Act.put, List.setIfInBounds_toArray, List.set_cons_zero, List.set_cons_succ]
            refine wpAnyT_take (S0 := fun _ => True) (i := 29) (oi := { dst := some 63, op := _, type := _, pos := _, after := _, guard := _ }) (v := ?_) rfl (by kernel_rfl) (by kernel_rfl) (by kernel_rfl) (fun _ _ _ h => h) (Stands.free 29) hcl (Or.inl ⟨by rfl, ?_⟩) trivial ?_
            rotate_left 1
            · (intro w hw; go_simp; try with_reducible rfl)
            intro hcl
            try simp only [Act.put, List.setIfInBounds_toArray, List.set_cons_zero, List.set_cons_succ]
            refine wpAnyT_take (S0 := fun _ => True) (i := 30) (oi := { dst := some 64, op := _, type := _, pos := _, after := _, guard := _ }) (v := ?_) rfl (by kernel_rfl) (by kernel_rfl) (by kernel_rfl) (fun _ _ _ h => h) (Stands.free 30) hcl (Or.inl ⟨by rfl, ?_⟩) trivial ?_
            rotate_left 1
            · (intro w hw; go_simp; try with_reducible rfl)
            intro hcl
            try simp only [Act.put, List.setIfInBounds_toArray, List.set_cons_zero, List.set_cons_succ]
            refine wpAnyT_all (rs := [31]) (by kernel_rfl) (by simp) hcl ?_
            intro i hi hcl
            obtain rfl := List.mem_singleton.1 hi
            refine op_of (oi := { dst := none, op := _, type := _, pos := _, after := _, guard := _ }) rfl ?_
            go_simp
            try simp only [Act.put, List.setIfInBounds_toArray, List.set_cons_zero, List.set_cons_succ]
            refine wpAnyT_take (S0 := fun _ => True) (i := 32) (oi := { dst := some 65, op := _, type := _, pos := _, after := _, guard := _ }) (v := ?_) rfl (by kernel_rfl) (by kernel_rfl) (by kernel_rfl) (fun _ _ _ h => h) (Stands.free 32) hcl (Or.inl ⟨by rfl, ?_⟩) trivial ?_
            rotate_left 1
            · (intro w hw; go_simp; try with_reducible rfl)
            intro hcl
            try simp only [Act.put, List.setIfInBounds_toArray, List.set_cons_zero, List.set_cons_succ]
            refine wpAnyT_take (S0 := fun _ => True) (i := 33) (oi := { dst := some 66, op := _, type := _, pos := _, after := _, guard := _ }) (v := ?_) rfl (by kernel_rfl) (by kernel_rfl) (by kernel_rfl) (fun _ _ _ h => h) (Stands.free 33) hcl (Or.inl ⟨by rfl, ?_⟩) trivial ?_
            rotate_left 1
            · (intro w hw; go_simp; try with_reducible rfl)
            intro hcl
            try simp only [Act.put, List.setIfInBounds_toArray, List.set_cons_zero, List.set_cons_succ]
            refine wpAnyT_all (rs := [34]) (by kernel_rfl) (by simp) hcl ?_
            intro i hi hcl
            obtain rfl := List.mem_singleton.1 hi
            refine op_of (oi := { dst := none, op := _, type := _, pos := _, after := _, guard := _ }) rfl ?_
            go_simp
            try simp only [Act.put, List.setIfInBounds_toArray, List.set_cons_zero, List.set_cons_succ]
            refine wpAnyT_done (by kernel_rfl) ?_ _
            have hfin := hM.stored hbase hcsl
            go_wp2_with fail
            exact bodyPost_ret (v := .int .i64 0) (by simp [results, Tryz.results204, go_sem]) rfl ⟨by rw [HS2.out], hfin.2.bel, fun _ => ⟨_, hfin.1, by rw [HS2.out]; exact hfin.2⟩⟩
      · refine op_of (oi := { dst := some 52, op := _, type := _, pos := _, after := _, guard := _ }) rfl ?_
        go_simp
        try simp only [Act.put, List.setIfInBounds_toArray, List.set_cons_zero, List.set_cons_succ]
        have hb52 : Blk (w0.alloc (.cells #[.int .i64 l.n] 3)) w0.heap.size #[.int .i64 l.n] 3 := Blk.new w0 _ _
        have hM := hM.to ((Bel.refl w0).alloc (.cells #[.int .i64 l.n] 3))
        have hsz52 : w0.heap.size ≤ w0.heap.size := hsz
        have hsz : w0.heap.size ≤ (w0.alloc (.cells #[.int .i64 l.n] 3)).heap.size := Nat.le_trans hsz ((Bel.refl w0).alloc (.cells #[.int .i64 l.n] 3)).size
        have hS0 := hSm _ _ _ _ _ _ _ _ _ _ hM
        refine ⟨fun _ _ => hS0, ?_⟩
        generalize (w0.alloc (.cells #[.int .i64 l.n] 3)) = w1 at *
        refine wpAnyT_all (rs := [9, 23]) (by kernel_rfl) (by simp) hcl ?_
        intro i hi hcl
        simp only [List.mem_cons, List.not_mem_nil, or_false] at hi
        rcases hi with rfl | rfl
        · refine op_of (oi := { dst := some 44, op := _, type := _, pos := _, after := _, guard := _ }) rfl ?_
          go_simp
          try simp only [Act.put, List.setIfInBounds_toArray, List.set_cons_zero, List.set_cons_succ]
          have hb44 : Blk (w1.alloc (.cells #[.string lab, .slice none 0 0, .slice none 0 0, .string ⟨#[]⟩] 33)) w1.heap.size #[.string lab, .slice none 0 0, .slice none 0 0, .string ⟨#[]⟩] 33 := Blk.new w1 _ _
          have hb52 := hb52.alloc (.cells #[.string lab, .slice none 0 0, .slice none 0 0, .string ⟨#[]⟩] 33)
          have hM := hM.to ((Bel.refl w1).alloc (.cells #[.string lab, .slice none 0 0, .slice none 0 0, .string ⟨#[]⟩] 33))
          have hsz44 : w0.heap.size ≤ w1.heap.size := hsz
          have hsz : w0.heap.size ≤ (w1.alloc (.cells #[.string lab, .slice none 0 0, .slice none 0 0, .string ⟨#[]⟩] 33)).heap.size := Nat.le_trans hsz ((Bel.refl w1).alloc (.cells #[.string lab, .slice none 0 0, .slice none 0 0, .string ⟨#[]⟩] 33)).size
          have hS0 := hSm _ _ _ _ _ _ _ _ _ _ hM
          refine ⟨fun _ _ => hS0, ?_⟩
          generalize (w1.alloc (.cells #[.string lab, .slice none 0 0, .slice none 0 0, .string ⟨#[]⟩] 33)) = w2 at *
          refine wpAnyT_all (rs := [10, 23]) (by kernel_rfl) (by simp) hcl ?_
          intro i hi hcl
          simp only [List.mem_cons, List.not_mem_nil, or_false] at hi
          rcases hi with rfl | rfl
          · refine op_of (oi := { dst := some 45, op := _, type := _, pos := _, after := _, guard := _ }) rfl ?_
            refine step_app und24 info33 (by rfl) (by decide) (by decide) (by rfl) (.tmp 42) (.tmp 44) (by rfl) (by rfl) hM.rr (m := 1) (news := [Value.string lab, .slice none 0 0, .slice none 0 0, .string ⟨#[]⟩]) (by rfl) (by rfl) hb44.news hone44 (by decide) (by omega) hM.bel.size ?_
            intro g10 cap10 w3 ho10 hg10 hf10 hat10
            try simp only [Act.put, List.setIfInBounds_toArray, List.set_cons_zero, List.set_cons_succ]
            have hb52 := hf10.blk hb52 (.inr (by decide))
            have hM := hM.appR ho10 hg10 hf10 (fun g hg' => by simp [Value.ownBlock] at hg'; subst hg'; exact hat10)
            have hsz : w0.heap.size ≤ w3.heap.size := Nat.le_trans hsz hf10.size
            have hS0 := hSm _ _ _ _ _ _ _ _ _ _ hM
            refine ⟨fun _ _ => hS0, ?_⟩
            refine wpAnyT_all (rs := [18, 23]) (by kernel_rfl) (by simp) hcl ?_
            intro i hi hcl
            simp only [List.mem_cons, List.not_mem_nil, or_false] at hi
            rcases hi with rfl | rfl
            · refine op_of (oi := { dst := some 53, op := _, type := _, pos := _, after := _, guard := _ }) rfl ?_
              refine step_app und27 info3 (by rfl) (by decide) (by decide) (by rfl) (.tmp 49) (.tmp 52) (by rfl) (by rfl) hM.rl (m := 1) (news := [Value.int .i64 l.n]) (by rfl) (by rfl) hb52.news hone52 (by decide) (by omega) hM.bel.size ?_
              intro g18 cap18 w4 ho18 hg18 hf18 hat18
              try simp only [Act.put, List.setIfInBounds_toArray, List.set_cons_zero, List.set_cons_succ]
              have hM := hM.appL ho18 hg18 hf18 (fun g hg' => by simp [Value.ownBlock] at hg'; subst hg'; exact hat18)
              have hsz : w0.heap.size ≤ w4.heap.size := Nat.le_trans hsz hf18.size
              have hS0 := hSm _ _ _ _ _ _ _ _ _ _ hM
              refine ⟨fun _ _ => hS0, ?_⟩
              refine wpAnyT_all (rs := [23]) (by kernel_rfl) (by simp) hcl ?_
              intro i hi hcl
              obtain rfl := List.mem_singleton.1 hi
              refine op_of (oi := { dst := some 58, op := _, type := _, pos := _, after := _, guard := _ }) rfl ?_
              go_simp
              try simp only [Act.put, List.setIfInBounds_toArray, List.set_cons_zero, List.set_cons_succ]
              have hb58 : Blk (w4.alloc (.cells #[.int .i64 0] 3)) w4.heap.size #[.int .i64 0] 3 := Blk.new w4 _ _
              have hb44 := hb44.alloc (.cells #[.int .i64 0] 3)
              have hb52 := hb52.alloc (.cells #[.int .i64 0] 3)
              have hM := hM.to ((Bel.refl w4).alloc (.cells #[.int .i64 0] 3))
              have hsz58 : w0.heap.size ≤ w4.heap.size := hsz
              have hsz : w0.heap.size ≤ (w4.alloc (.cells #[.int .i64 0] 3)).heap.size := Nat.le_trans hsz ((Bel.refl w4).alloc (.cells #[.int .i64 0] 3)).size
              have hS0 := hSm _ _ _ _ _ _ _ _ _ _ hM
              refine ⟨fun _ _ => hS0, ?_⟩
              generalize (w4.alloc (.cells #[.int .i64 0] 3)) = w5 at *
              refine wpAnyT_all (rs := [24]) (by kernel_rfl) (by simp) hcl ?_
              intro i hi hcl
              obtain rfl := List.mem_singleton.1 hi
              refine op_of (oi := { dst := some 59, op := _, type := _, pos := _, after := _, guard := _ }) rfl ?_
              refine step_app und27 info3 (by rfl) (by decide) (by decide) (by rfl) (.tmp 57) (.tmp 58) (by rfl) (by rfl) hM.rj (m := 1) (news := [Value.int .i64 0]) (by rfl) (by rfl) hb58.news hone58 (by decide) (by omega) hM.bel.size ?_
              intro g24 cap24 w6 ho24 hg24 hf24 hat24
              try simp only [Act.put, List.setIfInBounds_toArray, List.set_cons_zero, List.set_cons_succ]
              have hM := hM.appJ ho24 hg24 hf24 (fun g hg' => by simp [Value.ownBlock] at hg'; subst hg'; exact hat24)
              have hsz : w0.heap.size ≤ w6.heap.size := Nat.le_trans hsz hf24.size
              have hS0 := hSm _ _ _ _ _ _ _ _ _ _ hM
              refine ⟨fun _ _ => hS0, ?_⟩
              refine wpAnyT_take (S0 := fun _ => True) (i := 25) (oi := { dst := some 60, op := _, type := _, pos := _, after := _, guard := _ }) (v := ?_) rfl (by kernel_rfl) (by kernel_rfl) (by kernel_rfl) (fun _ _ _ h => h) (Stands.free 25) hcl (Or.inl ⟨by rfl, ?_⟩) trivial ?_
              rotate_left 1
              · (intro w hw; go_simp; try with_reducible rfl)
              intro hcl
              try simp only [Act.put, List.setIfInBounds_toArray, List.set_cons_zero, List.set_cons_succ]
              refine wpAnyT_take (S0 := fun _ => True) (i := 26) (oi := { dst := some 61, op := _, type := _, pos := _, after := _, guard := _ }) (v := ?_) rfl (by kernel_rfl) (by kernel_rfl) (by kernel_rfl) (fun _ _ _ h => h) (Stands.free 26) hcl (Or.inl ⟨by rfl, ?_⟩) trivial ?_
              rotate_left 1
              · (intro w hw; go_simp; try with_reducible rfl)
              intro hcl
              try simp only [Act.put, List.setIfInBounds_toArray, List.set_cons_zero, List.set_cons_succ]
              refine wpAnyT_take (S0 := fun _ => True) (i := 27) (oi := { dst := some 62, op := _, type := _, pos := _, after := _, guard := _ }) (v := ?_) rfl (by kernel_rfl) (by kernel_rfl) (by kernel_rfl) (fun _ _ _ h => h) (Stands.free 27) hcl (Or.inl ⟨by rfl, ?_⟩) trivial ?_
              rotate_left 1
              · (intro w hw; go_simp; try with_reducible rfl)
              intro hcl
              try simp only [Act.put, List.setIfInBounds_toArray, List.set_cons_zero, List.set_cons_succ]
              have s3 := hM.q.cell 3 rfl; have f3 := hM.q.frozen 3
              have q1 := hM.q.set 3 (.slice (some ⟨g10, 0, none⟩) (p.rungs.length + 1) cap10)
              have s5 := q1.cell 5 rfl; have f5 := q1.frozen 5
              have q2 := q1.set 5 (.slice (some ⟨g18, 0, none⟩) (p.lines.length + 1) cap18)
              have s6 := q2.cell 6 rfl; have f6 := q2.frozen 6
              refine wpAnyT_all (rs := [28]) (by kernel_rfl) (by simp) hcl ?_
              intro i hi hcl
              obtain rfl := List.mem_singleton.1 hi
              refine op_of (oi := { dst := none, op := _, type := _, pos := _, after := _, guard := _ }) rfl ?_
              go_simp
              try simp only [Act.put, List.setIfInBounds_toArray, List.set_cons_zero, List.set_cons_succ]
              refine wpAnyT_take (S0 := fun _ => True) (i := 29) (oi := { dst := some 63, op := _, type := _, pos := _, after := _, guard := _ }) (v := ?_) rfl (by kernel_rfl) (by kernel_rfl) (by kernel_rfl) (fun _ _ _ h => h) (Stands.free 29) hcl (Or.inl ⟨by rfl, ?_⟩) trivial ?_
              rotate_left 1
              · (intro w hw; go_simp; try with_reducible rfl)
              intro hcl
              try simp only [Act.put, List.setIfInBounds_toArray, List.set_cons_zero, List.set_cons_succ]
              refine wpAnyT_take (S0 := fun _ => True) (i := 30) (oi := { dst := some 64, op := _, type := _, pos := _, after := _, guard := _ }) (v := ?_) rfl (by kernel_rfl) (by kernel_rfl) (by kernel_rfl) (fun _ _ _ h => h) (Stands.free 30) hcl (Or.inl ⟨by rfl, ?_⟩) trivial ?_
              rotate_left 1
              · (intro w hw; go_simp; try with_reducible rfl)
              intro hcl
              try simp only [Act.put, List.setIfInBounds_toArray, List.set_cons_zero, List.set_cons_succ]
              refine wpAnyT_all (rs := [31]) (by kernel_rfl) (by simp) hcl ?_
              intro i hi hcl
              obtain rfl := List.mem_singleton.1 hi
              refine op_of (oi := { dst := none, op := _, type := _, pos := _, after := _, guard := _ }) rfl ?_
              go_simp
              try simp only [Act.put, List.setIfInBounds_toArray, List.set_cons_zero, List.set_cons_succ]
              refine wpAnyT_take (S0 := fun _ => True) (i := 32) (oi := { dst := some 65, op := _, type := _, pos := _, after := _, guard := _ }) (v := ?_) rfl (by kernel_rfl) (by kernel_rfl) (by kernel_rfl) (fun _ _ _ h => h) (Stands.free 32) hcl (Or.inl ⟨by rfl, ?_⟩) trivial ?_
              rotate_left 1
              · (intro w hw; go_simp; try with_reducible rfl)
              intro hcl
              try simp only [Act.put, List.setIfInBounds_toArray, List.set_cons_zero, List.set_cons_succ]
              refine wpAnyT_take (S0 := fun _ => True) (i := 33) (oi := { dst := some 66, op := _, type := _, pos := _, after := _, guard := _ }) (v := ?_) rfl (by kernel_rfl) (by kernel_rfl) (by kernel_rfl) (fun _ _ _ h => h) (Stands.free 33) hcl (Or.inl ⟨by rfl, ?_⟩) trivial ?_
              rotate_left 1
              · (intro w hw; go_simp; try with_reducible rfl)
              intro hcl
              try simp only [Act.put, List.setIfInBounds_toArray, List.set_cons_zero, List.set_cons_succ]
              refine wpAnyT_all (rs := [34]) (by kernel_rfl) (by simp) hcl ?_
              intro i hi hcl
              obtain rfl := List.mem_singleton.1 hi
              refine op_of (oi := { dst := none, op := _, type := _, pos := _, after := _, guard := _ }) rfl ?_
              go_simp
              try simp only [Act.put, List.setIfInBounds_toArray, List.set_cons_zero, List.set_cons_succ]
              refine wpAnyT_done (by kernel_rfl) ?_ _
              have hfin := hM.stored hbase hcsl
              go_wp2_with fail
              exact bodyPost_ret (v := .int .i64 0) (by simp [results, Tryz.results204, go_sem]) rfl ⟨by rw [HS2.out], hfin.2.bel, fun _ => ⟨_, hfin.1, by rw [HS2.out]; exact hfin.2⟩⟩
            · refine op_of (oi := { dst := some 58, op := _, type := _, pos := _, after := _, guard := _ }) rfl ?_
              go_simp
              try simp only [Act.put, List.setIfInBounds_toArray, List.set_cons_zero, List.set_cons_succ]
              have hb58 : Blk (w3.alloc (.cells #[.int .i64 0] 3)) w3.heap.size #[.int .i64 0] 3 := Blk.new w3 _ _
              have hb44 := hb44.alloc (.cells #[.int .i64 0] 3)
              have hb52 := hb52.alloc (.cells #[.int .i64 0] 3)
              have hM := hM.to ((Bel.refl w3).alloc (.cells #[.int .i64 0] 3))
              have hsz58 : w0.heap.size ≤ w3.heap.size := hsz
              have hsz : w0.heap.size ≤ (w3.alloc (.cells #[.int .i64 0] 3)).heap.size := Nat.le_trans hsz ((Bel.refl w3).alloc (.cells #[.int .i64 0] 3)).size
              have hS0 := hSm _ _ _ _ _ _ _ _ _ _ hM
              refine ⟨fun _ _ => hS0, ?_⟩
              generalize (w3.alloc (.cells #[.int .i64 0] 3)) = w4 at *
              refine wpAnyT_all (rs := [18]) (by kernel_rfl) (by simp) hcl ?_
              intro i hi hcl
              obtain rfl := List.mem_singleton.1 hi
              refine op_of (oi := { dst := some 53, op := _, type := _, pos := _, after := _, guard := _ }) rfl ?_
              refine step_app und27 info3 (by rfl) (by decide) (by decide) (by rfl) (.tmp 49) (.tmp 52) (by rfl) (by rfl) hM.rl (m := 1) (news := [Value.int .i64 l.n]) (by rfl) (by rfl) hb52.news hone52 (by decide) (by omega) hM.bel.size ?_
              intro g18 cap18 w5 ho18 hg18 hf18 hat18
              try simp only [Act.put, List.setIfInBounds_toArray, List.set_cons_zero, List.set_cons_succ]
              have hb58 := grown_blk hb58 hg18 (fun e => by have := hAl _ e.symm; omega)
              have hM := hM.appL ho18 hg18 hf18 (fun g hg' => by simp [Value.ownBlock] at hg'; subst hg'; exact hat18)
              have hsz : w0.heap.size ≤ w5.heap.size := Nat.le_trans hsz hf18.size
              have hS0 := hSm _ _ _ _ _ _ _ _ _ _ hM
              refine ⟨fun _ _ => hS0, ?_⟩
              refine wpAnyT_all (rs := [24]) (by kernel_rfl) (by simp) hcl ?_
              intro i hi hcl
              obtain rfl := List.mem_singleton.1 hi
              refine op_of (oi := { dst := some 59, op := _, type := _, pos := _, after := _, guard := _ }) rfl ?_
              refine step_app und27 info3 (by rfl) (by decide) (by decide) (by rfl) (.tmp 57) (.tmp 58) (by rfl) (by rfl) hM.rj (m := 1) (news := [Value.int .i64 0]) (by rfl) (by rfl) hb58.news hone58 (by decide) (by omega) hM.bel.size ?_
              intro g24 cap24 w6 ho24 hg24 hf24 hat24
              try simp only [Act.put, List.setIfInBounds_toArray, List.set_cons_zero, List.set_cons_succ]
              have hM := hM.appJ ho24 hg24 hf24 (fun g hg' => by simp [Value.ownBlock] at hg'; subst hg'; exact hat24)
              have hsz : w0.heap.size ≤ w6.heap.size := Nat.le_trans hsz hf24.size
              have hS0 := hSm _ _ _ _ _ _ _ _ _ _ hM
              refine ⟨fun _ _ => hS0, ?_⟩
              refine wpAnyT_take (S0 := fun _ => True) (i := 25) (oi := { dst := some 60, op := _, type := _, pos := _, after := _, guard := _ }) (v := ?_) rfl (by kernel_rfl) (by kernel_rfl) (by kernel_rfl) (fun _ _ _ h => h) (Stands.free 25) hcl (Or.inl ⟨by rfl, ?_⟩) trivial ?_
              rotate_left 1
              · (intro w hw; go_simp; try with_reducible rfl)
              intro hcl
              try simp only [Act.put, List.setIfInBounds_toArray, List.set_cons_zero, List.set_cons_succ]
              refine wpAnyT_take (S0 := fun _ => True) (i := 26) (oi := { dst := some 61, op := _, type := _, pos := _, after := _, guard := _ }) (v := ?_) rfl (by kernel_rfl) (by kernel_rfl) (by kernel_rfl) (fun _ _ _ h => h) (Stands.free 26) hcl (Or.inl ⟨by rfl, ?_⟩) trivial ?_
              rotate_left 1
              · (intro w hw; go_simp; try with_reducible rfl)
              intro hcl
              try simp only [Act.put, List.setIfInBounds_toArray, List.set_cons_zero, List.set_cons_succ]
              refine wpAnyT_take (S0 := fun _ => True) (i := 27) (oi := { dst := some 62, op := _, type := _, pos := _, after := _, guard := _ }) (v := ?_) rfl (by kernel_rfl) (by kernel_rfl) (by kernel_rfl) (fun _ _ _ h => h) (Stands.free 27) hcl (Or.inl ⟨by rfl, ?_⟩) trivial ?_
              rotate_left 1
              · (intro w hw; go_simp; try with_reducible rfl)
              intro hcl
              try simp only [Act.put, List.setIfInBounds_toArray, List.set_cons_zero, List.set_cons_succ]
              have s3 := hM.q.cell 3 rfl; have f3 := hM.q.frozen 3
              have q1 := hM.q.set 3 (.slice (some ⟨g10, 0, none⟩) (p.rungs.length + 1) cap10)
              have s5 := q1.cell 5 rfl; have f5 := q1.frozen 5
              have q2 := q1.set 5 (.slice (some ⟨g18, 0, none⟩) (p.lines.length + 1) cap18)
              have s6 := q2.cell 6 rfl; have f6 := q2.frozen 6
              refine wpAnyT_all (rs := [28]) (by kernel_rfl) (by simp) hcl ?_
              intro i hi hcl
              obtain rfl := List.mem_singleton.1 hi
              refine op_of (oi := { dst := none, op := _, type := _, pos := _, after := _, guard := _ }) rfl ?_
              go_simp
              try simp only [Act.put, List.setIfInBounds_toArray, List.set_cons_zero, List.set_cons_succ]
              refine wpAnyT_take (S0 := fun _ => True) (i := 29) (oi := { dst := some 63, op := _, type := _, pos := _, after := _, guard := _ }) (v := ?_) rfl (by kernel_rfl) (by kernel_rfl) (by kernel_rfl) (fun _ _ _ h => h) (Stands.free 29) hcl (Or.inl ⟨by rfl, ?_⟩) trivial ?_
              rotate_left 1
              · (intro w hw; go_simp; try with_reducible rfl)
              intro hcl
              try simp only [Act.put, List.setIfInBounds_toArray, List.set_cons_zero, List.set_cons_succ]
              refine wpAnyT_take (S0 := fun _ => True) (i := 30) (oi := { dst := some 64, op := _, type := _, pos := _, after := _, guard := _ }) (v := ?_) rfl (by kernel_rfl) (by kernel_rfl) (by kernel_rfl) (fun _ _ _ h => h) (Stands.free 30) hcl (Or.inl ⟨by rfl, ?_⟩) trivial ?_
              rotate_left 1
              · (intro w hw; go_simp; try with_reducible rfl)
              intro hcl
              try simp only [Act.put, List.setIfInBounds_toArray, List.set_cons_zero, List.set_cons_succ]
              refine wpAnyT_all (rs := [31]) (by kernel_rfl) (by simp) hcl ?_
              intro i hi hcl
              obtain rfl := List.mem_singleton.1 hi
              refine op_of (oi := { dst := none, op := _, type := _, pos := _, after := _, guard := _ }) rfl ?_
              go_simp
              try simp only [Act.put, List.setIfInBounds_toArray, List.set_cons_zero, List.set_cons_succ]
              refine wpAnyT_take (S0 := fun _ => True) (i := 32) (oi := { dst := some 65, op := _, type := _, pos := _, after := _, guard := _ }) (v := ?_) rfl (by kernel_rfl) (by kernel_rfl) (by kernel_rfl) (fun _ _ _ h => h) (Stands.free 32) hcl (Or.inl ⟨by rfl, ?_⟩) trivial ?_
              rotate_left 1
              · (intro w hw; go_simp; try with_reducible rfl)
              intro hcl
              try simp only [Act.put, List.setIfInBounds_toArray, List.set_cons_zero, List.set_cons_succ]
              refine wpAnyT_take (S0 := fun _ => True) (i := 33) (oi := { dst := some 66, op := _, type := _, pos := _, after := _, guard := _ }) (v := ?_) rfl (by kernel_rfl) (by kernel_rfl) (by kernel_rfl) (fun _ _ _ h => h) (Stands.free 33) hcl (Or.inl ⟨by rfl, ?_⟩) trivial ?_
              rotate_left 1
              · (intro w hw; go_simp; try with_reducible rfl)
              intro hcl
              try simp only [Act.put, List.setIfInBounds_toArray, List.set_cons_zero, List.set_cons_succ]
              refine wpAnyT_all (rs := [34]) (by kernel_rfl) (by simp) hcl ?_
              intro i hi hcl
              obtain rfl := List.mem_singleton.1 hi
              refine op_of (oi := { dst := none, op := _, type := _, pos := _, after := _, guard := _ }) rfl ?_
              go_simp
              try simp only [Act.put, List.setIfInBounds_toArray, List.set_cons_zero, List.set_cons_succ]
              refine wpAnyT_done (by kernel_rfl) ?_ _
              have hfin := hM.stored hbase hcsl
              go_wp2_with fail
              exact bodyPost_ret (v := .int .i64 0) (by simp [results, Tryz.results204, go_sem]) rfl ⟨by rw [HS2.out], hfin.2.bel, fun _ => ⟨_, hfin.1, by rw [HS2.out]; exact hfin.2⟩⟩
          · refine op_of (oi := { dst := some 58, op := _, type := _, pos := _, after := _, guard := _ }) rfl ?_
            go_simp
            try simp only [Act.put, List.setIfInBounds_toArray, List.set_cons_zero, List.set_cons_succ]
            have hb58 : Blk (w2.alloc (.cells #[.int .i64 0] 3)) w2.heap.size #[.int .i64 0] 3 := Blk.new w2 _ _
            have hb44 := hb44.alloc (.cells #[.int .i64 0] 3)
            have hb52 := hb52.alloc (.cells #[.int .i64 0] 3)
            have hM := hM.to ((Bel.refl w2).alloc (.cells #[.int .i64 0] 3))
            have hsz58 : w0.heap.size ≤ w2.heap.size := hsz
            have hsz : w0.heap.size ≤ (w2.alloc (.cells #[.int .i64 0] 3)).heap.size := Nat.le_trans hsz ((Bel.refl w2).alloc (.cells #[.int .i64 0] 3)).size
            have hS0 := hSm _ _ _ _ _ _ _ _ _ _ hM
            refine ⟨fun _ _ => hS0, ?_⟩
            generalize (w2.alloc (.cells #[.int .i64 0] 3)) = w3 at *
            refine wpAnyT_all (rs := [10]) (by kernel_rfl) (by simp) hcl ?_
            intro i hi hcl
            obtain rfl := List.mem_singleton.1 hi
            refine op_of (oi := { dst := some 45, op := _, type := _, pos := _, after := _, guard := _ }) rfl ?_
            refine step_app und24 info33 (by rfl) (by decide) (by decide) (by rfl) (.tmp 42) (.tmp 44) (by rfl) (by rfl) hM.rr (m := 1) (news := [Value.string lab, .slice none 0 0, .slice none 0 0, .string ⟨#[]⟩]) (by rfl) (by rfl) hb44.news hone44 (by decide) (by omega) hM.bel.size ?_
            intro g10 cap10 w4 ho10 hg10 hf10 hat10
            try simp only [Act.put, List.setIfInBounds_toArray, List.set_cons_zero, List.set_cons_succ]
            have hb52 := hf10.blk hb52 (.inr (by decide))
            have hb58 := hf10.blk hb58 (.inr (by decide))
            have hM := hM.appR ho10 hg10 hf10 (fun g hg' => by simp [Value.ownBlock] at hg'; subst hg'; exact hat10)
            have hsz : w0.heap.size ≤ w4.heap.size := Nat.le_trans hsz hf10.size
            have hS0 := hSm _ _ _ _ _ _ _ _ _ _ hM
            refine ⟨fun _ _ => hS0, ?_⟩
            refine wpAnyT_all (rs := [18]) (by kernel_rfl) (by simp) hcl ?_
            intro i hi hcl
            obtain rfl := List.mem_singleton.1 hi
            refine op_of (oi := { dst := some 53, op := _, type := _, pos := _, after := _, guard := _ }) rfl ?_
            refine step_app und27 info3 (by rfl) (by decide) (by decide) (by rfl) (.tmp 49) (.tmp 52) (by rfl) (by rfl) hM.rl (m := 1) (news := [Value.int .i64 l.n]) (by rfl) (by rfl) hb52.news hone52 (by decide) (by omega) hM.bel.size ?_
            intro g18 cap18 w5 ho18 hg18 hf18 hat18
            try simp only [Act.put, List.setIfInBounds_toArray, List.set_cons_zero, List.set_cons_succ]
            have hb58 := grown_blk hb58 hg18 (fun e => by have := hAl _ e.symm; omega)
            have hM := hM.appL ho18 hg18 hf18 (fun g hg' => by simp [Value.ownBlock] at hg'; subst hg'; exact hat18)
            have hsz : w0.heap.size ≤ w5.heap.size := Nat.le_trans hsz hf18.size
            have hS0 := hSm _ _ _ _ _ _ _ _ _ _ hM
            refine ⟨fun _ _ => hS0, ?_⟩
            refine wpAnyT_all (rs := [24]) (by kernel_rfl) (by simp) hcl ?_
            intro i hi hcl
            obtain rfl := List.mem_singleton.1 hi
            refine op_of (oi := { dst := some 59, op := _, type := _, pos := _, after := _, guard := _ }) rfl ?_
            refine step_app und27 info3 (by rfl) (by decide) (by decide) (by rfl) (.tmp 57) (.tmp 58) (by rfl) (by rfl) hM.rj (m := 1) (news := [Value.int .i64 0]) (by rfl) (by rfl) hb58.news hone58 (by decide) (by omega) hM.bel.size ?_
            intro g24 cap24 w6 ho24 hg24 hf24 hat24
            try simp only [Act.put, List.setIfInBounds_toArray, List.set_cons_zero, List.set_cons_succ]
            have hM := hM.appJ ho24 hg24 hf24 (fun g hg' => by simp [Value.ownBlock] at hg'; subst hg'; exact hat24)
            have hsz : w0.heap.size ≤ w6.heap.size := Nat.le_trans hsz hf24.size
            have hS0 := hSm _ _ _ _ _ _ _ _ _ _ hM
            refine ⟨fun _ _ => hS0, ?_⟩
            refine wpAnyT_take (S0 := fun _ => True) (i := 25) (oi := { dst := some 60, op := _, type := _, pos := _, after := _, guard := _ }) (v := ?_) rfl (by kernel_rfl) (by kernel_rfl) (by kernel_rfl) (fun _ _ _ h => h) (Stands.free 25) hcl (Or.inl ⟨by rfl, ?_⟩) trivial ?_
            rotate_left 1
            · (intro w hw; go_simp; try with_reducible rfl)
            intro hcl
            try simp only [Act.put, List.setIfInBounds_toArray, List.set_cons_zero, List.set_cons_succ]
            refine wpAnyT_take (S0 := fun _ => True) (i := 26) (oi := { dst := some 61, op := _, type := _, pos := _, after := _, guard := _ }) (v := ?_) rfl (by kernel_rfl) (by kernel_rfl) (by kernel_rfl) (fun _ _ _ h => h) (Stands.free 26) hcl (Or.inl ⟨by rfl, ?_⟩) trivial ?_
            rotate_left 1
            · (intro w hw; go_simp; try with_reducible rfl)
            intro hcl
            try simp only [Act.put, List.setIfInBounds_toArray, List.set_cons_zero, List.set_cons_succ]
            refine wpAnyT_take (S0 := fun _ => True) (i := 27) (oi := { dst := some 62, op := _, type := _, pos := _, after := _, guard := _ }) (v := ?_) rfl (by kernel_rfl) (by kernel_rfl) (by kernel_rfl) (fun _ _ _ h => h) (Stands.free 27) hcl (Or.inl ⟨by rfl, ?_⟩) trivial ?_
            rotate_left 1
            · (intro w hw; go_simp; try with_reducible rfl)
            intro hcl
            try simp only [Act.put, List.setIfInBounds_toArray, List.set_cons_zero, List.set_cons_succ]
            have s3 := hM.q.cell 3 rfl; have f3 := hM.q.frozen 3
            have q1 := hM.q.set 3 (.slice (some ⟨g10, 0, none⟩) (p.rungs.length + 1) cap10)
            have s5 := q1.cell 5 rfl; have f5 := q1.frozen 5
            have q2 := q1.set 5 (.slice (some ⟨g18, 0, none⟩) (p.lines.length + 1) cap18)
            have s6 := q2.cell 6 rfl; have f6 := q2.frozen 6
            refine wpAnyT_all (rs := [28]) (by kernel_rfl) (by simp) hcl ?_
            intro i hi hcl
            obtain rfl := List.mem_singleton.1 hi
            refine op_of (oi := { dst := none, op := _, type := _, pos := _, after := _, guard := _ }) rfl ?_
            go_simp
            try simp only [Act.put, List.setIfInBounds_toArray, List.set_cons_zero, List.set_cons_succ]
            refine wpAnyT_take (S0 := fun _ => True) (i := 29) (oi := { dst := some 63, op := _, type := _, pos := _, after := _, guard := _ }) (v := ?_) rfl (by kernel_rfl) (by kernel_rfl) (by kernel_rfl) (fun _ _ _ h => h) (Stands.free 29) hcl (Or.inl ⟨by rfl, ?_⟩) trivial ?_
            rotate_left 1
            · (intro w hw; go_simp; try with_reducible rfl)
            intro hcl
            try simp only [Act.put, List.setIfInBounds_toArray, List.set_cons_zero, List.set_cons_succ]
            refine wpAnyT_take (S0 := fun _ => True) (i := 30) (oi := { dst := some 64, op := _, type := _, pos := _, after := _, guard := _ }) (v := ?_) rfl (by kernel_rfl) (by kernel_rfl) (by kernel_rfl) (fun _ _ _ h => h) (Stands.free 30) hcl (Or.inl ⟨by rfl, ?_⟩) trivial ?_
            rotate_left 1
            · (intro w hw; go_simp; try with_reducible rfl)
            intro hcl
            try simp only [Act.put, List.setIfInBounds_toArray, List.set_cons_zero, List.set_cons_succ]
            refine wpAnyT_all (rs := [31]) (by kernel_rfl) (by simp) hcl ?_
            intro i hi hcl
            obtain rfl := List.mem_singleton.1 hi
            refine op_of (oi := { dst := none, op := _, type := _, pos := _, after := _, guard := _ }) rfl ?_
            go_simp
            try simp only [Act.put, List.setIfInBounds_toArray, List.set_cons_zero, List.set_cons_succ]
            refine wpAnyT_take (S0 := fun _ => True) (i := 32) (oi := { dst := some 65, op := _, type := _, pos := _, after := _, guard := _ }) (v := ?_) rfl (by kernel_rfl) (by kernel_rfl) (by kernel_rfl) (fun _ _ _ h => h) (Stands.free 32) hcl (Or.inl ⟨by rfl, ?_⟩) trivial ?_
            rotate_left 1
            · (intro w hw; go_simp; try with_reducible rfl)
            intro hcl
            try simp only [Act.put, List.setIfInBounds_toArray, List.set_cons_zero, List.set_cons_succ]
            refine wpAnyT_take (S0 := fun _ => True) (i := 33) (oi := { dst := some 66, op := _, type := _, pos := _, after := _, guard := _ }) (v := ?_) rfl (by kernel_rfl) (by kernel_rfl) (by kernel_rfl) (fun _ _ _ h => h) (Stands.free 33) hcl (Or.inl ⟨by rfl, ?_⟩) trivial ?_
            rotate_left 1
            · (intro w hw; go_simp; try with_reducible rfl)
            intro hcl
            try simp only [Act.put, List.setIfInBounds_toArray, List.set_cons_zero, List.set_cons_succ]
            refine wpAnyT_all (rs := [34]) (by kernel_rfl) (by simp) hcl ?_
            intro i hi hcl
            obtain rfl := List.mem_singleton.1 hi
            refine op_of (oi := { dst := none, op := _, type := _, pos := _, after := _, guard := _ }) rfl ?_
            go_simp
            try simp only [Act.put, List.setIfInBounds_toArray, List.set_cons_zero, List.set_cons_succ]
            refine wpAnyT_done (by kernel_rfl) ?_ _
            have hfin := hM.stored hbase hcsl
            go_wp2_with fail
            exact bodyPost_ret (v := .int .i64 0) (by simp [results, Tryz.results204, go_sem]) rfl ⟨by rw [HS2.out], hfin.2.bel, fun _ => ⟨_, hfin.1, by rw [HS2.out]; exact hfin.2⟩⟩
        · refine op_of (oi := { dst := some 58, op := _, type := _, pos := _, after := _, guard := _ }) rfl ?_
          go_simp
          try simp only [Act.put, List.setIfInBounds_toArray, List.set_cons_zero, List.set_cons_succ]
          have hb58 : Blk (w1.alloc (.cells #[.int .i64 0] 3)) w1.heap.size #[.int .i64 0] 3 := Blk.new w1 _ _
          have hb52 := hb52.alloc (.cells #[.int .i64 0] 3)
          have hM := hM.to ((Bel.refl w1).alloc (.cells #[.int .i64 0] 3))
          have hsz58 : w0.heap.size ≤ w1.heap.size := hsz
          have hsz : w0.heap.size ≤ (w1.alloc (.cells #[.int .i64 0] 3)).heap.size := Nat.le_trans hsz ((Bel.refl w1).alloc (.cells #[.int .i64 0] 3)).size
          have hS0 := hSm _ _ _ _ _ _ _ _ _ _ hM
          refine ⟨fun _ _ => hS0, ?_⟩
          generalize (w1.alloc (.cells #[.int .i64 0] 3)) = w2 at *
          refine wpAnyT_all (rs := [9]) (by kernel_rfl) (by simp) hcl ?_
          intro i hi hcl
          obtain rfl := List.mem_singleton.1 hi
          refine op_of (oi := { dst := some 44, op := _, type := _, pos := _, after := _, guard := _ }) rfl ?_
          go_simp
          try simp only [Act.put, List.setIfInBounds_toArray, List.set_cons_zero, List.set_cons_succ]
          have hb44 : Blk (w2.alloc (.cells #[.string lab, .slice none 0 0, .slice none 0 0, .string ⟨#[]⟩] 33)) w2.heap.size #[.string lab, .slice none 0 0, .slice none 0 0, .string ⟨#[]⟩] 33 := Blk.new w2 _ _
          have hb52 := hb52.alloc (.cells #[.string lab, .slice none 0 0, .slice none 0 0, .string ⟨#[]⟩] 33)
          have hb58 := hb58.alloc (.cells #[.string lab, .slice none 0 0, .slice none 0 0, .string ⟨#[]⟩] 33)
          have hM := hM.to ((Bel.refl w2).alloc (.cells #[.string lab, .slice none 0 0, .slice none 0 0, .string ⟨#[]⟩] 33))
          have hsz44 : w0.heap.size ≤ w2.heap.size := hsz
          have hsz : w0.heap.size ≤ (w2.alloc (.cells #[.string lab, .slice none 0 0, .slice none 0 0, .string ⟨#[]⟩] 33)).heap.size := Nat.le_trans hsz ((Bel.refl w2).alloc (.cells #[.string lab, .slice none 0 0, .slice none 0 0, .string ⟨#[]⟩] 33)).size
          have hS0 := hSm _ _ _ _ _ _ _ _ _ _ hM
          refine ⟨fun _ _ => hS0, ?_⟩
          generalize (w2.alloc (.cells #[.string lab, .slice none 0 0, .slice none 0 0, .string ⟨#[]⟩] 33)) = w3 at *
          refine wpAnyT_all (rs := [10]) (by kernel_rfl) (by simp) hcl ?_
          intro i hi hcl
          obtain rfl := List.mem_singleton.1 hi
          refine op_of (oi := { dst := some 45, op := _, type := _, pos := _, after := _, guard := _ }) rfl ?_
          refine step_app und24 info33 (by rfl) (by decide) (by decide) (by rfl) (.tmp 42) (.tmp 44) (by rfl) (by rfl) hM.rr (m := 1) (news := [Value.string lab, .slice none 0 0, .slice none 0 0, .string ⟨#[]⟩]) (by rfl) (by rfl) hb44.news hone44 (by decide) (by omega) hM.bel.size ?_
          intro g10 cap10 w4 ho10 hg10 hf10 hat10
          try simp only [Act.put, List.setIfInBounds_toArray, List.set_cons_zero, List.set_cons_succ]
          have hb52 := hf10.blk hb52 (.inr (by decide))
          have hb58 := hf10.blk hb58 (.inr (by decide))
          have hM := hM.appR ho10 hg10 hf10 (fun g hg' => by simp [Value.ownBlock] at hg'; subst hg'; exact hat10)
          have hsz : w0.heap.size ≤ w4.heap.size := Nat.le_trans hsz hf10.size
          have hS0 := hSm _ _ _ _ _ _ _ _ _ _ hM
          refine ⟨fun _ _ => hS0, ?_⟩
          refine wpAnyT_all (rs := [18]) (by kernel_rfl) (by simp) hcl ?_
          intro i hi hcl
          obtain rfl := List.mem_singleton.1 hi
          refine op_of (oi := { dst := some 53, op := _, type := _, pos := _, after := _, guard := _ }) rfl ?_
          refine step_app und27 info3 (by rfl) (by decide) (by decide) (by rfl) (.tmp 49) (.tmp 52) (by rfl) (by rfl) hM.rl (m := 1) (news := [Value.int .i64 l.n]) (by rfl) (by rfl) hb52.news hone52 (by decide) (by omega) hM.bel.size ?_
          intro g18 cap18 w5 ho18 hg18 hf18 hat18
          try simp only [Act.put, List.setIfInBounds_toArray, List.set_cons_zero, List.set_cons_succ]
          have hb58 := grown_blk hb58 hg18 (fun e => by have := hAl _ e.symm; omega)
          have hM := hM.appL ho18 hg18 hf18 (fun g hg' => by simp [Value.ownBlock] at hg'; subst hg'; exact hat18)
          have hsz : w0.heap.size ≤ w5.heap.size := Nat.le_trans hsz hf18.size
          have hS0 := hSm _ _ _ _ _ _ _ _ _ _ hM
          refine ⟨fun _ _ => hS0, ?_⟩
          refine wpAnyT_all (rs := [24]) (by kernel_rfl) (by simp) hcl ?_
          intro i hi hcl
          obtain rfl := List.mem_singleton.1 hi
          refine op_of (oi := { dst := some 59, op := _, type := _, pos := _, after := _, guard := _ }) rfl ?_
          refine step_app und27 info3 (by rfl) (by decide) (by decide) (by rfl) (.tmp 57) (.tmp 58) (by rfl) (by rfl) hM.rj (m := 1) (news := [Value.int .i64 0]) (by rfl) (by rfl) hb58.news hone58 (by decide) (by omega) hM.bel.size ?_
          intro g24 cap24 w6 ho24 hg24 hf24 hat24
          try simp only [Act.put, List.setIfInBounds_toArray, List.set_cons_zero, List.set_cons_succ]
          have hM := hM.appJ ho24 hg24 hf24 (fun g hg' => by simp [Value.ownBlock] at hg'; subst hg'; exact hat24)
          have hsz : w0.heap.size ≤ w6.heap.size := Nat.le_trans hsz hf24.size
          have hS0 := hSm _ _ _ _ _ _ _ _ _ _ hM
          refine ⟨fun _ _ => hS0, ?_⟩
          refine wpAnyT_take (S0 := fun _ => True) (i := 25) (oi := { dst := some 60, op := _, type := _, pos := _, after := _, guard := _ }) (v := ?_) rfl (by kernel_rfl) (by kernel_rfl) (by kernel_rfl) (fun _ _ _ h => h) (Stands.free 25) hcl (Or.inl ⟨by rfl, ?_⟩) trivial ?_
          rotate_left 1
          · (intro w hw; go_simp; try with_reducible rfl)
          intro hcl
          try simp only [Act.put, List.setIfInBounds_toArray, List.set_cons_zero, List.set_cons_succ]
          refine wpAnyT_take (S0 := fun _ => True) (i := 26) (oi := { dst := some 61, op := _, type := _, pos := _, after := _, guard := _ }) (v := ?_) rfl (by kernel_rfl) (by kernel_rfl) (by kernel_rfl) (fun _ _ _ h => h) (Stands.free 26) hcl (Or.inl ⟨by rfl, ?_⟩) trivial ?_
          rotate_left 1
          · (intro w hw; go_simp; try with_reducible rfl)
          intro hcl
          try simp only [Act.put, List.setIfInBounds_toArray, List.set_cons_zero, List.set_cons_succ]
          refine wpAnyT_take (S0 := fun _ => True) (i := 27) (oi := { dst := some 62, op := _, type := _, pos := _, after := _, guard := _ }) (v := ?_) rfl (by kernel_rfl) (by kernel_rfl) (by kernel_rfl) (fun _ _ _ h => h) (Stands.free 27) hcl (Or.inl ⟨by rfl, ?_⟩) trivial ?_
          rotate_left 1
          · (intro w hw; go_simp; try with_reducible rfl)
          intro hcl
          try simp only [Act.put, List.setIfInBounds_toArray, List.set_cons_zero, List.set_cons_succ]
          have s3 := hM.q.cell 3 rfl; have f3 := hM.q.frozen 3
          have q1 := hM.q.set 3 (.slice (some ⟨g10, 0, none⟩) (p.rungs.length + 1) cap10)
          have s5 := q1.cell 5 rfl; have f5 := q1.frozen 5
          have q2 := q1.set 5 (.slice (some ⟨g18, 0, none⟩) (p.lines.length + 1) cap18)
          have s6 := q2.cell 6 rfl; have f6 := q2.frozen 6
          refine wpAnyT_all (rs := [28]) (by kernel_rfl) (by simp) hcl ?_
          intro i hi hcl
          obtain rfl := List.mem_singleton.1 hi
          refine op_of (oi := { dst := none, op := _, type := _, pos := _, after := _, guard := _ }) rfl ?_
          go_simp
          try simp only [Act.put, List.setIfInBounds_toArray, List.set_cons_zero, List.set_cons_succ]
          refine wpAnyT_take (S0 := fun _ => True) (i := 29) (oi := { dst := some 63, op := _, type := _, pos := _, after := _, guard := _ }) (v := ?_) rfl (by kernel_rfl) (by kernel_rfl) (by kernel_rfl) (fun _ _ _ h => h) (Stands.free 29) hcl (Or.inl ⟨by rfl, ?_⟩) trivial ?_
          rotate_left 1
          · (intro w hw; go_simp; try with_reducible rfl)
          intro hcl
          try simp only [Act.put, List.setIfInBounds_toArray, List.set_cons_zero, List.set_cons_succ]
          refine wpAnyT_take (S0 := fun _ => True) (i := 30) (oi := { dst := some 64, op := _, type := _, pos := _, after := _, guard := _ }) (v := ?_) rfl (by kernel_rfl) (by kernel_rfl) (by kernel_rfl) (fun _ _ _ h => h) (Stands.free 30) hcl (Or.inl ⟨by rfl, ?_⟩) trivial ?_
          rotate_left 1
          · (intro w hw; go_simp; try with_reducible rfl)
          intro hcl
          try simp only [Act.put, List.setIfInBounds_toArray, List.set_cons_zero, List.set_cons_succ]
          refine wpAnyT_all (rs := [31]) (by kernel_rfl) (by simp) hcl ?_
          intro i hi hcl
          obtain rfl := List.mem_singleton.1 hi
          refine op_of (oi := { dst := none, op := _, type := _, pos := _, after := _, guard := _ }) rfl ?_
          go_simp
          try simp only [Act.put, List.setIfInBounds_toArray, List.set_cons_zero, List.set_cons_succ]
          refine wpAnyT_take (S0 := fun _ => True) (i := 32) (oi := { dst := some 65, op := _, type := _, pos := _, after := _, guard := _ }) (v := ?_) rfl (by kernel_rfl) (by kernel_rfl) (by kernel_rfl) (fun _ _ _ h => h) (Stands.free 32) hcl (Or.inl ⟨by rfl, ?_⟩) trivial ?_
          rotate_left 1
          · (intro w hw; go_simp; try with_reducible rfl)
          intro hcl
          try simp only [Act.put, List.setIfInBounds_toArray, List.set_cons_zero, List.set_cons_succ]
          refine wpAnyT_take (S0 := fun _ => True) (i := 33) (oi := { dst := some 66, op := _, type := _, pos := _, after := _, guard := _ }) (v := ?_) rfl (by kernel_rfl) (by kernel_rfl) (by kernel_rfl) (fun _ _ _ h => h) (Stands.free 33) hcl (Or.inl ⟨by rfl, ?_⟩) trivial ?_
          rotate_left 1
          · (intro w hw; go_simp; try with_reducible rfl)
          intro hcl
          try simp only [Act.put, List.setIfInBounds_toArray, List.set_cons_zero, List.set_cons_succ]
          refine wpAnyT_all (rs := [34]) (by kernel_rfl) (by simp) hcl ?_
          intro i hi hcl
          obtain rfl := List.mem_singleton.1 hi
          refine op_of (oi := { dst := none, op := _, type := _, pos := _, after := _, guard := _ }) rfl ?_
          go_simp
          try simp only [Act.put, List.setIfInBounds_toArray, List.set_cons_zero, List.set_cons_succ]
          refine wpAnyT_done (by kernel_rfl) ?_ _
          have hfin := hM.stored hbase hcsl
          go_wp2_with fail
          exact bodyPost_ret (v := .int .i64 0) (by simp [results, Tryz.results204, go_sem]) rfl ⟨by rw [HS2.out], hfin.2.bel, fun _ => ⟨_, hfin.1, by rw [HS2.out]; exact hfin.2⟩⟩
      · refine op_of (oi := { dst := some 58, op := _, type := _, pos := _, after := _, guard := _ }) rfl ?_
        go_simp
        try simp only [Act.put, List.setIfInBounds_toArray, List.set_cons_zero, List.set_cons_succ]
        have hb58 : Blk (w0.alloc (.cells #[.int .i64 0] 3)) w0.heap.size #[.int .i64 0] 3 := Blk.new w0 _ _
        have hM := hM.to ((Bel.refl w0).alloc (.cells #[.int .i64 0] 3))
        have hsz58 : w0.heap.size ≤ w0.heap.size := hsz
        have hsz : w0.heap.size ≤ (w0.alloc (.cells #[.int .i64 0] 3)).heap.size := Nat.le_trans hsz ((Bel.refl w0).alloc (.cells #[.int .i64 0] 3)).size
        have hS0 := hSm _ _ _ _ _ _ _ _ _ _ hM
        refine ⟨fun _ _ => hS0, ?_⟩
        generalize (w0.alloc (.cells #[.int .i64 0] 3)) = w1 at *
        refine wpAnyT_all (rs := [9, 17]) (by kernel_rfl) (by simp) hcl ?_
        intro i hi hcl
        simp only [List.mem_cons, List.not_mem_nil, or_false] at hi
        rcases hi with rfl | rfl
        · refine op_of (oi := { dst := some 44, op := _, type := _, pos := _, after := _, guard := _ }) rfl ?_
          go_simp
          try simp only [Act.put, List.setIfInBounds_toArray, List.set_cons_zero, List.set_cons_succ]
          have hb44 : Blk (w1.alloc (.cells #[.string lab, .slice none 0 0, .slice none 0 0, .string ⟨#[]⟩] 33)) w1.heap.size #[.string lab, .slice none 0 0, .slice none 0 0, .string ⟨#[]⟩] 33 := Blk.new w1 _ _
          have hb58 := hb58.alloc (.cells #[.string lab, .slice none 0 0, .slice none 0 0, .string ⟨#[]⟩] 33)
          have hM := hM.to ((Bel.refl w1).alloc (.cells #[.string lab, .slice none 0 0, .slice none 0 0, .string ⟨#[]⟩] 33))
          have hsz44 : w0.heap.size ≤ w1.heap.size := hsz
          have hsz : w0.heap.size ≤ (w1.alloc (.cells #[.string lab, .slice none 0 0, .slice none 0 0, .string ⟨#[]⟩] 33)).heap.size := Nat.le_trans hsz ((Bel.refl w1).alloc (.cells #[.string lab, .slice none 0 0, .slice none 0 0, .string ⟨#[]⟩] 33)).size
          have hS0 := hSm _ _ _ _ _ _ _ _ _ _ hM
          refine ⟨fun _ _ => hS0, ?_⟩
          generalize (w1.alloc (.cells #[.string lab, .slice none 0 0, .slice none 0 0, .string ⟨#[]⟩] 33)) = w2 at *
          refine wpAnyT_all (rs := [10, 17]) (by kernel_rfl) (by simp) hcl ?_
          intro i hi hcl
          simp only [List.mem_cons, List.not_mem_nil, or_false] at hi
          rcases hi with rfl | rfl
          · refine op_of (oi := { dst := some 45, op := _, type := _, pos := _, after := _, guard := _ }) rfl ?_
            refine step_app und24 info33 (by rfl) (by decide) (by decide) (by rfl) (.tmp 42) (.tmp 44) (by rfl) (by rfl) hM.rr (m := 1) (news := [Value.string lab, .slice none 0 0, .slice none 0 0, .string ⟨#[]⟩]) (by rfl) (by rfl) hb44.news hone44 (by decide) (by omega) hM.bel.size ?_
            intro g10 cap10 w3 ho10 hg10 hf10 hat10
            try simp only [Act.put, List.setIfInBounds_toArray, List.set_cons_zero, List.set_cons_succ]
            have hb58 := hf10.blk hb58 (.inr (by decide))
            have hM := hM.appR ho10 hg10 hf10 (fun g hg' => by simp [Value.ownBlock] at hg'; subst hg'; exact hat10)
            have hsz : w0.heap.size ≤ w3.heap.size := Nat.le_trans hsz hf10.size
            have hS0 := hSm _ _ _ _ _ _ _ _ _ _ hM
            refine ⟨fun _ _ => hS0, ?_⟩
            refine wpAnyT_all (rs := [17]) (by kernel_rfl) (by simp) hcl ?_
            intro i hi hcl
            obtain rfl := List.mem_singleton.1 hi
            refine op_of (oi := { dst := some 52, op := _, type := _, pos := _, after := _, guard := _ }) rfl ?_
            go_simp
            try simp only [Act.put, List.setIfInBounds_toArray, List.set_cons_zero, List.set_cons_succ]
            have hb52 : Blk (w3.alloc (.cells #[.int .i64 l.n] 3)) w3.heap.size #[.int .i64 l.n] 3 := Blk.new w3 _ _
            have hb44 := hb44.alloc (.cells #[.int .i64 l.n] 3)
            have hb58 := hb58.alloc (.cells #[.int .i64 l.n] 3)
            have hM := hM.to ((Bel.refl w3).alloc (.cells #[.int .i64 l.n] 3))
            have hsz52 : w0.heap.size ≤ w3.heap.size := hsz
            have hsz : w0.heap.size ≤ (w3.alloc (.cells #[.int .i64 l.n] 3)).heap.size := Nat.le_trans hsz ((Bel.refl w3).alloc (.cells #[.int .i64 l.n] 3)).size
            have hS0 := hSm _ _ _ _ _ _ _ _ _ _ hM
            refine ⟨fun _ _ => hS0, ?_⟩
            generalize (w3.alloc (.cells #[.int .i64 l.n] 3)) = w4 at *
            refine wpAnyT_all (rs := [18]) (by kernel_rfl) (by simp) hcl ?_
            intro i hi hcl
            obtain rfl := List.mem_singleton.1 hi
            refine op_of (oi := { dst := some 53, op := _, type := _, pos := _, after := _, guard := _ }) rfl ?_
            refine step_app und27 info3 (by rfl) (by decide) (by decide) (by rfl) (.tmp 49) (.tmp 52) (by rfl) (by rfl) hM.rl (m := 1) (news := [Value.int .i64 l.n]) (by rfl) (by rfl) hb52.news hone52 (by decide) (by omega) hM.bel.size ?_
            intro g18 cap18 w5 ho18 hg18 hf18 hat18
            try simp only [Act.put, List.setIfInBounds_toArray, List.set_cons_zero, List.set_cons_succ]
            have hb58 := grown_blk hb58 hg18 (fun e => by have := hAl _ e.symm; omega)
            have hM := hM.appL ho18 hg18 hf18 (fun g hg' => by simp [Value.ownBlock] at hg'; subst hg'; exact hat18)
            have hsz : w0.heap.size ≤ w5.heap.size := Nat.le_trans hsz hf18.size
            have hS0 := hSm _ _ _ _ _ _ _ _ _ _ hM
            refine ⟨fun _ _ => hS0, ?_⟩
            refine wpAnyT_all (rs := [24]) (by kernel_rfl) (by simp) hcl ?_
            intro i hi hcl
            obtain rfl := List.mem_singleton.1 hi
            refine op_of (oi := { dst := some 59, op := _, type := _, pos := _, after := _, guard := _ }) rfl ?_
            refine step_app und27 info3 (by rfl) (by decide) (by decide) (by rfl) (.tmp 57) (.tmp 58) (by rfl) (by rfl) hM.rj (m := 1) (news := [Value.int .i64 0]) (by rfl) (by rfl) hb58.news hone58 (by decide) (by omega) hM.bel.size ?_
            intro g24 cap24 w6 ho24 hg24 hf24 hat24
            try simp only [Act.put, List.setIfInBounds_toArray, List.set_cons_zero, List.set_cons_succ]
            have hM := hM.appJ ho24 hg24 hf24 (fun g hg' => by simp [Value.ownBlock] at hg'; subst hg'; exact hat24)
            have hsz : w0.heap.size ≤ w6.heap.size := Nat.le_trans hsz hf24.size
            have hS0 := hSm _ _ _ _ _ _ _ _ _ _ hM
            refine ⟨fun _ _ => hS0, ?_⟩
            refine wpAnyT_take (S0 := fun _ => True) (i := 25) (oi := { dst := some 60, op := _, type := _, pos := _, after := _, guard := _ }) (v := ?_) rfl (by kernel_rfl) (by kernel_rfl) (by kernel_rfl) (fun _ _ _ h => h) (Stands.free 25) hcl (Or.inl ⟨by rfl, ?_⟩) trivial ?_
            rotate_left 1
            · (intro w hw; go_simp; try with_reducible rfl)
            intro hcl
            try simp only [Act.put, List.setIfInBounds_toArray, List.set_cons_zero, List.set_cons_succ]
            refine wpAnyT_take (S0 := fun _ => True) (i := 26) (oi := { dst := some 61, op := _, type := _, pos := _, after := _, guard := _ }) (v := ?_) rfl (by kernel_rfl) (by kernel_rfl) (by kernel_rfl) (fun _ _ _ h => h) (Stands.free 26) hcl (Or.inl ⟨by rfl, ?_⟩) trivial ?_
            rotate_left 1
            · (intro w hw; go_simp; try with_reducible rfl)
            intro hcl
            try simp only [Act.put, List.setIfInBounds_toArray, List.set_cons_zero, List.set_cons_succ]
            refine wpAnyT_take (S0 := fun _ => True) (i := 27) (oi := { dst := some 62, op := _, type := _, pos := _, after := _, guard := _ }) (v := ?_) rfl (by kernel_rfl) (by kernel_rfl) (by kernel_rfl) (fun _ _ _ h => h) (Stands.free 27) hcl (Or.inl ⟨by rfl, ?_⟩) trivial ?_
            rotate_left 1
            · (intro w hw; go_simp; try with_reducible rfl)
            intro hcl
            try simp only [Act.put, List.setIfInBounds_toArray, List.set_cons_zero, List.set_cons_succ]
            have s3 := hM.q.cell 3 rfl; have f3 := hM.q.frozen 3
            have q1 := hM.q.set 3 (.slice (some ⟨g10, 0, none⟩) (p.rungs.length + 1) cap10)
            have s5 := q1.cell 5 rfl; have f5 := q1.frozen 5
            have q2 := q1.set 5 (.slice (some ⟨g18, 0, none⟩) (p.lines.length + 1) cap18)
            have s6 := q2.cell 6 rfl; have f6 := q2.frozen 6
            refine wpAnyT_all (rs := [28]) (by kernel_rfl) (by simp) hcl ?_
            intro i hi hcl
            obtain rfl := List.mem_singleton.1 hi
            refine op_of (oi := { dst := none, op := _, type := _, pos := _, after := _, guard := _ }) rfl ?_
            go_simp
            try simp only [Act.put, List.setIfInBounds_toArray, List.set_cons_zero, List.set_cons_succ]
            refine wpAnyT_take (S0 := fun _ => True) (i := 29) (oi := { dst := some 63, op := _, type := _, pos := _, after := _, guard := _ }) (v := ?_) rfl (by kernel_rfl) (by kernel_rfl) (by kernel_rfl) (fun _ _ _ h => h) (Stands.free 29) hcl (Or.inl ⟨by rfl, ?_⟩) trivial ?_
            rotate_left 1
            · (intro w hw; go_simp; try with_reducible rfl)
            intro hcl
            try simp only [Act.put, List.setIfInBounds_toArray, List.set_cons_zero, List.set_cons_succ]
            refine wpAnyT_take (S0 := fun _ => True) (i := 30) (oi := { dst := some 64, op := _, type := _, pos := _, after := _, guard := _ }) (v := ?_) rfl (by kernel_rfl) (by kernel_rfl) (by kernel_rfl) (fun _ _ _ h => h) (Stands.free 30) hcl (Or.inl ⟨by rfl, ?_⟩) trivial ?_
            rotate_left 1
            · (intro w hw; go_simp; try with_reducible rfl)
            intro hcl
            try simp only [Act.put, List.setIfInBounds_toArray, List.set_cons_zero, List.set_cons_succ]
            refine wpAnyT_all (rs := [31]) (by kernel_rfl) (by simp) hcl ?_
            intro i hi hcl
            obtain rfl := List.mem_singleton.1 hi
            refine op_of (oi := { dst := none, op := _, type := _, pos := _, after := _, guard := _ }) rfl ?_
            go_simp
            try simp only [Act.put, List.setIfInBounds_toArray, List.set_cons_zero, List.set_cons_succ]
            refine wpAnyT_take (S0 := fun _ => True) (i := 32) (oi := { dst := some 65, op := _, type := _, pos := _, after := _, guard := _ }) (v := ?_) rfl (by kernel_rfl) (by kernel_rfl) (by kernel_rfl) (fun _ _ _ h => h) (Stands.free 32) hcl (Or.inl ⟨by rfl, ?_⟩) trivial ?_
            rotate_left 1
            · (intro w hw; go_simp; try with_reducible rfl)
            intro hcl
            try simp only [Act.put, List.setIfInBounds_toArray, List.set_cons_zero, List.set_cons_succ]
            refine wpAnyT_take (S0 := fun _ => True) (i := 33) (oi := { dst := some 66, op := _, type := _, pos := _, after := _, guard := _ }) (v := ?_) rfl (by kernel_rfl) (by kernel_rfl) (by kernel_rfl) (fun _ _ _ h => h) (Stands.free 33) hcl (Or.inl ⟨by rfl, ?_⟩) trivial ?_
            rotate_left 1
            · (intro w hw; go_simp; try with_reducible rfl)
            intro hcl
            try simp only [Act.put, List.setIfInBounds_toArray, List.set_cons_zero, List.set_cons_succ]
            refine wpAnyT_all (rs := [34]) (by kernel_rfl) (by simp) hcl ?_
            intro i hi hcl
            obtain rfl := List.mem_singleton.1 hi
            refine op_of (oi := { dst := none, op := _, type := _, pos := _, after := _, guard := _ }) rfl ?_
            go_simp
            try simp only [Act.put, List.setIfInBounds_toArray, List.set_cons_zero, List.set_cons_succ]
            refine wpAnyT_done (by kernel_rfl) ?_ _
            have hfin := hM.stored hbase hcsl
            go_wp2_with fail
            exact bodyPost_ret (v := .int .i64 0) (by simp [results, Tryz.results204, go_sem]) rfl ⟨by rw [HS2.out], hfin.2.bel, fun _ => ⟨_, hfin.1, by rw [HS2.out]; exact hfin.2⟩⟩
          · refine op_of (oi := { dst := some 52, op := _, type := _, pos := _, after := _, guard := _ }) rfl ?_
            go_simp
            try simp only [Act.put, List.setIfInBounds_toArray, List.set_cons_zero, List.set_cons_succ]
            have hb52 : Blk (w2.alloc (.cells #[.int .i64 l.n] 3)) w2.heap.size #[.int .i64 l.n] 3 := Blk.new w2 _ _
            have hb44 := hb44.alloc (.cells #[.int .i64 l.n] 3)
            have hb58 := hb58.alloc (.cells #[.int .i64 l.n] 3)
            have hM := hM.to ((Bel.refl w2).alloc (.cells #[.int .i64 l.n] 3))
            have hsz52 : w0.heap.size ≤ w2.heap.size := hsz
            have hsz : w0.heap.size ≤ (w2.alloc (.cells #[.int .i64 l.n] 3)).heap.size := Nat.le_trans hsz ((Bel.refl w2).alloc (.cells #[.int .i64 l.n] 3)).size
            have hS0 := hSm _ _ _ _ _ _ _ _ _ _ hM
            refine ⟨fun _ _ => hS0, ?_⟩
            generalize (w2.alloc (.cells #[.int .i64 l.n] 3)) = w3 at *
            refine wpAnyT_all (rs := [10]) (by kernel_rfl) (by simp) hcl ?_
            intro i hi hcl
            obtain rfl := List.mem_singleton.1 hi
            refine op_of (oi := { dst := some 45, op := _, type := _, pos := _, after := _, guard := _ }) rfl ?_
            refine step_app und24 info33 (by rfl) (by decide) (by decide) (by rfl) (.tmp 42) (.tmp 44) (by rfl) (by rfl) hM.rr (m := 1) (news := [Value.string lab, .slice none 0 0, .slice none 0 0, .string ⟨#[]⟩]) (by rfl) (by rfl) hb44.news hone44 (by decide) (by omega) hM.bel.size ?_
            intro g10 cap10 w4 ho10 hg10 hf10 hat10
            try simp only [Act.put, List.setIfInBounds_toArray, List.set_cons_zero, List.set_cons_succ]
            have hb52 := hf10.blk hb52 (.inr (by decide))
            have hb58 := hf10.blk hb58 (.inr (by decide))
            have hM := hM.appR ho10 hg10 hf10 (fun g hg' => by simp [Value.ownBlock] at hg'; subst hg'; exact hat10)
            have hsz : w0.heap.size ≤ w4.heap.size := Nat.le_trans hsz hf10.size
            have hS0 := hSm _ _ _ _ _ _ _ _ _ _ hM
            refine ⟨fun _ _ => hS0, ?_⟩
            refine wpAnyT_all (rs := [18]) (by kernel_rfl) (by simp) hcl ?_
            intro i hi hcl
            obtain rfl := List.mem_singleton.1 hi
            refine op_of (oi := { dst := some 53, op := _, type := _, pos := _, after := _, guard := _ }) rfl ?_
            refine step_app und27 info3 (by rfl) (by decide) (by decide) (by rfl) (.tmp 49) (.tmp 52) (by rfl) (by rfl) hM.rl (m := 1) (news := [Value.int .i64 l.n]) (by rfl) (by rfl) hb52.news hone52 (by decide) (by omega) hM.bel.size ?_
            intro g18 cap18 w5 ho18 hg18 hf18 hat18
            try simp only [Act.put, List.setIfInBounds_toArray, List.set_cons_zero, List.set_cons_succ]
            have hb58 := grown_blk hb58 hg18 (fun e => by have := hAl _ e.symm; omega)
            have hM := hM.appL ho18 hg18 hf18 (fun g hg' => by simp [Value.ownBlock] at hg'; subst hg'; exact hat18)
            have hsz : w0.heap.size ≤ w5.heap.size := Nat.le_trans hsz hf18.size
            have hS0 := hSm _ _ _ _ _ _ _ _ _ _ hM
            refine ⟨fun _ _ => hS0, ?_⟩
            refine wpAnyT_all (rs := [24]) (by kernel_rfl) (by simp) hcl ?_
            intro i hi hcl
            obtain rfl := List.mem_singleton.1 hi
            refine op_of (oi := { dst := some 59, op := _, type := _, pos := _, after := _, guard := _ }) rfl ?_
            refine step_app und27 info3 (by rfl) (by decide) (by decide) (by rfl) (.tmp 57) (.tmp 58) (by rfl) (by rfl) hM.rj (m := 1) (news := [Value.int .i64 0]) (by rfl) (by rfl) hb58.news hone58 (by decide) (by omega) hM.bel.size ?_
            intro g24 cap24 w6 ho24 hg24 hf24 hat24
            try simp only [Act.put, List.setIfInBounds_toArray, List.set_cons_zero, List.set_cons_succ]
            have hM := hM.appJ ho24 hg24 hf24 (fun g hg' => by simp [Value.ownBlock] at hg'; subst hg'; exact hat24)
            have hsz : w0.heap.size ≤ w6.heap.size := Nat.le_trans hsz hf24.size
            have hS0 := hSm _ _ _ _ _ _ _ _ _ _ hM
            refine ⟨fun _ _ => hS0, ?_⟩
            refine wpAnyT_take (S0 := fun _ => True) (i := 25) (oi := { dst := some 60, op := _, type := _, pos := _, after := _, guard := _ }) (v := ?_) rfl (by kernel_rfl) (by kernel_rfl) (by kernel_rfl) (fun _ _ _ h => h) (Stands.free 25) hcl (Or.inl ⟨by rfl, ?_⟩) trivial ?_
            rotate_left 1
            · (intro w hw; go_simp; try with_reducible rfl)
            intro hcl
            try simp only [Act.put, List.setIfInBounds_toArray, List.set_cons_zero, List.set_cons_succ]
            refine wpAnyT_take (S0 := fun _ => True) (i := 26) (oi := { dst := some 61, op := _, type := _, pos := _, after := _, guard := _ }) (v := ?_) rfl (by kernel_rfl) (by kernel_rfl) (by kernel_rfl) (fun _ _ _ h => h) (Stands.free 26) hcl (Or.inl ⟨by rfl, ?_⟩) trivial ?_
            rotate_left 1
            · (intro w hw; go_simp; try with_reducible rfl)
            intro hcl
            try simp only [Act.put, List.setIfInBounds_toArray, List.set_cons_zero, List.set_cons_succ]
            refine wpAnyT_take (S0 := fun _ => True) (i := 27) (oi := { dst := some 62, op := _, type := _, pos := _, after := _, guard := _ }) (v := ?_) rfl (by kernel_rfl) (by kernel_rfl) (by kernel_rfl) (fun _ _ _ h => h) (Stands.free 27) hcl (Or.inl ⟨by rfl, ?_⟩) trivial ?_
            rotate_left 1
            · (intro w hw; go_simp; try with_reducible rfl)
            intro hcl
            try simp only [Act.put, List.setIfInBounds_toArray, List.set_cons_zero, List.set_cons_succ]
            have s3 := hM.q.cell 3 rfl; have f3 := hM.q.frozen 3
            have q1 := hM.q.set 3 (.slice (some ⟨g10, 0, none⟩) (p.rungs.length + 1) cap10)
            have s5 := q1.cell 5 rfl; have f5 := q1.frozen 5
            have q2 := q1.set 5 (.slice (some ⟨g18, 0, none⟩) (p.lines.length + 1) cap18)
            have s6 := q2.cell 6 rfl; have f6 := q2.frozen 6
            refine wpAnyT_all (rs := [28]) (by kernel_rfl) (by simp) hcl ?_
            intro i hi hcl
            obtain rfl := List.mem_singleton.1 hi
            refine op_of (oi := { dst := none, op := _, type := _, pos := _, after := _, guard := _ }) rfl ?_
            go_simp
            try simp only [Act.put, List.setIfInBounds_toArray, List.set_cons_zero, List.set_cons_succ]
            refine wpAnyT_take (S0 := fun _ => True) (i := 29) (oi := { dst := some 63, op := _, type := _, pos := _, after := _, guard := _ }) (v := ?_) rfl (by kernel_rfl) (by kernel_rfl) (by kernel_rfl) (fun _ _ _ h => h) (Stands.free 29) hcl (Or.inl ⟨by rfl, ?_⟩) trivial ?_
            rotate_left 1
            · (intro w hw; go_simp; try with_reducible rfl)
            intro hcl
            try simp only [Act.put, List.setIfInBounds_toArray, List.set_cons_zero, List.set_cons_succ]
            refine wpAnyT_take (S0 := fun _ => True) (i := 30) (oi := { dst := some 64, op := _, type := _, pos := _, after := _, guard := _ }) (v := ?_) rfl (by kernel_rfl) (by kernel_rfl) (by kernel_rfl) (fun _ _ _ h => h) (Stands.free 30) hcl (Or.inl ⟨by rfl, ?_⟩) trivial ?_
            rotate_left 1
            · (intro w hw; go_simp; try with_reducible rfl)
            intro hcl
            try simp only [Act.put, List.setIfInBounds_toArray, List.set_cons_zero, List.set_cons_succ]
            refine wpAnyT_all (rs := [31]) (by kernel_rfl) (by simp) hcl ?_
            intro i hi hcl
            obtain rfl := List.mem_singleton.1 hi
            refine op_of (oi := { dst := none, op := _, type := _, pos := _, after := _, guard := _ }) rfl ?_
            go_simp
            try simp only [Act.put, List.setIfInBounds_toArray, List.set_cons_zero, List.set_cons_succ]
            refine wpAnyT_take (S0 := fun _ => True) (i := 32) (oi := { dst := some 65, op := _, type := _, pos := _, after := _, guard := _ }) (v := ?_) rfl (by kernel_rfl) (by kernel_rfl) (by kernel_rfl) (fun _ _ _ h => h) (Stands.free 32) hcl (Or.inl ⟨by rfl, ?_⟩) trivial ?_
            rotate_left 1
            · (intro w hw; go_simp; try with_reducible rfl)
            intro hcl
            try simp only [Act.put, List.setIfInBounds_toArray, List.set_cons_zero, List.set_cons_succ]
            refine wpAnyT_take (S0 := fun _ => True) (i := 33) (oi := { dst := some 66, op := _, type := _, pos := _, after := _, guard := _ }) (v := ?_) rfl (by kernel_rfl) (by kernel_rfl) (by kernel_rfl) (fun _ _ _ h => h) (Stands.free 33) hcl (Or.inl ⟨by rfl, ?_⟩) trivial ?_
            rotate_left 1
            · (intro w hw; go_simp; try with_reducible rfl)
            intro hcl
            try simp only [Act.put, List.setIfInBounds_toArray, List.set_cons_zero, List.set_cons_succ]
            refine wpAnyT_all (rs := [34]) (by kernel_rfl) (by simp) hcl ?_
            intro i hi hcl
            obtain rfl := List.mem_singleton.1 hi
            refine op_of (oi := { dst := none, op := _, type := _, pos := _, after := _, guard := _ }) rfl ?_
            go_simp
            try simp only [Act.put, List.setIfInBounds_toArray, List.set_cons_zero, List.set_cons_succ]
            refine wpAnyT_done (by kernel_rfl) ?_ _
            have hfin := hM.stored hbase hcsl
            go_wp2_with fail
            exact bodyPost_ret (v := .int .i64 0) (by simp [results, Tryz.results204, go_sem]) rfl ⟨by rw [HS2.out], hfin.2.bel, fun _ => ⟨_, hfin.1, by rw [HS2.out]; exact hfin.2⟩⟩
        · refine op_of (oi := { dst := some 52, op := _, type := _, pos := _, after := _, guard := _ }) rfl ?_
          go_simp
          try simp only [Act.put, List.setIfInBounds_toArray, List.set_cons_zero, List.set_cons_succ]
          have hb52 : Blk (w1.alloc (.cells #[.int .i64 l.n] 3)) w1.heap.size #[.int .i64 l.n] 3 := Blk.new w1 _ _
          have hb58 := hb58.alloc (.cells #[.int .i64 l.n] 3)
          have hM := hM.to ((Bel.refl w1).alloc (.cells #[.int .i64 l.n] 3))
          have hsz52 : w0.heap.size ≤ w1.heap.size := hsz
          have hsz : w0.heap.size ≤ (w1.alloc (.cells #[.int .i64 l.n] 3)).heap.size := Nat.le_trans hsz ((Bel.refl w1).alloc (.cells #[.int .i64 l.n] 3)).size
          have hS0 := hSm _ _ _ _ _ _ _ _ _ _ hM
          refine ⟨fun _ _ => hS0, ?_⟩
          generalize (w1.alloc (.cells #[.int .i64 l.n] 3)) = w2 at *
          refine wpAnyT_all (rs := [9]) (by kernel_rfl) (by simp) hcl ?_
          intro i hi hcl
          obtain rfl := List.mem_singleton.1 hi
          refine op_of (oi := { dst := some 44, op := _, type := _, pos := _, after := _, guard := _ }) rfl ?_
          go_simp
          try simp only [Act.put, List.setIfInBounds_toArray, List.set_cons_zero, List.set_cons_succ]
          have hb44 : Blk (w2.alloc (.cells #[.string lab, .slice none 0 0, .slice none 0 0, .string ⟨#[]⟩] 33)) w2.heap.size #[.string lab, .slice none 0 0, .slice none 0 0, .string ⟨#[]⟩] 33 := Blk.new w2 _ _
          have hb52 := hb52.alloc (.cells #[.string lab, .slice none 0 0, .slice none 0 0, .string ⟨#[]⟩] 33)
          have hb58 := hb58.alloc (.cells #[.string lab, .slice none 0 0, .slice none 0 0, .string ⟨#[]⟩] 33)
          have hM := hM.to ((Bel.refl w2).alloc (.cells #[.string lab, .slice none 0 0, .slice none 0 0, .string ⟨#[]⟩] 33))
          have hsz44 : w0.heap.size ≤ w2.heap.size := hsz
          have hsz : w0.heap.size ≤ (w2.alloc (.cells #[.string lab, .slice none 0 0, .slice none 0 0, .string ⟨#[]⟩] 33)).heap.size := Nat.le_trans hsz ((Bel.refl w2).alloc (.cells #[.string lab, .slice none 0 0, .slice none 0 0, .string ⟨#[]⟩] 33)).size
          have hS0 := hSm _ _ _ _ _ _ _ _ _ _ hM
          refine ⟨fun _ _ => hS0, ?_⟩
          generalize (w2.alloc (.cells #[.string lab, .slice none 0 0, .slice none 0 0, .string ⟨#[]⟩] 33)) = w3 at *
          refine wpAnyT_all (rs := [10]) (by kernel_rfl) (by simp) hcl ?_
          intro i hi hcl
          obtain rfl := List.mem_singleton.1 hi
          refine op_of (oi := { dst := some 45, op := _, type := _, pos := _, after := _, guard := _ }) rfl ?_
          refine step_app und24 info33 (by rfl) (by decide) (by decide) (by rfl) (.tmp 42) (.tmp 44) (by rfl) (by rfl) hM.rr (m := 1) (news := [Value.string lab, .slice none 0 0, .slice none 0 0, .string ⟨#[]⟩]) (by rfl) (by rfl) hb44.news hone44 (by decide) (by omega) hM.bel.size ?_
          intro g10 cap10 w4 ho10 hg10 hf10 hat10
          try simp only [Act.put, List.setIfInBounds_toArray, List.set_cons_zero, List.set_cons_succ]
          have hb52 := hf10.blk hb52 (.inr (by decide))
          have hb58 := hf10.blk hb58 (.inr (by decide))
          have hM := hM.appR ho10 hg10 hf10 (fun g hg' => by simp [Value.ownBlock] at hg'; subst hg'; exact hat10)
          have hsz : w0.heap.size ≤ w4.heap.size := Nat.le_trans hsz hf10.size
          have hS0 := hSm _ _ _ _ _ _ _ _ _ _ hM
          refine ⟨fun _ _ => hS0, ?_⟩
          refine wpAnyT_all (rs := [18]) (by kernel_rfl) (by simp) hcl ?_
          intro i hi hcl
          obtain rfl := List.mem_singleton.1 hi
          refine op_of (oi := { dst := some 53, op := _, type := _, pos := _, after := _, guard := _ }) rfl ?_
          refine step_app und27 info3 (by rfl) (by decide) (by decide) (by rfl) (.tmp 49) (.tmp 52) (by rfl) (by rfl) hM.rl (m := 1) (news := [Value.int .i64 l.n]) (by rfl) (by rfl) hb52.news hone52 (by decide) (by omega) hM.bel.size ?_
          intro g18 cap18 w5 ho18 hg18 hf18 hat18
          try simp only [Act.put, List.setIfInBounds_toArray, List.set_cons_zero, List.set_cons_succ]
          have hb58 := grown_blk hb58 hg18 (fun e => by have := hAl _ e.symm; omega)
          have hM := hM.appL ho18 hg18 hf18 (fun g hg' => by simp [Value.ownBlock] at hg'; subst hg'; exact hat18)
          have hsz : w0.heap.size ≤ w5.heap.size := Nat.le_trans hsz hf18.size
          have hS0 := hSm _ _ _ _ _ _ _ _ _ _ hM
          refine ⟨fun _ _ => hS0, ?_⟩
          refine wpAnyT_all (rs := [24]) (by kernel_rfl) (by simp) hcl ?_
          intro i hi hcl
          obtain rfl := List.mem_singleton.1 hi
          refine op_of (oi := { dst := some 59, op := _, type := _, pos := _, after := _, guard := _ }) rfl ?_
          refine step_app und27 info3 (by rfl) (by decide) (by decide) (by rfl) (.tmp 57) (.tmp 58) (by rfl) (by rfl) hM.rj (m := 1) (news := [Value.int .i64 0]) (by rfl) (by rfl) hb58.news hone58 (by decide) (by omega) hM.bel.size ?_
          intro g24 cap24 w6 ho24 hg24 hf24 hat24
          try simp only [Act.put, List.setIfInBounds_toArray, List.set_cons_zero, List.set_cons_succ]
          have hM := hM.appJ ho24 hg24 hf24 (fun g hg' => by simp [Value.ownBlock] at hg'; subst hg'; exact hat24)
          have hsz : w0.heap.size ≤ w6.heap.size := Nat.le_trans hsz hf24.size
          have hS0 := hSm _ _ _ _ _ _ _ _ _ _ hM
          refine ⟨fun _ _ => hS0, ?_⟩
          refine wpAnyT_take (S0 := fun _ => True) (i := 25) (oi := { dst := some 60, op := _, type := _, pos := _, after := _, guard := _ }) (v := ?_) rfl (by kernel_rfl) (by kernel_rfl) (by kernel_rfl) (fun _ _ _ h => h) (Stands.free 25) hcl (Or.inl ⟨by rfl, ?_⟩) trivial ?_
          rotate_left 1
          · (intro w hw; go_simp; try with_reducible rfl)
          intro hcl
          try simp only [Act.put, List.setIfInBounds_toArray, List.set_cons_zero, List.set_cons_succ]
          refine wpAnyT_take (S0 := fun _ => True) (i := 26) (oi := { dst := some 61, op := _, type := _, pos := _, after := _, guard := _ }) (v := ?_) rfl (by kernel_rfl) (by kernel_rfl) (by kernel_rfl) (fun _ _ _ h => h) (Stands.free 26) hcl (Or.inl ⟨by rfl, ?_⟩) trivial ?_
          rotate_left 1
          · (intro w hw; go_simp; try with_reducible rfl)
          intro hcl
          try simp only [Act.put, List.setIfInBounds_toArray, List.set_cons_zero, List.set_cons_succ]
          refine wpAnyT_take (S0 := fun _ => True) (i := 27) (oi := { dst := some 62, op := _, type := _, pos := _, after := _, guard := _ }) (v := ?_) rfl (by kernel_rfl) (by kernel_rfl) (by kernel_rfl) (fun _ _ _ h => h) (Stands.free 27) hcl (Or.inl ⟨by rfl, ?_⟩) trivial ?_
          rotate_left 1
          · (intro w hw; go_simp; try with_reducible rfl)
          intro hcl
          try simp only [Act.put, List.setIfInBounds_toArray, List.set_cons_zero, List.set_cons_succ]
          have s3 := hM.q.cell 3 rfl; have f3 := hM.q.frozen 3
          have q1 := hM.q.set 3 (.slice (some ⟨g10, 0, none⟩) (p.rungs.length + 1) cap10)
          have s5 := q1.cell 5 rfl; have f5 := q1.frozen 5
          have q2 := q1.set 5 (.slice (some ⟨g18, 0, none⟩) (p.lines.length + 1) cap18)
          have s6 := q2.cell 6 rfl; have f6 := q2.frozen 6
          refine wpAnyT_all (rs := [28]) (by kernel_rfl) (by simp) hcl ?_
          intro i hi hcl
          obtain rfl := List.mem_singleton.1 hi
          refine op_of (oi := { dst := none, op := _, type := _, pos := _, after := _, guard := _ }) rfl ?_
          go_simp
          try simp only [Act.put, List.setIfInBounds_toArray, List.set_cons_zero, List.set_cons_succ]
          refine wpAnyT_take (S0 := fun _ => True) (i := 29) (oi := { dst := some 63, op := _, type := _, pos := _, after := _, guard := _ }) (v := ?_) rfl (by kernel_rfl) (by kernel_rfl) (by kernel_rfl) (fun _ _ _ h => h) (Stands.free 29) hcl (Or.inl ⟨by rfl, ?_⟩) trivial ?_
          rotate_left 1
          · (intro w hw; go_simp; try with_reducible rfl)
          intro hcl
          try simp only [Act.put, List.setIfInBounds_toArray, List.set_cons_zero, List.set_cons_succ]
          refine wpAnyT_take (S0 := fun _ => True) (i := 30) (oi := { dst := some 64, op := _, type := _, pos := _, after := _, guard := _ }) (v := ?_) rfl (by kernel_rfl) (by kernel_rfl) (by kernel_rfl) (fun _ _ _ h => h) (Stands.free 30) hcl (Or.inl ⟨by rfl, ?_⟩) trivial ?_
          rotate_left 1
          · (intro w hw; go_simp; try with_reducible rfl)
          intro hcl
          try simp only [Act.put, List.setIfInBounds_toArray, List.set_cons_zero, List.set_cons_succ]
          refine wpAnyT_all (rs := [31]) (by kernel_rfl) (by simp) hcl ?_
          intro i hi hcl
          obtain rfl := List.mem_singleton.1 hi
          refine op_of (oi := { dst := none, op := _, type := _, pos := _, after := _, guard := _ }) rfl ?_
          go_simp
          try simp only [Act.put, List.setIfInBounds_toArray, List.set_cons_zero, List.set_cons_succ]
          refine wpAnyT_take (S0 := fun _ => True) (i := 32) (oi := { dst := some 65, op := _, type := _, pos := _, after := _, guard := _ }) (v := ?_) rfl (by kernel_rfl) (by kernel_rfl) (by kernel_rfl) (fun _ _ _ h => h) (Stands.free 32) hcl (Or.inl ⟨by rfl, ?_⟩) trivial ?_
          rotate_left 1
          · (intro w hw; go_simp; try with_reducible rfl)
          intro hcl
          try simp only [Act.put, List.setIfInBounds_toArray, List.set_cons_zero, List.set_cons_succ]
          refine wpAnyT_take (S0 := fun _ => True) (i := 33) (oi := { dst := some 66, op := _, type := _, pos := _, after := _, guard := _ }) (v := ?_) rfl (by kernel_rfl) (by kernel_rfl) (by kernel_rfl) (fun _ _ _ h => h) (Stands.free 33) hcl (Or.inl ⟨by rfl, ?_⟩) trivial ?_
          rotate_left 1
          · (intro w hw; go_simp; try with_reducible rfl)
          intro hcl
          try simp only [Act.put, List.setIfInBounds_toArray, List.set_cons_zero, List.set_cons_succ]
          refine wpAnyT_all (rs := [34]) (by kernel_rfl) (by simp) hcl ?_
          intro i hi hcl
          obtain rfl := List.mem_singleton.1 hi
          refine op_of (oi := { dst := none, op := _, type := _, pos := _, after := _, guard := _ }) rfl ?_
          go_simp
          try simp only [Act.put, List.setIfInBounds_toArray, List.set_cons_zero, List.set_cons_succ]
          refine wpAnyT_done (by kernel_rfl) ?_ _
          have hfin := hM.stored hbase hcsl
          go_wp2_with fail
          exact bodyPost_ret (v := .int .i64 0) (by simp [results, Tryz.results204, go_sem]) rfl ⟨by rw [HS2.out], hfin.2.bel, fun _ => ⟨_, hfin.1, by rw [HS2.out]; exact hfin.2⟩⟩

end Go.Proofs.YtbgilebgdbgddaaGreatDoor
