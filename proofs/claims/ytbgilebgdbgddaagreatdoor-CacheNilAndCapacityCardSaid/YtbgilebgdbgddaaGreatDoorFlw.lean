/- flow.DeadNodes, Check -/
import Derived.Test.YtbgilebgdbgddaaGreatDoorDel
import Derived.Test.YtbgilebgdbgddaaGreatDoorLay
set_option linter.unusedVariables false
set_option linter.unusedSimpArgs false
namespace Go.Proofs.YtbgilebgdbgddaaGreatDoor
open Go.RowKit
/-- What a region whose calls and allocations go in whatever order wants of a callee's frame. -/
theorem bel_keeps {a c : World} (hb : Bel a c) :
    (∀ b o, b < a.heap.size → c.cell? ⟨b, o, none⟩ = a.cell? ⟨b, o, none⟩) ∧ (∀ b o, b < a.heap.size → c.frozen? ⟨b, o, none⟩ = a.frozen? ⟨b, o, none⟩) ∧
    (∀ x b o, b < a.heap.size → (c.alloc x).cell? ⟨b, o, none⟩ = a.cell? ⟨b, o, none⟩) ∧ (∀ x b o, b < a.heap.size → (c.alloc x).frozen? ⟨b, o, none⟩ = a.frozen? ⟨b, o, none⟩) ∧
    (∀ x y b o, b < a.heap.size → ((c.alloc x).alloc y).cell? ⟨b, o, none⟩ = a.cell? ⟨b, o, none⟩) ∧ (∀ x y b o, b < a.heap.size → ((c.alloc x).alloc y).frozen? ⟨b, o, none⟩ = a.frozen? ⟨b, o, none⟩) ∧
    (∀ b, b < a.heap.size → (c.heap.size = b) = False) ∧ (∀ b, b < a.heap.size → (b = c.heap.size) = False) ∧ (∀ b, b < a.heap.size → (c.heap.size + 1 = b) = False) ∧ (∀ b, b < a.heap.size → (b = c.heap.size + 1) = False) ∧ (∀ b, b < a.heap.size → b < c.heap.size) ∧ (∀ b, b < a.heap.size → b < c.heap.size + 1) ∧ (∀ b, b < a.heap.size → b < c.heap.size + 1 + 1) := by
  have hs := hb.size
  refine ⟨fun b o h => Below.cell (p := ⟨b, o, none⟩) hb h, fun b o h => Below.frozen (p := ⟨b, o, none⟩) hb h, fun x b o h => Below.cell (p := ⟨b, o, none⟩) (hb.alloc x) h, fun x b o h => Below.frozen (p := ⟨b, o, none⟩) (hb.alloc x) h, fun x y b o h => Below.cell (p := ⟨b, o, none⟩) ((hb.alloc x).alloc y) h, fun x y b o h => Below.frozen (p := ⟨b, o, none⟩) ((hb.alloc x).alloc y) h, ?_, ?_, ?_, ?_, fun b h => by omega, fun b h => by omega, fun b h => by omega⟩ <;> (intro b h; simp; omega)
def deadF (cons : List Contact) : List ByteArray := (nodesF cons).filter fun n => !(decide (n ∈ gatherF (nodesF cons) sL (succF cons)) && decide (n ∈ gatherF (nodesF cons) sR (predF cons)))
def flowE (cons : List Contact) : Int := if cons.length = 0 then 4 else if topoE cons ≠ 0 then topoE cons else if 0 < (deadF cons).length then 13 else 0
theorem slAt_setSlice {w : World} {p : Addr} {v u : Value} {xs : List ByteArray} {A : Option Addr} {n c : Nat} (h : SlAt StrE 1 w v xs) (hp : w.cell? p = some (.slice A n c)) : SlAt StrE 1 (w.setCell p u) v xs := by
  obtain ⟨a, cap, hv, hl, hc, hx⟩ := h.ex
  refine ⟨a, cap, hv, hl, hc, fun i x hi => ?_⟩
  obtain ⟨b, off, cs, ha, he, hsz, hcs⟩ := hx i x hi
  refine ⟨b, off, cs, ha, he, hsz, fun j y hj => ?_⟩
  have h1 := hcs j y hj
  rw [World.cell?_setCell_other]
  · exact h1
  · intro e
    obtain rfl := he
    have hj0 : j < 1 := by have := (List.getElem?_eq_some_iff.1 hj).1; simpa using this
    obtain rfl : j = 0 := by omega
    simp at hj
    subst hj
    have h2 : w.cell? ⟨b, off + i * 1 + 0, none⟩ = some (.slice A n c) := by first | (rw [e]; exact hp) | (rw [← e]; exact hp)
    rw [h2] at h1
    cases h1
theorem cell_set_same {w : World} {p : Addr} {u v : Value} (h : w.cell? p = some v) : (w.setCell p u).cell? p = some u := World.cell?_setCell_same w p u h
theorem cell_set_other {w : World} {p q : Addr} {u v : Value} (hne : q.block ≠ p.block) (h : w.cell? q = some v) : (w.setCell p u).cell? q = some v := by
  rw [World.cell?_setCell_other]
  · exact h
  · intro e; apply hne; rw [e]
theorem eg300 : ∀ args w, (callFunc 300 args).run Tryz.prog w = .ok (.enter 300 args) w := enters_of Tryz.func300 (by kernel_rfl) rfl
theorem clo_300 (ab bb : Nat) (n : ByteArray) (la lb : List ByteArray) (va vb : Value) (w : World) (ha : w.cell? ⟨ab, 0, none⟩ = some va) (hb : w.cell? ⟨bb, 0, none⟩ = some vb) (hsa : SlAt StrE 1 w va la) (hsb : SlAt StrE 1 w vb lb) :
    Calls Tryz.prog 300 #[.string n, .pointer (some ⟨ab, 0, none⟩), .pointer (some ⟨bb, 0, none⟩)] w fun e w' => e = .returned (.bool (decide (n ∈ la) && decide (n ∈ lb))) ∧ Bel w w' := by
  obtain ⟨a1, c1, rfl, _⟩ := hsa.ex
  obtain ⟨a2, c2, rfl, _⟩ := hsb.ex
  have h1 := Lib.hid (contains_301 la _ n w hsa)
  have h2 := fun w' (hb' : Bel w w') => contains_301 lb _ n w' (hsb.bel (Flat.mono _) hb')
  generalize decide (n ∈ la) = p at *
  generalize decide (n ∈ lb) = q at *
  generalize la.length = na at *
  generalize lb.length = nb at *
  cases p
  · go_enter Tryz.func300, Tryz.ntmps300
    go_wp2_with fail
    refine h1.out.mono ?_
    rintro en w1 ⟨rfl, hb1⟩
    go_wp2_with fail
    go_ret
    exact ⟨rfl, hb1⟩
  · go_enter Tryz.func300, Tryz.ntmps300
    go_wp2_with fail
    refine h1.out.mono ?_
    rintro en w1 ⟨rfl, hb1⟩
    have hb' := hb1.cell hb
    go_wp2_with fail
    refine (h2 w1 hb1).mono ?_
    rintro en w2 ⟨rfl, hb2⟩
    cases q
    all_goals
      go_wp2_with fail
      go_ret
      exact ⟨rfl, hb1.trans hb2⟩
set_option maxRecDepth 100000 in
set_option maxHeartbeats 4000000 in
theorem dead_any (r : Rung) (cs : List Value) (w : World) (hr : RungE w r cs) (hn : r.contacts.length ≤ 1000) :
    Calls Tryz.prog 268 #[.agg cs.toArray] w fun e w' => ∃ a c, e = .returned (.slice a (deadF r.contacts).length c) ∧ Bel w w' := by
  have hr0 := Lib.hid hr
  obtain ⟨vc, vo, rfl, hc, ho⟩ := hr
  obtain ⟨ac, cc, rfl, _⟩ := hc.ex
  obtain ⟨ao, co, rfl, _⟩ := ho.ex
  clear hc ho
  have hmf : ∀ (fn : Fn) (first cap : Array Value) (w : World), (Instr.makeFunc fn first cap).run Tryz.prog w = .ok (.func fn first cap) w := fun _ _ _ _ => rfl
  have hall : (nodesF r.contacts).length ≤ 10000 := by have := nodesF_len r.contacts; omega
  have h1 := fun w' (hb : Bel w w') => reach_any r _ sL w' (RungE.mono _ _ _ _ hr0.out hb) hn
  have h2 := fun w' (hb : Bel w w') => ances_any r _ sR w' (RungE.mono _ _ _ _ hr0.out hb) hn
  have h3 := fun w' (hb : Bel w w') => nodes_any r _ w' (RungE.mono _ _ _ _ hr0.out hb) hn
  have HD := Lib.hid (show deadF r.contacts = (nodesF r.contacts).filter fun n => !(decide (n ∈ gatherF (nodesF r.contacts) sL (succF r.contacts)) && decide (n ∈ gatherF (nodesF r.contacts) sR (predF r.contacts))) from rfl)
  obtain ⟨D, hD⟩ : ∃ D, D = deadF r.contacts := ⟨_, rfl⟩
  rw [← hD] at HD ⊢
  clear hD
  generalize gatherF (nodesF r.contacts) sL (succF r.contacts) = la at *
  generalize gatherF (nodesF r.contacts) sR (predF r.contacts) = lb at *
  generalize nodesF r.contacts = all at *
  generalize r.contacts.length = nc at *
  generalize r.coils.length = no at *
  obtain ⟨l0, ct, os, jp⟩ := r
  dsimp only at *
  go_enter Tryz.func268, Tryz.ntmps268
  go_wp2_with fail
  have hB : Bel w (w.alloc (.cells #[.string l0, .slice ac nc cc, .slice ao no co, .string jp] 33)) := (Bel.refl w).alloc _
  have qr : Blk (w.alloc (.cells #[.string l0, .slice ac nc cc, .slice ao no co, .string jp] 33)) w.heap.size #[.string l0, .slice ac nc cc, .slice ao no co, .string jp] 33 := Blk.new w _ _
  generalize (w.alloc (.cells #[.string l0, .slice ac nc cc, .slice ao no co, .string jp] 33)) = W at *
  have c0 := qr.cell 0 rfl; have c1 := qr.cell 1 rfl; have c2 := qr.cell 2 rfl; have c3 := qr.cell 3 rfl
  refine Code.wp_mono (Q := fun e a' U => e = Exit.normal ∧ ∃ (A B : Nat) (a1 : Option Addr) (k1 : Nat) (a2 : Option Addr) (k2 : Nat), a' = ⟨#[.agg #[.string l0, .slice ac nc cc, .slice ao no co, .string jp], .pointer (some ⟨w.heap.size, 0, none⟩), .slice none 0 0, .pointer (some ⟨A, 0, none⟩), .pointer (some ⟨B, 0, none⟩), .agg #[.string l0, .slice ac nc cc, .slice ao no co, .string jp], .slice a1 la.length k1, .agg #[.string l0, .slice ac nc cc, .slice ao no co, .string jp], .slice a2 lb.length k2, undef, undef, undef, undef], []⟩ ∧ Bel W U ∧ U.cell? ⟨A, 0, none⟩ = some (.slice a1 la.length k1) ∧ U.cell? ⟨B, 0, none⟩ = some (.slice a2 lb.length k2) ∧ SlAt StrE 1 U (.slice a1 la.length k1) la ∧ SlAt StrE 1 U (.slice a2 lb.length k2) lb ∧ (U.cell? ⟨w.heap.size, 0, none⟩ = some (.string l0) ∧ U.cell? ⟨w.heap.size, 1, none⟩ = some (.slice ac nc cc) ∧ U.cell? ⟨w.heap.size, 2, none⟩ = some (.slice ao no co) ∧ U.cell? ⟨w.heap.size, 3, none⟩ = some (.string jp))) ?imp ?reg
  case' reg =>
   have hS1 : (W.cell? ⟨w.heap.size, 0, none⟩ = some (.string l0) ∧ W.cell? ⟨w.heap.size, 1, none⟩ = some (.slice ac nc cc) ∧ W.cell? ⟨w.heap.size, 2, none⟩ = some (.slice ao no co) ∧ W.cell? ⟨w.heap.size, 3, none⟩ = some (.string jp)) ∧ Bel W W := by
     refine ⟨?_, Bel.refl _⟩
     repeat' apply And.intro
     all_goals assumption
   go_region_held3 (fun w' => (w'.cell? ⟨w.heap.size, 0, none⟩ = some (.string l0) ∧ w'.cell? ⟨w.heap.size, 1, none⟩ = some (.slice ac nc cc) ∧ w'.cell? ⟨w.heap.size, 2, none⟩ = some (.slice ao no co) ∧ w'.cell? ⟨w.heap.size, 3, none⟩ = some (.string jp)) ∧ Bel W w') (exact keep4 hS1 (by (repeat (first | exact Bel.refl _ | exact And.right (by assumption) | refine Bel.trans ?_ (by assumption) | refine Bel.drew ?_ | refine Bel.alloc ?_ _ | refine Bel.setCell ?_ (by first | exact Nat.le_refl _ | (simp; done) | (simp; omega) | omega) _)))) (first | (go_at_call 297; refine (h1 _ (hB.trans (And.right (by assumption)))).mono ?_; rintro en w3 ⟨va, rfl, hsa, hb3⟩; obtain ⟨a1, k1, rfl, _⟩ := hsa.ex; obtain ⟨p1, p2, p3, p4, p5, p6, p7, p8, p9, p10, p11, p12, p13⟩ := bel_keeps hb3; have z3 := hb3.size; try simp at z3; try (have y3 : W.heap.size < w3.heap.size := by omega); try (have y3' : W.heap.size + 1 < w3.heap.size := by omega)) | (go_at_call 298; refine (h2 _ (hB.trans (And.right (by assumption)))).mono ?_; rintro en w4 ⟨vb, rfl, hsb, hb4⟩; obtain ⟨a2, k2, rfl, _⟩ := hsb.ex; obtain ⟨r1, r2, r3, r4, r5, r6, r7, r8, r9, r10, r11, r12, r13⟩ := bel_keeps hb4; have z4 := hb4.size; try simp at z4; try (have y4 : W.heap.size < w4.heap.size := by omega); try (have y4' : W.heap.size + 1 < w4.heap.size := by omega)))
   all_goals
    (refine ⟨rfl, _, _, _, _, _, _, rfl, And.right (by assumption), ?_, ?_, ?_, ?_, And.left (b := Bel W _) (by assumption)⟩
     · (first | (go_simp; done) | (refine cell_set_same (v := .slice none 0 0) ?_; go_simp; done) | (refine cell_set_same (v := .slice none 0 0) ?_; refine cell_set_other ?_ ?_; (simp <;> omega); go_simp; done) | (refine cell_set_other ?_ ?_; (simp <;> omega); go_simp; done) | (refine cell_set_other ?_ ?_; (simp <;> omega); refine cell_set_same (v := .slice none 0 0) ?_; go_simp; done))
     · (first | (go_simp; done) | (refine cell_set_same (v := .slice none 0 0) ?_; go_simp; done) | (refine cell_set_same (v := .slice none 0 0) ?_; refine cell_set_other ?_ ?_; (simp <;> omega); go_simp; done) | (refine cell_set_other ?_ ?_; (simp <;> omega); go_simp; done) | (refine cell_set_other ?_ ?_; (simp <;> omega); refine cell_set_same (v := .slice none 0 0) ?_; go_simp; done))
     · repeat (first | (refine SlAt.bel ?_ (Flat.mono _) ((Bel.refl _).alloc _)) | (refine slAt_setSlice (A := none) (n := 0) (c := 0) ?_ ?_; rotate_left; focus (first | (go_simp; done) | (refine cell_set_other ?_ ?_; (simp <;> omega); go_simp; done))))
       exact hsa.bel (Flat.mono _) (by (repeat (first | exact Bel.refl _ | refine Bel.drewN ?_ _ | refine Bel.drew ?_ | refine Bel.alloc ?_ _ | refine Bel.setCell ?_ (by simp) _ | (refine Bel.trans ?_ (by assumption)))))
     · repeat (first | (refine SlAt.bel ?_ (Flat.mono _) ((Bel.refl _).alloc _)) | (refine slAt_setSlice (A := none) (n := 0) (c := 0) ?_ ?_; rotate_left; focus (first | (go_simp; done) | (refine cell_set_other ?_ ?_; (simp <;> omega); go_simp; done))))
       exact hsb.bel (Flat.mono _) (by (repeat (first | exact Bel.refl _ | refine Bel.drewN ?_ _ | refine Bel.drew ?_ | refine Bel.alloc ?_ _ | refine Bel.setCell ?_ (by simp) _ | (refine Bel.trans ?_ (by assumption))))))
  case imp =>
    rintro e a' U ⟨rfl, A, B, a1, k1, a2, k2, rfl, hU, ca, cb, sa, sb, d0, d1, d2, d3⟩
    clear c0 c1 c2 c3
    have hAl := lt_cell ca
    have hBl := lt_cell cb
    go_wp2_with fail
    refine (h3 _ (hB.trans hU)).mono ?_
    rintro en w9 ⟨v9, rfl, ho9, hb9⟩
    obtain ⟨A9, k9, rfl, _⟩ := own_slice ho9
    go_wp2_with fail
    refine (delF_299 (p := fun n => decide (n ∈ la) && decide (n ∈ lb)) 300 #[.pointer (some ⟨A, 0, none⟩), .pointer (some ⟨B, 0, none⟩)] eg300 all _ _ w9 ho9 (by omega) (fun x w' ht _ => clo_300 A B x la lb (.slice a1 la.length k1) (.slice a2 lb.length k2) w' ((ht.toBel hb9).cell ca) ((ht.toBel hb9).cell cb) (sa.bel (Flat.mono _) (ht.toBel hb9)) (sb.bel (Flat.mono _) (ht.toBel hb9)))).mono ?_
    rintro en w10 ⟨v10, rfl, ho10, ht10⟩
    rw [← HD.out] at ho10
    obtain ⟨A10, k10, rfl, _⟩ := own_slice ho10
    go_wp2_with fail
    exact bodyPost_ret (v := .slice A10 D.length k10) (by simp [results, Tryz.results268, go_sem]) rfl (by first | exact ⟨⟨_, _, rfl⟩, (hB.trans hU).trans (ht10.toBel hb9)⟩ | exact ⟨_, _, rfl, (hB.trans hU).trans (ht10.toBel hb9)⟩)
set_option maxRecDepth 100000 in
set_option maxHeartbeats 1000000 in
theorem flow_any (r : Rung) (cs : List Value) (w : World) (hr : RungE w r cs) (hn : r.contacts.length ≤ 1000) :
    Calls Tryz.prog 246 #[.agg cs.toArray] w fun e w' => e = .returned (.int .i64 (flowE r.contacts)) ∧ Bel w w' := by
  have hr0 := Lib.hid hr
  obtain ⟨vc, vo, rfl, hc, ho⟩ := hr
  obtain ⟨ac, cc, rfl, _⟩ := hc.ex
  obtain ⟨ao, co, rfl, _⟩ := ho.ex
  clear hc ho
  have h1 := fun w' (hb : Bel w w') => topo_any r _ w' (RungE.mono _ _ _ _ hr0.out hb) hn
  have h2 := fun w' (hb : Bel w w') => dead_any r _ w' (RungE.mono _ _ _ _ hr0.out hb) hn
  have HF := Lib.hid (show flowE r.contacts = if r.contacts.length = 0 then 4 else if topoE r.contacts ≠ 0 then topoE r.contacts else if 0 < (deadF r.contacts).length then 13 else 0 from rfl)
  obtain ⟨F, hF⟩ : ∃ F, F = flowE r.contacts := ⟨_, rfl⟩
  rw [← hF] at HF ⊢
  clear hF
  generalize topoE r.contacts = E at *
  generalize deadF r.contacts = D at *
  generalize r.contacts.length = nc at *
  generalize r.coils.length = no at *
  obtain ⟨l0, ct, os, jp⟩ := r
  dsimp only at *
  by_cases hz : nc = 0
  · have hF : F = 4 := by rw [HF.out, if_pos hz]
    have hzb : ((nc : Int) == 0) = true := by simp [hz]
    subst hF; subst hz
    go_enter Tryz.func246, Tryz.ntmps246
    go_wp2_with fail
    go_ret
    exact ⟨rfl, (Bel.refl _).alloc _⟩
  have hzb : ((nc : Int) == 0) = false := by simp; omega
  by_cases hE : E = 0
  · have hF : F = if 0 < D.length then 13 else 0 := by rw [HF.out, if_neg hz, if_neg (by simpa using hE)]
    subst hE
    go_enter Tryz.func246, Tryz.ntmps246
    go_wp2_with fail
    have hB : Bel w (w.alloc (.cells #[.string l0, .slice ac nc cc, .slice ao no co, .string jp] 33)) := (Bel.refl w).alloc _
    have qr : Blk (w.alloc (.cells #[.string l0, .slice ac nc cc, .slice ao no co, .string jp] 33)) w.heap.size #[.string l0, .slice ac nc cc, .slice ao no co, .string jp] 33 := Blk.new w _ _
    generalize (w.alloc (.cells #[.string l0, .slice ac nc cc, .slice ao no co, .string jp] 33)) = W at *
    refine (h1 _ hB).mono ?_
    rintro en w1 ⟨v, n, c, rfl, hb1⟩
    replace qr := qr.bel hb1
    replace hB := hB.trans hb1
    have d0 := qr.cell 0 rfl; have d1 := qr.cell 1 rfl; have d2 := qr.cell 2 rfl; have d3 := qr.cell 3 rfl
    go_wp2_with fail
    refine (h2 _ hB).mono ?_
    rintro en w2 ⟨a, c, rfl, hb2⟩
    by_cases hD : 0 < D.length
    · have hF2 : F = 13 := by rw [hF, if_pos hD]
      have hDi : (0 : Int) < D.length := by omega
      subst hF2
      go_wp2_with fail
      go_ret
      exact ⟨rfl, hB.trans hb2⟩
    · have hF2 : F = 0 := by rw [hF, if_neg hD]
      obtain ⟨nD, hnD⟩ : ∃ nD, nD = D.length := ⟨_, rfl⟩
      have hDi : nD = 0 := by omega
      rw [← hnD]
      subst hDi
      subst hF2
      clear hD hnD hF
      go_wp2_with fail
      go_ret
      exact ⟨rfl, hB.trans hb2⟩
  · have hF : F = E := by rw [HF.out, if_neg hz, if_pos (by simpa using hE)]
    have hEb : (E == 0) = false := by simpa using hE
    subst hF
    clear HF h2
    go_enter Tryz.func246, Tryz.ntmps246
    go_wp2_with fail
    refine (h1 _ ((Bel.refl w).alloc _)).mono ?_
    rintro en w1 ⟨v, n, c, rfl, hb1⟩
    go_wp2_with fail
    exact bodyPost_ret (v := .int .i64 F) (by simp [results, Tryz.results246, go_sem]) rfl ⟨rfl, ((Bel.refl _).alloc _).trans hb1⟩
end Go.Proofs.YtbgilebgdbgddaaGreatDoor
/- tree.check, Check at a valid tree -/
namespace Go.Proofs.YtbgilebgdbgddaaGreatDoor
open Go.RowKit
def TrV (N : Nat) : Nat → Tr → Prop
  | 0, _ => False
  | d + 1, t => (t.kind = 0 ∧ 0 ≤ t.n ∧ t.n < N ∧ t.kids = []) ∨ ((t.kind = 1 ∨ t.kind = 2) ∧ t.n = 0 ∧ 1 < t.kids.length ∧ ∀ k ∈ t.kids, k.kind ≠ t.kind ∧ TrV N d k)
def lvF : Nat → Tr → List Int
  | 0, _ => []
  | d + 1, t => if t.kind = 0 then [t.n] else t.kids.flatMap (lvF d)
theorem TrV.ok {N : Nat} : ∀ {d : Nat} {t : Tr}, TrV N d t → TrOk N d t
  | d + 1, t, h => by
    rcases h with ⟨h1, h2, h3, _⟩ | ⟨h1, _, h2, h3⟩
    · exact .inl ⟨h1, h2, h3⟩
    · exact .inr ⟨h1, h2, fun k hk => TrV.ok (h3 k hk).2⟩
theorem slAt_grownE {α : Type} {E : Enc α} {sz : Nat} {κ : Type} [DecidableEq κ] {kv : κ → Value} {w w' : World} {b : Nat} {L : List (κ × Value)} {v : Value} {xs : List α} (h : SlAt E sz w v xs) (hE : ∀ x cs, E w x cs → E w' x cs) (hm : MapAt kv w b L) (hg : w.grownBy w' (some b)) : SlAt E sz w' v xs := by
  obtain ⟨a, cap, hv, hl, hc, hx⟩ := h.ex
  refine ⟨a, cap, hv, hl, hc, fun i x hi => ?_⟩
  obtain ⟨b', off, cs, ha, he, hsz, hcs⟩ := hx i x hi
  exact ⟨b', off, cs, ha, hE _ _ he, hsz, fun j u hu => grown_cell hm hg (hcs j u hu)⟩
theorem treeE_grown {κ : Type} [DecidableEq κ] {kv : κ → Value} {w w' : World} {b : Nat} {L : List (κ × Value)} (hm : MapAt kv w b L) (hg : w.grownBy w' (some b)) : ∀ (d : Nat) (t : Tr) (cs : List Value), TreeE d w t cs → TreeE d w' t cs
  | 0, _, _, h => h
  | d + 1, _, _, ⟨v, h, h1⟩ => ⟨v, h, slAt_grownE h1 (treeE_grown hm hg d) hm hg⟩
theorem eg306 : ∀ args w, (callFunc 306 args).run Tryz.prog w = .ok (.enter 306 args) w := enters_of Tryz.func306 (by kernel_rfl) rfl
theorem clo_306 (b d : Nat) (kind : Int) (x : Tr) (cs : List Value) (w : World) (h : TreeE d w x cs) (hb : w.cell? ⟨b, 0, none⟩ = some (.int .i64 kind)) :
    Calls Tryz.prog 306 #[.agg cs.toArray, .pointer (some ⟨b, 0, none⟩)] w fun e w' => e = .returned (.bool (x.kind == kind)) ∧ Bel w w' := by
  cases d with
  | zero => exact h.elim
  | succ d =>
    obtain ⟨v, rfl, h1⟩ := h
    obtain ⟨a1, c1, rfl, _⟩ := h1.ex
    clear h1
    have hb' : ∀ o, (w.alloc o).cell? ⟨b, 0, none⟩ = some (.int .i64 kind) := fun o => ((Bel.refl w).alloc o).cell hb
    go_enter Tryz.func306, Tryz.ntmps306
    go_wp2_with fail
    go_ret
    exact ⟨rfl, (Bel.refl _).alloc _⟩
theorem asGet_append {κ : Type} [DecidableEq κ] (l m : List (κ × Value)) (k : κ) : asGet (l ++ m) k = (asGet l k).or (asGet m k) := by
  induction l with
  | nil => simp [asGet]
  | cons p l ih =>
    simp only [List.cons_append, asGet]
    split
    · simp
    · exact ih
theorem asGet_keys (l : List Int) (k : Int) : asGet (l.map fun k => (k, Value.bool true)) k = if k ∈ l then some (.bool true) else none := by
  induction l with
  | nil => simp [asGet]
  | cons a l ih =>
    simp only [List.map_cons, asGet, ih, List.mem_cons]
    by_cases h : k = a
    · simp [h]
    · simp [h]
set_option maxRecDepth 100000 in
set_option maxHeartbeats 4000000 in
theorem check278 (N b : Nat) (hN : N ≤ 1000000) : ∀ (d : Nat) (t : Tr) (cs : List Value) (L : List (Int × Value)) (w : World), TreeE d w t cs → TrV N d t → MapAt (Value.int .i64) w b L → (∀ k ∈ lvF d t, asGet L k = none) → (lvF d t).Nodup →
    Calls Tryz.prog 278 #[.agg cs.toArray, .int .i64 N, .map (some b)] w fun e w' => e = .returned (.int .i64 0) ∧ MapAt (Value.int .i64) w' b (L ++ (lvF d t).map fun k => (k, .bool true)) ∧ w.grownBy w' (some b) := by
  intro d
  induction d with
  | zero => intro t cs L w ht; exact ht.elim
  | succ d ih =>
    intro t cs L w ht hv hm hnone hnd
    obtain ⟨vk, rfl, hks⟩ := ht
    obtain ⟨ak, ck, rfl, hk1, hk2, _⟩ := hks.ex
    obtain ⟨kind, n, kids⟩ := t
    simp only [Tr.kind_node, Tr.n_node, Tr.kids_node] at *
    rcases hv with ⟨h0, hn0, hn1, hkn⟩ | ⟨hkd, hn0, hkl, hko⟩
    · simp only [Tr.kind_node, Tr.n_node, Tr.kids_node] at *
      subst h0; subst hkn
      have hlv : lvF (d + 1) (.node 0 n []) = [n] := by simp [lvF, Tr.kind_node, Tr.n_node]
      rw [hlv] at hnone ⊢
      have hnn := hnone n (by simp)
      have hd1 : decide (n < 0) = false := by simp; omega
      have hd2 : decide ((N : Int) ≤ n) = false := by simp; omega
      have hd3 : ¬ n < 0 := by omega
      have hd4 : ¬ (N : Int) ≤ n := by omega
      have hr := run_look intKey und399 (zero4 (w.alloc (.cells #[.int .i64 0, .int .i64 n, .slice ak 0 ck] 332))) (hm.bel ((Bel.refl w).alloc _)) n false
      rw [hnn] at hr
      simp only [Option.getD_none] at hr
      obtain ⟨w1, hrun, hm1, hg1⟩ := run_put intKey und399 (hm.bel ((Bel.refl w).alloc (.cells #[.int .i64 0, .int .i64 n, .slice ak 0 ck] 332))) n (.bool true)
      rw [asPut_new _ _ _ hnn] at hm1
      go_enter Tryz.func278, Tryz.ntmps278
      go_wp2_with fail
      exact bodyPost_ret (v := .int .i64 0) (by simp [results, Tryz.results278, go_sem]) rfl ⟨rfl, hm1, (grown_of_bel ((Bel.refl w).alloc _) _).trans hg1⟩
    · simp only [Tr.kind_node, Tr.n_node, Tr.kids_node] at *
      have hk0 : (kind == 0) = false := by rcases hkd with h | h <;> simp [h]
      have hke : ¬ kind = 0 := by omega
      have hd0 : decide (kind < 0) = false := by simp; omega
      have hd1 : decide (2 < kind) = false := by simp; omega
      have hd0' : ¬ kind < 0 := by omega
      have hd1' : ¬ 2 < kind := by omega
      have hlen : ¬ (kids.length : Int) < 2 := by omega
      have hlv : lvF (d + 1) (.node kind n kids) = kids.flatMap (lvF d) := by simp [lvF, Tr.kind_node, Tr.kids_node, hke]
      rw [hlv] at hnone hnd ⊢
      subst hn0
      have hany := Lib.hid (show (kids.any fun x => x.kind == kind) = false by
        rw [List.any_eq_false]; intro x hx; simpa using (hko x hx).1)
      have hmf : ∀ (fn : Fn) (first cap : Array Value) (w : World), (Instr.makeFunc fn first cap).run Tryz.prog w = .ok (.func fn first cap) w := fun _ _ _ _ => rfl
      have hnone' := Lib.hid hnone; have hnd' := Lib.hid hnd; have hko' := Lib.hid hko
      clear hnone hnd hko hlv
      go_enter Tryz.func278, Tryz.ntmps278
      go_wp2_with fail
      have hW : Bel w (w.alloc (.cells #[.int .i64 kind, .int .i64 0, .slice ak kids.length ck] 332)) := (Bel.refl w).alloc _
      have qt : Blk (w.alloc (.cells #[.int .i64 kind, .int .i64 0, .slice ak kids.length ck] 332)) w.heap.size #[.int .i64 kind, .int .i64 0, .slice ak kids.length ck] 332 := Blk.new w _ _
      generalize (w.alloc (.cells #[.int .i64 kind, .int .i64 0, .slice ak kids.length ck] 332)) = W at *
      refine (contF_305 (TreeE.mono d) (p := fun x => x.kind == kind) 306 #[.pointer (some ⟨w.heap.size, 0, none⟩)] eg306 kids _ W (hks.bel (TreeE.mono d) hW) (fun x cs w' hb he _ _ => clo_306 w.heap.size d kind x cs w' he ((qt.bel hb).cell 0 rfl))).mono ?_
      rintro en w1 ⟨rfl, hb1⟩
      rw [hany.out]
      replace hks := (hks.bel (TreeE.mono d) hW).bel (TreeE.mono d) hb1
      replace qt := qt.bel hb1
      replace hm := (hm.bel hW).bel hb1
      have hg := grown_of_bel (hW.trans hb1) (some b)
      have t2 := qt.cell 2 rfl
      go_wp2_with fail
      clear t2
      go_loopw [84] (fun x wr => ∃ k : Nat, k ≤ kids.length ∧ x = .int .i64 k ∧ w.grownBy wr (some b) ∧ SlAt (TreeE d) 3 wr (.slice ak kids.length ck) kids ∧ MapAt (Value.int .i64) wr b (L ++ ((kids.take k).flatMap (lvF d)).map fun k => (k, .bool true))) (fun x _ => kids.length - (intOf x).toNat)
      case atStart => exact ⟨0, Nat.zero_le _, rfl, hg, hks, by simpa using hm⟩
      case round =>
        clear hg hks hm qt
        obtain ⟨k, hk, rfl, hg, hks, hm⟩ := hrel
        by_cases hlt : k < kids.length
        · have hgk := List.getElem?_eq_getElem hlt
          obtain ⟨b', off, d', vk, hd', ha', hvk, g0, g1, g2⟩ := hks.tree hgk
          have hE : TreeE d wr kids[k] [.int .i64 kids[k].kind, .int .i64 kids[k].n, vk] := by subst hd'; exact ⟨vk, rfl, hvk⟩
          have hT : (kids.take (k + 1)).flatMap (lvF d) = (kids.take k).flatMap (lvF d) ++ lvF d kids[k] := by
            rw [List.take_succ_eq_append_getElem hlt, List.flatMap_append]; simp
          have hsplit : kids.flatMap (lvF d) = (kids.take k).flatMap (lvF d) ++ (lvF d kids[k] ++ (kids.drop (k + 1)).flatMap (lvF d)) := by
            conv => lhs; rw [← List.take_append_drop (k + 1) kids]
            rw [List.flatMap_append, hT, List.append_assoc]
          have hnd2 := hnd'.out
          rw [hsplit, List.nodup_append] at hnd2
          obtain ⟨_, hndr, hdis⟩ := hnd2
          rw [List.nodup_append] at hndr
          have hnone2 : ∀ j ∈ lvF d kids[k], asGet (L ++ ((kids.take k).flatMap (lvF d)).map fun k => (k, .bool true)) j = none := by
            intro j hj
            rw [asGet_append, hnone'.out j (by rw [hsplit]; simp [hj]), asGet_keys, if_neg]
            · rfl
            · intro hj2
              exact hdis j hj2 j (by simp [hj]) rfl
          have hvk2 := (hko'.out kids[k] (List.getElem_mem hlt)).2
          have hc := fun w' (hb : Bel wr w') => ih kids[k] _ _ w' (TreeE.mono d _ _ _ _ hE hb) hvk2 (hm.bel hb) hnone2 hndr.1
          obtain ⟨a1, c1, rfl, _⟩ := hvk.ex
          have HT := Lib.hid hT
          clear hT hsplit hE hvk hnone2 hndr hdis hgk hvk2
          subst ha'
          generalize kids[k] = kd at *
          generalize kd.kind = kk at *
          generalize kd.n = kn at *
          generalize kd.kids.length = kl at *
          go_wp2_with fail
          refine (hc _ ((Bel.refl wr).alloc _)).mono ?_
          rintro en w2 ⟨rfl, hm2, hg2⟩
          replace hg2 := (grown_of_bel ((Bel.refl wr).alloc (.cells #[.int .i64 kk, .int .i64 kn, .slice a1 kl c1] 332)) (some b)).trans hg2
          go_wp2_with fail
          go_roundw
          case rel => exact ⟨k + 1, by omega, by go_num, hg.trans hg2, slAt_grownE hks (treeE_grown hm hg2 d) hm hg2, by rw [HT.out]; simpa using hm2⟩
          case measure => simp [intOf]; omega
        · obtain rfl : k = kids.length := by omega
          rw [List.take_length] at hm
          go_wp2_with fail
          exact bodyPost_ret (v := .int .i64 0) (by simp [results, Tryz.results278, go_sem]) rfl ⟨rfl, hm, hg⟩
end Go.Proofs.YtbgilebgdbgddaaGreatDoor
