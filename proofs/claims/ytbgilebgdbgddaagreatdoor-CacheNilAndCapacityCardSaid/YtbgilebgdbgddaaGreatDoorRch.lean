/- graph.gather, Reachable, Ancestors -/
import Derived.Test.YtbgilebgdbgddaaGreatDoorGat
import Derived.Laws.EntriesVeiled
set_option linter.unusedVariables false
set_option linter.unusedSimpArgs false
namespace Go.Proofs.YtbgilebgdbgddaaGreatDoor
open Go.RowKit
theorem eg335 : ∀ args w, (callFunc 335 args).run Tryz.prog w = .ok (.enter 335 args) w := enters_of Tryz.func335 (by kernel_rfl) rfl
theorem eg317 : ∀ args w, (callFunc 317 args).run Tryz.prog w = .ok (.enter 317 args) w := enters_of Tryz.func317 (by kernel_rfl) rfl
theorem eg319 : ∀ args w, (callFunc 319 args).run Tryz.prog w = .ok (.enter 319 args) w := enters_of Tryz.func319 (by kernel_rfl) rfl
theorem addN_len (l : List ByteArray) (n : ByteArray) : (addN l n).length ≤ l.length + 1 := by
  unfold addN; split <;> simp
theorem foldN_len (xs : List ByteArray) : ∀ l, (xs.foldl addN l).length ≤ l.length + xs.length := by
  induction xs with
  | nil => intro l; simp
  | cons a t ih => intro l; have := ih (addN l a); have := addN_len l a; simp; omega
theorem nodesF_len (cs : List Contact) : (nodesF cs).length ≤ 2 + 2 * cs.length := by
  have h := foldN_len (cs.flatMap fun c => [c.from_, c.to_]) [sL, sR]
  have h2 : (cs.flatMap fun c => [c.from_, c.to_]).length = 2 * cs.length := by
    induction cs with
    | nil => rfl
    | cons a t ih => simp only [List.flatMap_cons, List.length_append, ih (foldN_len _ _), List.length_cons, List.length_nil]; omega
  unfold nodesF
  simp only [List.length_cons, List.length_nil] at h
  omega
def gatherF (all : List ByteArray) (node : ByteArray) (steps : ByteArray → List ByteArray) : List ByteArray :=
  if node ∈ all then all.filter fun n => decide (n ∈ visitF steps (all.length + 1) node []) else []
theorem clo_335 (sb mb : Nat) (n : ByteArray) (L : List (ByteArray × Value)) (l : List ByteArray) (w : World) (hb : w.cell? ⟨sb, 0, none⟩ = some (.map (some mb))) (hm : MapAt Value.string w mb L) (hs : SeenIs L l) :
    Calls Tryz.prog 335 #[.string n, .pointer (some ⟨sb, 0, none⟩)] w fun e w' => e = .returned (.bool (!decide (n ∈ l))) ∧ Bel w w' := by
  have hr := run_look strKey und91 (zero4 w) hm n false
  rw [hs.get] at hr
  generalize decide (n ∈ l) = q at *
  cases q
  all_goals
    go_enter Tryz.func335, Tryz.ntmps335
    go_wp2_with fail
    go_ret
    exact ⟨rfl, Bel.refl _⟩
set_option maxRecDepth 100000 in
set_option maxHeartbeats 4000000 in
theorem gather_any (r : Rung) (cs : List Value) (node : ByteArray) (w : World) (hr : RungE w r cs) (hn : r.contacts.length ≤ 1000)
    (steps : ByteArray → List ByteArray) (hU : ∀ n ∈ nodesF r.contacts, ∀ m ∈ steps n, m ∈ nodesF r.contacts) (hsl : ∀ n, (steps n).length ≤ 1000000)
    (gs : Nat) (lbs : Array Value) (egs : ∀ args w, (callFunc gs args).run Tryz.prog w = .ok (.enter gs args) w)
    (hst : ∀ n mb w', w.heap.size ≤ mb → w.grownBy w' (some mb) → Calls Tryz.prog gs (#[.string n] ++ lbs) w' fun e w'' => ∃ v, e = .returned v ∧ SlAt StrE 1 w'' v (steps n) ∧ Bel w' w'') :
    Calls Tryz.prog 316 #[.agg cs.toArray, .string node, .func (.func gs) #[] lbs] w fun e w' => ∃ v, e = .returned v ∧ SlAt StrE 1 w' v (gatherF (nodesF r.contacts) node steps) ∧ Bel w w' := by
  have hr0 := Lib.hid hr
  obtain ⟨vc, vo, rfl, hc, ho⟩ := hr
  obtain ⟨ac, cc, rfl, _⟩ := hc.ex
  obtain ⟨ao, co, rfl, _⟩ := ho.ex
  clear hc ho
  have hnod := fun w1 (hb : Bel w w1) => nodes_any r _ w1 (RungE.mono _ _ _ _ hr0.out hb) hn
  have hall : (nodesF r.contacts).length ≤ 10000 := by have := nodesF_len r.contacts; omega
  obtain ⟨all, hal⟩ : ∃ all, all = nodesF r.contacts := ⟨_, rfl⟩
  rw [← hal] at hnod hU hall ⊢
  clear hal hr0
  generalize r.contacts.length = nc at *
  generalize r.coils.length = no at *
  obtain ⟨lb, ct, os, jp⟩ := r
  dsimp only at *
  have hmm := @run_makeMap Tryz.prog
  have hmf : ∀ (fn : Fn) (first cap : Array Value) (w : World), (Instr.makeFunc fn first cap).run Tryz.prog w = .ok (.func fn first cap) w := fun _ _ _ _ => rfl
  obtain ⟨res, hres⟩ : ∃ res, res = gatherF all node steps := ⟨_, rfl⟩
  rw [← hres]
  go_enter Tryz.func316, Tryz.ntmps316
  go_wp2_with fail
  have hB : Bel w ((w.alloc (.cells #[.string lb, .slice ac nc cc, .slice ao no co, .string jp] 33)).alloc (.cells #[.func (.func gs) #[] lbs] 303)) := ((Bel.refl w).alloc _).alloc _
  have qt : Blk ((w.alloc (.cells #[.string lb, .slice ac nc cc, .slice ao no co, .string jp] 33)).alloc (.cells #[.func (.func gs) #[] lbs] 303)) (w.heap.size + 1) #[.func (.func gs) #[] lbs] 303 := Blk.new1 w _ _ _
  refine (hnod _ hB).mono ?_
  rintro en w1 ⟨v, rfl, hoa, hb1⟩
  replace hB := hB.trans hb1
  replace qt := qt.bel hb1
  obtain ⟨A, cap, rfl, _⟩ := own_slice hoa
  have hsa : SlAt StrE 1 w1 (.slice A all.length cap) all := own_read strC_len hoa rfl StrE (fun _ _ => rfl)
  generalize hTB : w.heap.size + 1 = tb at *
  have hTB' : w.heap.size ≤ tb := by omega
  clear hTB
  go_wp2_with fail
  refine (contains_301 all _ node w1 hsa).mono ?_
  rintro en w2 ⟨rfl, hb2⟩
  by_cases hin : node ∈ all
  · have hres2 := Lib.hid hres
    simp only [hin, decide_true]
    clear hres
    have q9 : Blk (((w2.alloc (.map #[] 0)).alloc (.cells #[.map (some w2.heap.size)] 91)).alloc (.cells #[.nilFunc] 226)) (w2.heap.size + 1 + 1) #[.nilFunc] 226 := Blk.new2 w2 _ _ _ _
    have c9 := q9.cell 0 rfl
    have f9 := q9.frozen 0
    go_wp2_with fail
    have hB3 : Bel w2 (((w2.alloc (.map #[] 0)).alloc (.cells #[.map (some w2.heap.size)] 91)).alloc (.cells #[.func (.func 334) #[] #[.pointer (some ⟨w2.heap.size + 1, 0, none⟩), .pointer (some ⟨tb, 0, none⟩), .pointer (some ⟨w2.heap.size + 1 + 1, 0, none⟩)]] 226)) := (((Bel.refl w2).alloc _).alloc _).alloc _
    have qs : Blk (((w2.alloc (.map #[] 0)).alloc (.cells #[.map (some w2.heap.size)] 91)).alloc (.cells #[.func (.func 334) #[] #[.pointer (some ⟨w2.heap.size + 1, 0, none⟩), .pointer (some ⟨tb, 0, none⟩), .pointer (some ⟨w2.heap.size + 1 + 1, 0, none⟩)]] 226)) (w2.heap.size + 1) #[.map (some w2.heap.size)] 91 := (Blk.new1 w2 _ _ _).alloc _
    have qv : Blk (((w2.alloc (.map #[] 0)).alloc (.cells #[.map (some w2.heap.size)] 91)).alloc (.cells #[.func (.func 334) #[] #[.pointer (some ⟨w2.heap.size + 1, 0, none⟩), .pointer (some ⟨tb, 0, none⟩), .pointer (some ⟨w2.heap.size + 1 + 1, 0, none⟩)]] 226)) (w2.heap.size + 1 + 1) #[.func (.func 334) #[] #[.pointer (some ⟨w2.heap.size + 1, 0, none⟩), .pointer (some ⟨tb, 0, none⟩), .pointer (some ⟨w2.heap.size + 1 + 1, 0, none⟩)]] 226 := Blk.new2 w2 _ _ _ _
    have hm3 : MapAt Value.string (((w2.alloc (.map #[] 0)).alloc (.cells #[.map (some w2.heap.size)] 91)).alloc (.cells #[.func (.func 334) #[] #[.pointer (some ⟨w2.heap.size + 1, 0, none⟩), .pointer (some ⟨tb, 0, none⟩), .pointer (some ⟨w2.heap.size + 1 + 1, 0, none⟩)]] 226)) w2.heap.size [] := (MapAt.made w2).bel (((Bel.refl _).alloc _).alloc _)
    have htl := (qt.bel hb2).lt
    replace qt := (qt.bel hb2).bel hB3
    have hms : w.heap.size ≤ w2.heap.size := (hB.trans hb2).size
    have hwW := (hB.trans hb2).trans hB3
    replace hoa := own_bel (own_bel hoa hb2) hB3
    clear q9 c9 f9 hb1
    generalize (((w2.alloc (.map #[] 0)).alloc (.cells #[.map (some w2.heap.size)] 91)).alloc (.cells #[.func (.func 334) #[] #[.pointer (some ⟨w2.heap.size + 1, 0, none⟩), .pointer (some ⟨tb, 0, none⟩), .pointer (some ⟨w2.heap.size + 1 + 1, 0, none⟩)]] 226)) = W3 at *
    obtain ⟨b1, hb1⟩ : ∃ b1, b1 = ((w.alloc (.cells #[.string lb, .slice ac nc cc, .slice ao no co, .string jp] 33)).alloc (.cells #[.func (.func gs) #[] lbs] 303)).heap.size := ⟨_, rfl⟩
    have hb1' : w.heap.size ≤ b1 := by rw [hb1]; simp; omega
    rw [← hb1] at hoa
    clear hb1
    obtain ⟨mb, hmb⟩ : ∃ mb, mb = w2.heap.size := ⟨_, rfl⟩
    rw [← hmb] at qs hm3 hms htl qv ⊢
    clear hmb
    refine (visit_any steps all hU hsl gs lbs egs (mb + 1) tb (mb + 1 + 1) mb W3 qs qt qv ⟨by omega, by omega, by omega⟩ (fun n w' hg => hst n mb w' hms ((grown_of_bel hwW _).trans hg)) (all.length + 1) node [] W3 hin (by have := List.length_filter_le (fun x => !decide (x ∈ ([] : List ByteArray))) all; unfold unseen; omega) (grown_of_bel (Bel.refl _) _) ⟨[], hm3, fun s => by simp [asGet]⟩).mono ?_
    rintro en w4 ⟨rfl, hg4, L4, hm4, hs4⟩
    replace qs := grown_blk qs hg4 (by simp)
    replace hoa := own_mapgrown hoa hm3 hg4
    have hB4 : Bel w w4 := grown_bel hwW hg4 hms
    generalize hvl : visitF steps (all.length + 1) node [] = vl at *
    have hvl' := Lib.hid hvl
    clear hvl qv qt hm3 hst hnod hU
    go_wp2_with fail
    refine (delF_299 (p := fun n => !decide (n ∈ vl)) 335 #[.pointer (some ⟨mb + 1, 0, none⟩)] eg335 all _ b1 w4 hoa (by omega) (fun x w' ht _ => clo_335 (mb + 1) mb x L4 vl w' ((ht.blk qs (.inr (by decide))).cell 0 rfl) (hm4.tfr ht) hs4)).mono ?_
    rintro en w5 ⟨v, rfl, ho5, ht5⟩
    go_wp2_with fail
    go_ret
    refine ⟨_, rfl, ?_, (ht5.mono hb1').toBel hB4⟩
    have := own_read strC_len ho5 rfl StrE (fun _ _ => rfl)
    rw [hres2.out]
    simpa [gatherF, hin, hvl'.out] using this
  · have : res = [] := by rw [hres]; simp [gatherF, hin]
    simp only [hin, decide_false]
    go_wp2_with fail
    go_ret
    exact ⟨_, rfl, by rw [this]; exact SlAt.nil _ _ _, hB.trans hb2⟩
theorem mem_addN (l : List ByteArray) (n x : ByteArray) : x ∈ addN l n ↔ x ∈ l ∨ x = n := by
  unfold addN; split
  · constructor
    · exact .inl
    · rintro (h | rfl) <;> assumption
  · simp
theorem mem_foldN (xs : List ByteArray) : ∀ l x, x ∈ xs.foldl addN l ↔ x ∈ l ∨ x ∈ xs := by
  induction xs with
  | nil => intro l x; simp
  | cons a t ih => intro l x; rw [List.foldl_cons, ih, mem_addN]; simp [or_assoc]
theorem mem_nodes (cs : List Contact) (x : ByteArray) : x ∈ nodesF cs ↔ (x = sL ∨ x = sR) ∨ ∃ c ∈ cs, x = c.from_ ∨ x = c.to_ := by
  unfold nodesF; rw [mem_foldN]; simp
theorem mem_numsF (p : Contact → Bool) (a : List Contact) : ∀ i j, j ∈ numsF p i a ↔ ∃ k c, j = i + k ∧ a[k]? = some c ∧ p c = true := by
  induction a with
  | nil => intro i j; simp [numsF]
  | cons c l ih =>
    intro i j
    have hr : (∃ k c', j = i + k ∧ (c :: l)[k]? = some c' ∧ p c' = true) ↔ (j = i ∧ p c = true) ∨ ∃ k c', j = (i + 1) + k ∧ l[k]? = some c' ∧ p c' = true := by
      constructor
      · rintro ⟨k, c', h1, h2, h3⟩
        cases k with
        | zero => simp at h2; subst h2; exact .inl ⟨by omega, h3⟩
        | succ k => simp at h2; exact .inr ⟨k, c', by omega, h2, h3⟩
      · rintro (⟨h1, h2⟩ | ⟨k, c', h1, h2, h3⟩)
        · exact ⟨0, c, by omega, by simp, h2⟩
        · exact ⟨k + 1, c', by omega, by simpa using h2, h3⟩
    rw [hr, ← ih]
    simp only [numsF]
    split
    · rename_i h; simp [h]
    · rename_i h; simp [h]
theorem mem_succF (cs : List Contact) (n m : ByteArray) : m ∈ succF cs n ↔ ∃ c ∈ cs, c.from_ = n ∧ c.to_ = m := by
  unfold succF
  rw [List.mem_map]
  constructor
  · rintro ⟨i, hi, rfl⟩
    obtain ⟨k, c, rfl, h1, h2⟩ := (mem_numsF _ _ _ _).1 hi
    exact ⟨c, List.mem_of_getElem? h1, by simpa using h2, by simp [h1]⟩
  · rintro ⟨c, hc, h1, h2⟩
    obtain ⟨k, hk, rfl⟩ := List.getElem_of_mem hc
    exact ⟨k, (mem_numsF _ _ _ _).2 ⟨k, cs[k], by omega, List.getElem?_eq_getElem hk, by simp [h1]⟩, by simp [hk, h2]⟩
theorem mem_predF (cs : List Contact) (n m : ByteArray) : m ∈ predF cs n ↔ ∃ c ∈ cs, c.to_ = n ∧ c.from_ = m := by
  unfold predF
  rw [List.mem_map]
  constructor
  · rintro ⟨i, hi, rfl⟩
    obtain ⟨k, c, rfl, h1, h2⟩ := (mem_numsF _ _ _ _).1 hi
    exact ⟨c, List.mem_of_getElem? h1, by simpa using h2, by simp [h1]⟩
  · rintro ⟨c, hc, h1, h2⟩
    obtain ⟨k, hk, rfl⟩ := List.getElem_of_mem hc
    exact ⟨k, (mem_numsF _ _ _ _).2 ⟨k, cs[k], by omega, List.getElem?_eq_getElem hk, by simp [h1]⟩, by simp [hk, h2]⟩
theorem rungE_grown {κ : Type} [DecidableEq κ] {kv : κ → Value} {w w' : World} {b : Nat} {L : List (κ × Value)} {r : Rung} {cs : List Value} (h : RungE w r cs) (hm : MapAt kv w b L) (hg : w.grownBy w' (some b)) : RungE w' r cs := by
  obtain ⟨vc, vo, h1, h2, h3⟩ := h
  exact ⟨vc, vo, h1, slAt_grown h2 hm hg, slAt_grown h3 hm hg⟩
theorem slAt_far {α : Type} {f : α → List Value} {sz : Nat} {w w' : World} {b : Nat} {v : Value} {xs : List α} (h : SlAt (Flat f) sz w v xs) (hb : w.heap.size ≤ b) (hg : w.grownBy w' (some b)) : SlAt (Flat f) sz w' v xs := by
  obtain ⟨a, cap, hv, hl, hc, hx⟩ := h.ex
  refine ⟨a, cap, hv, hl, hc, fun i x hi => ?_⟩
  obtain ⟨b', off, cs, ha, he, hsz, hcs⟩ := hx i x hi
  exact ⟨b', off, cs, ha, he, hsz, fun j u hu => hg.cell (hcs j u hu) (fun e => by have := lt_cell (hcs j u hu); injection e with e; rw [e] at this; omega)⟩
theorem rungE_far {w w' : World} {b : Nat} {r : Rung} {cs : List Value} (h : RungE w r cs) (hb : w.heap.size ≤ b) (hg : w.grownBy w' (some b)) : RungE w' r cs := by
  obtain ⟨vc, vo, h1, h2, h3⟩ := h
  exact ⟨vc, vo, h1, slAt_far h2 hb hg, slAt_far h3 hb hg⟩
theorem succ_in (cs : List Contact) : ∀ n ∈ nodesF cs, ∀ m ∈ succF cs n, m ∈ nodesF cs := fun n _ m hm => by
  obtain ⟨c, hc, _, h⟩ := (mem_succF cs n m).1 hm
  exact (mem_nodes cs m).2 (.inr ⟨c, hc, .inr h.symm⟩)
theorem pred_in (cs : List Contact) : ∀ n ∈ nodesF cs, ∀ m ∈ predF cs n, m ∈ nodesF cs := fun n _ m hm => by
  obtain ⟨c, hc, _, h⟩ := (mem_predF cs n m).1 hm
  exact (mem_nodes cs m).2 (.inr ⟨c, hc, .inl h.symm⟩)
theorem succ_len (cs : List Contact) (n : ByteArray) : (succF cs n).length ≤ cs.length := by
  unfold succF; rw [List.length_map]; exact numsF_len _ _ _
theorem pred_len (cs : List Contact) (n : ByteArray) : (predF cs n).length ≤ cs.length := by
  unfold predF; rw [List.length_map]; exact numsF_len _ _ _

set_option maxHeartbeats 1000000 in
theorem reach_any (r : Rung) (cs : List Value) (node : ByteArray) (w : World) (hr : RungE w r cs) (hn : r.contacts.length ≤ 1000) :
    Calls Tryz.prog 297 #[.agg cs.toArray, .string node] w fun e w' => ∃ v, e = .returned v ∧ SlAt StrE 1 w' v (gatherF (nodesF r.contacts) node (succF r.contacts)) ∧ Bel w w' := by
  have hr0 := Lib.hid hr
  obtain ⟨vc, vo, rfl, hc, ho⟩ := hr
  obtain ⟨ac, cc, rfl, _⟩ := hc.ex
  obtain ⟨ao, co, rfl, _⟩ := ho.ex
  clear hc ho
  have hmf : ∀ (fn : Fn) (first cap : Array Value) (w : World), (Instr.makeFunc fn first cap).run Tryz.prog w = .ok (.func fn first cap) w := fun _ _ _ _ => rfl
  go_enter Tryz.func297, Tryz.ntmps297
  go_wp2_with fail
  have hW : Bel w (w.alloc (.cells #[.string r.label, .slice ac r.contacts.length cc, .slice ao r.coils.length co, .string r.jump] 33)) := (Bel.refl w).alloc _
  have qs : Blk (w.alloc (.cells #[.string r.label, .slice ac r.contacts.length cc, .slice ao r.coils.length co, .string r.jump] 33)) w.heap.size #[.string r.label, .slice ac r.contacts.length cc, .slice ao r.coils.length co, .string r.jump] 33 := Blk.new w _ _
  generalize (w.alloc (.cells #[.string r.label, .slice ac r.contacts.length cc, .slice ao r.coils.length co, .string r.jump] 33)) = W at *
  have hrW := RungE.mono _ _ _ _ hr0.out hW
  refine (gather_any r _ node W hrW hn (succF r.contacts) (succ_in r.contacts) (fun n => by have := succ_len r.contacts n; omega) 317 #[.pointer (some ⟨w.heap.size, 0, none⟩)] eg317 (fun n mb w' hmb hg => steps_317 w.heap.size r _ n w' (rungE_far hrW hmb hg) (grown_blk qs hg (fun e => by have := qs.lt; injection e with e; omega)) hn)).mono ?_
  rintro en w1 ⟨v, rfl, hs, hb1⟩
  go_wp2_with fail
  go_ret
  exact ⟨_, rfl, hs, hW.trans hb1⟩
set_option maxHeartbeats 1000000 in
theorem ances_any (r : Rung) (cs : List Value) (node : ByteArray) (w : World) (hr : RungE w r cs) (hn : r.contacts.length ≤ 1000) :
    Calls Tryz.prog 298 #[.agg cs.toArray, .string node] w fun e w' => ∃ v, e = .returned v ∧ SlAt StrE 1 w' v (gatherF (nodesF r.contacts) node (predF r.contacts)) ∧ Bel w w' := by
  have hr0 := Lib.hid hr
  obtain ⟨vc, vo, rfl, hc, ho⟩ := hr
  obtain ⟨ac, cc, rfl, _⟩ := hc.ex
  obtain ⟨ao, co, rfl, _⟩ := ho.ex
  clear hc ho
  have hmf : ∀ (fn : Fn) (first cap : Array Value) (w : World), (Instr.makeFunc fn first cap).run Tryz.prog w = .ok (.func fn first cap) w := fun _ _ _ _ => rfl
  go_enter Tryz.func298, Tryz.ntmps298
  go_wp2_with fail
  have hW : Bel w (w.alloc (.cells #[.string r.label, .slice ac r.contacts.length cc, .slice ao r.coils.length co, .string r.jump] 33)) := (Bel.refl w).alloc _
  have qs : Blk (w.alloc (.cells #[.string r.label, .slice ac r.contacts.length cc, .slice ao r.coils.length co, .string r.jump] 33)) w.heap.size #[.string r.label, .slice ac r.contacts.length cc, .slice ao r.coils.length co, .string r.jump] 33 := Blk.new w _ _
  generalize (w.alloc (.cells #[.string r.label, .slice ac r.contacts.length cc, .slice ao r.coils.length co, .string r.jump] 33)) = W at *
  have hrW := RungE.mono _ _ _ _ hr0.out hW
  refine (gather_any r _ node W hrW hn (predF r.contacts) (pred_in r.contacts) (fun n => by have := pred_len r.contacts n; omega) 319 #[.pointer (some ⟨w.heap.size, 0, none⟩)] eg319 (fun n mb w' hmb hg => steps_319 w.heap.size r _ n w' (rungE_far hrW hmb hg) (grown_blk qs hg (fun e => by have := qs.lt; injection e with e; omega)) hn)).mono ?_
  rintro en w1 ⟨v, rfl, hs, hb1⟩
  go_wp2_with fail
  go_ret
  exact ⟨_, rfl, hs, hW.trans hb1⟩
end Go.Proofs.YtbgilebgdbgddaaGreatDoor
