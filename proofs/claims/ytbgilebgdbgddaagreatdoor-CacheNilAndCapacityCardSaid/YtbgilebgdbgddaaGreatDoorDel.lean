/- slices.Delete at []string, of a row that is owned -/
import Derived.Test.YtbgilebgdbgddaaGreatDoorRch
import Derived.Lib.OwnBridge
set_option linter.unusedVariables false
set_option linter.unusedSimpArgs false
namespace Go.Proofs.YtbgilebgdbgddaaGreatDoor
open Go.RowKit
theorem setCells_get {n : Nat} {t : TypeId} : ∀ (vs : List Value) (o : Nat) (w : World) (arr : Array Value), Blk w n arr t → ∃ arr', Blk (w.setCells n o vs) n arr' t ∧ arr'.size = arr.size ∧ (∀ i, i < o → arr'[i]? = arr[i]?) ∧ (∀ i, i < vs.length → o + i < arr.size → arr'[o + i]? = vs[i]?)
  | [], _, _, arr, h => ⟨arr, h, rfl, fun _ _ => rfl, fun i hi => by simp at hi⟩
  | v :: r, o, w, arr, h => by
    obtain ⟨a, h1, h2, h3, h4⟩ := setCells_get r (o + 1) _ _ (h.set o v)
    refine ⟨a, h1, by rw [h2]; simp, fun i hi => ?_, fun i hi ho => ?_⟩
    · rw [h3 i (by omega)]
      simp [Array.getElem?_setIfInBounds]
      intro hh; omega
    · cases i with
      | zero =>
        rw [Nat.add_zero, h3 o (by omega)]
        simp [Array.getElem?_setIfInBounds]
        omega
      | succ i =>
        have := h4 i (by simpa using hi) (by simp; omega)
        rw [show o + (i + 1) = o + 1 + i by omega, this]
        simp
theorem setCells_grown {n : Nat} {t : TypeId} : ∀ (vs : List Value) (o : Nat) (w : World) (arr : Array Value), Blk w n arr t → w.grownBy (w.setCells n o vs) (some n)
  | [], _, w, _, _ => grown_of_bel (Bel.refl w) _
  | v :: r, o, w, arr, h => by
    have h1 : w.grownBy (w.setCell ⟨n, o, none⟩ v) (some n) := ⟨rfl, rfl, rfl, by simp [World.setCell], fun k hk hne => by
      simp only [World.setCell, Array.getElem?_modify]
      rw [if_neg (fun e => hne (by rw [← e]))]⟩
    exact h1.trans (setCells_grown r (o + 1) _ _ (h.set o v))
theorem del_296 (xs : List ByteArray) (v : Value) (base i : Nat) (w : World) (ho : w.ownsRow base 9 1 v xs.length (xs.flatMap strC)) (hi : i < xs.length) (hn : xs.length ≤ 1000000) :
    Calls Tryz.prog 296 #[v, .int .i64 i, .int .i64 (i + 1)] w fun e w' => ∃ v', e = .returned v' ∧ w'.ownsRow base 9 1 v' (xs.eraseIdx i).length ((xs.eraseIdx i).flatMap strC) ∧ TFr [9] base w w' ∧ w.grownBy w' v.ownBlock ∧ v'.ownBlock = v.ownBlock := by
  rcases ho.2 with ⟨_, h0⟩ | ⟨gb, cap, cur, rfl, hbg, hh, hc1, hc2, hc3, hc4⟩
  · omega
  have hcur : ∀ m, (h : m < xs.length) → cur[m]? = some (.string xs[m]) := by
    intro m hm
    have h1 : (cur.toList.take (xs.length * 1))[m]? = some (.string xs[m]) := by
      rw [hc4, flatMap_strC, List.getElem?_map, List.getElem?_eq_getElem hm]; rfl
    rw [List.getElem?_take] at h1
    split at h1
    · simpa using h1
    · cases h1
  have hq : Blk w gb cur 9 := hh
  have hS : ∀ m, m < xs.length → w.cell? ⟨gb, 0 + m, none⟩ = some (.string (xs.getD m .empty)) := fun m hm => by
    rw [Nat.zero_add, hq.cell m (hcur m hm)]; simp [hm]
  refine (Tryz.slices_Delete_string_cells gb 0 xs.length cap i (i + 1) (fun m => xs.getD m .empty) w hc1 (by simpa [maxLen] using hc2) (by omega) (by omega) hS (fun j _ => hq.frozen _)).mono ?_
  rintro e w' ⟨rfl, q, rfl⟩
  have hx : Lib.strsOf (fun m => xs.getD m .empty) xs.length = xs.map (·.data.toList) := by
    unfold Lib.strsOf
    apply List.ext_getElem
    · simp
    · intro m h1 h2
      simp at h1
      simp [h1]
  obtain ⟨arr, hqa, hsz, _, hg⟩ := setCells_get (((Lib.strsOf (fun m => xs.getD m .empty) xs.length).take i ++ (Lib.strsOf (fun m => xs.getD m .empty) xs.length).drop (i + 1) ++ List.replicate (i + 1 - i) []).map encStr) 0 (w.drewN q) cur (hq.drewN q)
  have htf := (TFr.of_bel [9] base ((Bel.refl w).drewN q)).trans (setCells_tfr (T := [9]) (by simp) hbg (((Lib.strsOf (fun m => xs.getD m .empty) xs.length).take i ++ (Lib.strsOf (fun m => xs.getD m .empty) xs.length).drop (i + 1) ++ List.replicate (i + 1 - i) []).map encStr) 0 (w.drewN q) cur (hq.drewN q))
  have hvl : (((Lib.strsOf (fun m => xs.getD m .empty) xs.length).take i ++ (Lib.strsOf (fun m => xs.getD m .empty) xs.length).drop (i + 1) ++ List.replicate (i + 1 - i) []).map encStr) = (xs.eraseIdx i).map Value.string ++ [encStr []] := by
    rw [hx, ← List.map_take, ← List.map_drop, ← List.map_append, List.map_append, Lib.map_encStr, List.eraseIdx_eq_take_drop_succ, show i + 1 - i = 1 by omega]
    rfl
  rw [hvl] at hqa hg htf ⊢
  have hel : (xs.eraseIdx i).length = xs.length - 1 := by rw [List.length_eraseIdx]; simp [hi]
  refine ⟨_, rfl, ⟨by rw [flatMap_strC, List.length_map, Nat.mul_one], .inr ⟨gb, cap, arr, ?_, hbg, hqa, by omega, hc2, by omega, ?_⟩⟩, htf, (grown_of_bel ((Bel.refl w).drewN q) _).trans (setCells_grown _ _ _ _ (hq.drewN q)), rfl⟩
  · rw [hel, show i + 1 - i = 1 by omega]
  · rw [Nat.mul_one, flatMap_strC]
    apply List.ext_getElem?
    intro m
    rw [List.getElem?_take]
    split
    · rename_i hm
      have := hg m (by simp; omega) (by omega)
      rw [Nat.zero_add] at this
      rw [Array.getElem?_toList, this, List.getElem?_append_left (by simpa using hm)]
    · rw [List.getElem?_eq_none (by simp; omega)]
end Go.Proofs.YtbgilebgdbgddaaGreatDoor
/- graph.TopoSort -/
namespace Go.Proofs.YtbgilebgdbgddaaGreatDoor
open Go.RowKit
def freeF (cons : List Contact) (told : List ByteArray) (n : ByteArray) : Bool := !((numsF (fun c => decide (c.to_ = n)) 0 cons).any fun i => !decide ((cons.getD i dC).from_ ∈ told))
def topoF (cons : List Contact) : Nat → List ByteArray → List ByteArray → Option (List ByteArray)
  | 0, _, told => some told
  | d + 1, left, told => match left.findIdx? (freeF cons told) with
    | none => none
    | some k => topoF cons d (left.eraseIdx k) (told ++ [left.getD k .empty])
def topoE (cons : List Contact) : Int := if (topoF cons (nodesF cons).length (nodesF cons) []).isSome then 0 else 12
theorem eg292 : ∀ args w, (callFunc 292 args).run Tryz.prog w = .ok (.enter 292 args) w := enters_of Tryz.func292 (by kernel_rfl) rfl
theorem eg295 : ∀ args w, (callFunc 295 args).run Tryz.prog w = .ok (.enter 295 args) w := enters_of Tryz.func295 (by kernel_rfl) rfl
set_option maxHeartbeats 1000000 in
theorem clo_295 (rb tb mb i : Nat) (r : Rung) (cs : List Value) (L : List (ByteArray × Value)) (l : List ByteArray) (w : World) (hr : RungE w r cs) (hq : Blk w rb cs.toArray 33) (hi : i < r.contacts.length) (hb : w.cell? ⟨tb, 0, none⟩ = some (.map (some mb))) (hm : MapAt Value.string w mb L) (hs : SeenIs L l) :
    Calls Tryz.prog 295 #[.int .i64 i, .pointer (some ⟨tb, 0, none⟩), .pointer (some ⟨rb, 0, none⟩)] w fun e w' => e = .returned (.bool (!decide ((r.contacts.getD i dC).from_ ∈ l))) ∧ Bel w w' := by
  obtain ⟨vc, vo, rfl, hc, ho⟩ := hr
  obtain ⟨ac, cc, rfl, hc1, hc2, _⟩ := hc.ex
  clear ho
  have hg := List.getElem?_eq_getElem hi
  have hgd : r.contacts.getD i dC = r.contacts[i] := by simp [hg]
  rw [hgd]
  obtain ⟨b, off, rfl, d0, d1, d2, d3, d4⟩ := hc.contact hg
  generalize r.contacts[i] = c at *
  obtain ⟨ck, sp, na, cf, ct⟩ := c
  dsimp only at *
  have q1 := hq.cell 1 rfl
  have hl := run_look strKey und91 (zero4 w.drew) (hm.bel (Bel.refl w).drew) cf false
  rw [hs.get] at hl
  clear hg hgd
  generalize hn : r.contacts.length = n at *
  generalize decide (cf ∈ l) = q at *
  cases q
  all_goals
    go_enter Tryz.func295, Tryz.ntmps295
    go_wp2_with fail
    go_region
    all_goals go_wp2_with fail
    all_goals go_ret
    all_goals exact ⟨rfl, (Bel.refl _).drew⟩
set_option maxHeartbeats 1000000 in
theorem clo_292 (rb tb mb : Nat) (n : ByteArray) (r : Rung) (cs : List Value) (L : List (ByteArray × Value)) (l : List ByteArray) (w : World) (hr : RungE w r cs) (hq : Blk w rb cs.toArray 33) (hn : r.contacts.length ≤ 1000) (hb : w.cell? ⟨tb, 0, none⟩ = some (.map (some mb))) (hm : MapAt Value.string w mb L) (hs : SeenIs L l) :
    Calls Tryz.prog 292 #[.string n, .pointer (some ⟨rb, 0, none⟩), .pointer (some ⟨tb, 0, none⟩)] w fun e w' => e = .returned (.bool (freeF r.contacts l n)) ∧ Bel w w' := by
  have hr0 := Lib.hid hr
  have hq0 := Lib.hid hq
  have hmf : ∀ (fn : Fn) (first cap : Array Value) (w : World), (Instr.makeFunc fn first cap).run Tryz.prog w = .ok (.func fn first cap) w := fun _ _ _ _ => rfl
  obtain ⟨vc, vo, rfl, hc, ho⟩ := hr
  obtain ⟨ac, cc, rfl, hc1, hc2, _⟩ := hc.ex
  obtain ⟨ao, co, rfl, _⟩ := ho.ex
  clear hc ho
  have q0 := hq.cell 0 rfl; have q1 := hq.cell 1 rfl; have q2 := hq.cell 2 rfl; have q3 := hq.cell 3 rfl
  have HF := Lib.hid (show freeF r.contacts l n = !((numsF (fun c => decide (c.to_ = n)) 0 r.contacts).any fun i => !decide ((r.contacts.getD i dC).from_ ∈ l)) from rfl)
  obtain ⟨q, hq'⟩ : ∃ q, q = ((numsF (fun c => decide (c.to_ = n)) 0 r.contacts).any fun i => !decide ((r.contacts.getD i dC).from_ ∈ l)) := ⟨_, rfl⟩
  rw [HF.out, ← hq']
  have Hq := Lib.hid hq'
  clear HF hq' hq
  go_enter Tryz.func292, Tryz.ntmps292
  go_wp2_with fail
  refine (incoming_any r _ n w hr0.out hn).mono ?_
  rintro en w1 ⟨v, rfl, ho, hb1⟩
  have hsl : SlAt (Flat natC) 1 w1 v (numsF (fun c => decide (c.to_ = n)) 0 r.contacts) := own_read natC_len ho rfl _ (fun _ _ => rfl)
  obtain ⟨a, cap, rfl, _⟩ := hsl.ex
  clear q0 q1 q2 q3
  go_wp2_with fail
  refine (contF_293 (Flat.mono _) (p := fun i => !decide ((r.contacts.getD i dC).from_ ∈ l)) 295 #[.pointer (some ⟨tb, 0, none⟩), .pointer (some ⟨rb, 0, none⟩)] eg295 _ _ w1 hsl (fun x cs' w' hb' he _ hx => by
    obtain rfl := he
    have hbb := hb1.trans hb'
    have := (numsF_lt _ _ _ _ hx).2
    exact clo_295 rb tb mb x r _ L l w' (RungE.mono _ _ _ _ hr0.out hbb) (hq0.out.bel hbb) (by omega) (hbb.cell hb) (hm.bel hbb) hs)).mono ?_
  rintro en w2 ⟨rfl, hb2⟩
  rw [← Hq.out]
  cases q
  all_goals
    go_wp2_with fail
    go_ret
    exact ⟨rfl, hb1.trans hb2⟩
set_option maxRecDepth 100000 in
set_option maxHeartbeats 4000000 in
theorem topo_any (r : Rung) (cs : List Value) (w : World) (hr : RungE w r cs) (hn : r.contacts.length ≤ 1000) :
    Calls Tryz.prog 267 #[.agg cs.toArray] w fun e w' => ∃ v n c, e = .returned (.tuple #[.slice v n c, .int .i64 (topoE r.contacts)]) ∧ Bel w w' := by
  have hr0 := Lib.hid hr
  obtain ⟨vc, vo, rfl, hc, ho⟩ := hr
  obtain ⟨ac, cc, rfl, _⟩ := hc.ex
  obtain ⟨ao, co, rfl, _⟩ := ho.ex
  clear hc ho
  have hall : (nodesF r.contacts).length ≤ 10000 := by have := nodesF_len r.contacts; omega
  have hR := Lib.hid (show topoE r.contacts = if (topoF r.contacts (nodesF r.contacts).length (nodesF r.contacts) []).isSome then 0 else 12 from rfl)
  obtain ⟨E, hE⟩ : ∃ E, E = topoE r.contacts := ⟨_, rfl⟩
  rw [← hE]
  have HE := Lib.hid hE
  clear hE
  have hmm := @run_makeMap Tryz.prog
  have hmf : ∀ (fn : Fn) (first cap : Array Value) (w : World), (Instr.makeFunc fn first cap).run Tryz.prog w = .ok (.func fn first cap) w := fun _ _ _ _ => rfl
  go_enter Tryz.func267, Tryz.ntmps267
  go_wp2_with fail
  have hB : Bel w (w.alloc (.cells #[.string r.label, .slice ac r.contacts.length cc, .slice ao r.coils.length co, .string r.jump] 33)) := (Bel.refl w).alloc _
  have qr : Blk (w.alloc (.cells #[.string r.label, .slice ac r.contacts.length cc, .slice ao r.coils.length co, .string r.jump] 33)) w.heap.size #[.string r.label, .slice ac r.contacts.length cc, .slice ao r.coils.length co, .string r.jump] 33 := Blk.new w _ _
  generalize (w.alloc (.cells #[.string r.label, .slice ac r.contacts.length cc, .slice ao r.coils.length co, .string r.jump] 33)) = W at *
  refine (nodes_any r _ W (RungE.mono _ _ _ _ hr0.out hB) hn).mono ?_
  rintro en w1 ⟨v, rfl, hoa, hb1⟩
  replace hoa := own_base hoa hB.size
  replace hB := hB.trans hb1
  replace qr := qr.bel hb1
  obtain ⟨A, cap, rfl, _⟩ := own_slice hoa
  go_wp2_with fail
  have hB2 : Bel w1 ((w1.alloc (.map #[] 0)).alloc (.cells #[.map (some w1.heap.size)] 91)) := ((Bel.refl w1).alloc _).alloc _
  have qt : Blk ((w1.alloc (.map #[] 0)).alloc (.cells #[.map (some w1.heap.size)] 91)) (w1.heap.size + 1) #[.map (some w1.heap.size)] 91 := Blk.new1 w1 _ _ _
  have hm : MapAt Value.string ((w1.alloc (.map #[] 0)).alloc (.cells #[.map (some w1.heap.size)] 91)) w1.heap.size [] := (MapAt.made w1).bel ((Bel.refl _).alloc _)
  have hms : w.heap.size ≤ w1.heap.size := hB.size
  have hqm := qr.lt
  generalize ((w1.alloc (.map #[] 0)).alloc (.cells #[.map (some w1.heap.size)] 91)) = W2 at *
  replace hoa := own_bel hoa hB2
  replace hB := hB.trans hB2
  replace qr := qr.bel hB2
  obtain ⟨mb, hmb⟩ : ∃ mb, mb = w1.heap.size := ⟨_, rfl⟩
  rw [← hmb] at qt hm hms hqm ⊢
  clear hmb hB2 hb1
  generalize nodesF r.contacts = all at *
  have hs0 : SeenIs [] [] := fun s => by simp [asGet]
  go_loopw [4, 6] (fun v4 v6 wr => ∃ (ll l : List ByteArray), Bel w wr ∧ Blk wr w.heap.size #[.string r.label, .slice ac r.contacts.length cc, .slice ao r.coils.length co, .string r.jump] 33 ∧ Blk wr (mb + 1) #[.map (some mb)] 91 ∧ (∃ L, MapAt Value.string wr mb L ∧ SeenIs L l) ∧ wr.ownsRow w.heap.size 9 1 v4 ll.length (ll.flatMap strC) ∧ wr.ownsRow w.heap.size 9 1 v6 l.length (l.flatMap strC) ∧ (∀ g, v6.ownBlock = some g → v4.ownBlock ≠ some g) ∧ ll.length + l.length ≤ 10000 ∧ (topoF r.contacts ll.length ll l).isSome = (topoF r.contacts all.length all []).isSome) (fun v4 _ wr => match v4 with | .slice _ n _ => n | _ => 0)
  case atStart => exact ⟨all, [], hB, qr, qt, ⟨[], hm, hs0⟩, hoa, World.ownsRow_nil _ _ _ _, fun g hg => by simp [Value.ownBlock] at hg, by simpa using hall, rfl⟩
  case round =>
    clear hB qr qt hm hoa hs0
    obtain ⟨ll, l, hB, qr, qt, ⟨L, hm, hs⟩, ho4, ho6, hsep, hlen, hres⟩ := hrel
    obtain ⟨A4, c4, rfl, _⟩ := own_slice ho4
    obtain ⟨A6, c6, rfl, _⟩ := own_slice ho6
    by_cases hpos : ll.length = 0
    · have hE0 : E = 0 := by
        rw [HE.out, hR.out, ← hres, hpos]; simp [topoF]
      have hni : ¬ (0 : Int) < (ll.length : Int) := by omega
      subst hE0
      go_wp2_with fail
      exact bodyPost_ret (v := .tuple #[.slice A6 l.length c6, .int .i64 0]) (by simp [results, Tryz.results267, go_sem]) rfl ⟨⟨_, _, _, rfl⟩, hB⟩
    have hpi : (0 : Int) < (ll.length : Int) := by omega
    have hsl : SlAt StrE 1 wr (.slice A4 ll.length c4) ll := own_read strC_len ho4 rfl StrE (fun _ _ => rfl)
    have hI := Lib.hid (idxF_291 (Flat.mono _) (p := freeF r.contacts l) 292 #[.pointer (some ⟨w.heap.size, 0, none⟩), .pointer (some ⟨mb + 1, 0, none⟩)] eg292 ll _ wr hsl (fun x cs' w' hb' he _ hx => by
      obtain rfl := he
      exact clo_292 w.heap.size (mb + 1) mb x r _ L l w' (RungE.mono _ _ _ _ hr0.out (hB.trans hb')) (qr.bel hb') hn ((qt.bel hb').cell 0 rfl) (hm.bel hb') hs))
    obtain ⟨d, hd⟩ : ∃ d, ll.length = d + 1 := ⟨ll.length - 1, by omega⟩
    rw [hd, topoF] at hres
    have hd' := Lib.hid hd
    clear hd
    cases hf : ll.findIdx? (freeF r.contacts l) with
    | none =>
      have hix : idxOf (freeF r.contacts l) ll = -1 := by unfold idxOf; rw [hf]
      rw [hix] at hI
      rw [hf] at hres
      have hE0 : E = 12 := by
        rw [HE.out, hR.out, ← hres]; simp
      subst hE0
      go_wp2_with (go_at_call 291; refine hI.out.mono ?_; rintro en w2 ⟨rfl, hb2⟩)
      exact bodyPost_ret (v := .tuple #[.slice none 0 0, .int .i64 12]) (by simp [results, Tryz.results267, go_sem]) rfl (by first | exact ⟨⟨_, _, _, rfl⟩, hB.trans hb2⟩ | exact ⟨_, _, _, rfl, hB.trans hb2⟩)
    | some k =>
      have hix : idxOf (freeF r.contacts l) ll = (k : Int) := by unfold idxOf; rw [hf]
      rw [hix] at hI
      rw [hf] at hres
      have hk : k < ll.length := by
        rw [List.findIdx?_eq_some_iff_getElem] at hf
        exact hf.1
      dsimp only at hres
      have hgk : ll.getD k .empty = ll[k] := by simp [hk]
      rw [hgk] at hres
      have hki : (k : Int) < ll.length := by omega
      have hk0 : ¬ (k : Int) < 0 := by omega
      rcases ho4.2 with ⟨_, h0⟩ | ⟨gb, cap4, cur, hv4, hbg, hh, hc1, hc2, hc3, hc4⟩
      · exact absurd h0 hpos
      injection hv4 with hv4 _ hv5
      subst hv4; subst hv5
      obtain ⟨b', off', hbo, ck⟩ := slStr hsl (List.getElem?_eq_getElem hk)
      injection hbo with hbo
      injection hbo with hbo1 hbo2 _
      subst hbo1; subst hbo2
      rw [Nat.zero_add] at ck
      have hle := Lib.hid (show (ll.eraseIdx k).length = d by have := hd'.out; rw [List.length_eraseIdx]; simp [hk]; omega)
      generalize ll[k] = s at *
      have hres' := Lib.hid hres
      clear hres hgk hh hc4 hf hsl
      go_wp2_with (go_at_call 291; refine hI.out.mono ?_; rintro en w2 ⟨rfl, hb2⟩)
      replace hB := hB.trans hb2
      replace qr := qr.bel hb2
      replace qt := qt.bel hb2
      replace hm := hm.bel hb2
      replace ho4 := own_bel ho4 hb2
      replace ho6 := own_bel ho6 hb2
      replace ck := hb2.cell ck
      have t0 := qt.cell 0 rfl
      obtain ⟨w3, hrun, hm3, hg3⟩ := run_put strKey und91 (hm.bel (Bel.refl w2).drew) s (.bool true)
      go_wp2_with fail
      go_region
      all_goals
        (replace hg3 := (grown_of_bel ((Bel.refl w2).drew) (some mb)).trans hg3
         replace qr := grown_blk qr hg3 (fun e => by injection e with e; omega)
         have ck' := grown_cell hm hg3 ck
         replace qt := grown_blk qt hg3 (fun e => by injection e with e; omega)
         replace ho4 := own_mapgrown ho4 hm hg3
         replace ho6 := own_mapgrown ho6 hm hg3
         replace hB := grown_bel hB hg3 hms
         replace hs := hs.put s
         clear hrun t0 hm hg3 ck
         have hnb : Blk (w3.alloc (.cells #[.string s] 9)) w3.heap.size #[.string s] 9 := Blk.new w3 _ _
         have hoo6 := own_bel ho6 ((Bel.refl w3).alloc (.cells #[.string s] 9))
         have ho5 := own_bel ho4 ((Bel.refl w3).alloc (.cells #[.string s] 9))
         have hnews : ∀ u ∈ strC s, u.oneCell' = true := by simp [strC, Value.oneCell']
         have hba : w.heap.size ≤ (w3.alloc (.cells #[.string s] 9)).heap.size := by have := hB.size; simp; omega
         have hgl := (ho4.lt gb rfl).2
         go_wp2_with (first | (at_builtin; apply list_app und56 info9 rfl (by decide) (by decide) rfl (.tmp 24) (.tmp 29) rfl rfl hoo6 (m := 1) (news := strC s) rfl rfl hnb.news hnews (by decide) (by omega) hba; intro g cap w7 ho7 hgr htf hat))
         replace ho5 := ho5.kept hgr (.inr (fun e => hsep gb e.symm rfl))
         replace htf := (TFr.of_bel [9] w.heap.size ((Bel.refl w3).alloc (.cells #[.string s] 9))).trans htf
         have hsep2 : g ≠ gb := by
           intro e
           rcases hat with h | h
           · exact hsep g h (by rw [e]; rfl)
           · rw [e] at h; simp at h; omega
         clear ho6 hoo6 hnb
         refine (del_296 ll _ w.heap.size k w7 ho5 hk (by omega)).mono ?_
         rintro en w8 ⟨v8, rfl, ho8, ht8, hg8, hv8⟩
         go_wp2_with fail
         go_roundw
         case rel =>
           refine ⟨ll.eraseIdx k, l ++ [s], (htf.trans ht8).toBel hB, (htf.trans ht8).blk qr (.inr (by decide)), (htf.trans ht8).blk qt (.inr (by decide)), ⟨_, hm3.tfr (htf.trans ht8), hs⟩, ho8, ?_, ?_, ?_, ?_⟩
           · have := ho7.kept hg8 (.inr (fun e => hsep2 (by simpa [Value.ownBlock] using e)))
             simpa using this
           · intro g' hg'
             rw [hv8]
             intro e
             have h1 : g = g' := by simpa [Value.ownBlock] using hg'
             have h2 : gb = g' := by simpa [Value.ownBlock] using e
             exact hsep2 (h1.trans h2.symm)
           · have := hle.out; have := hd'.out; simp; omega
           · rw [hle.out]; exact hres'.out
         case measure =>
           obtain ⟨A8, c8, rfl, _⟩ := own_slice ho8
           have := hle.out; have := hd'.out
           simp; omega)
end Go.Proofs.YtbgilebgdbgddaaGreatDoor
