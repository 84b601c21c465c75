/- codegen.contacts -/
import Derived.Test.YtbgilebgdbgddaaGreatDoorRdc
import Derived.Test.YtbgilebgdbgddaaGreatDoorDep
import Derived.Test.YtbgilebgdbgddaaGreatDoorLay
set_option linter.unusedVariables false
set_option linter.unusedSimpArgs false
namespace Go.Proofs.YtbgilebgdbgddaaGreatDoor
open Go.RowKit
theorem lay_len (C : Ctx) {N : Nat} : ∀ (d : Nat) (t : Tr), TrV N d t → (layF C d t).length + 2 ≤ 3 * (lvF d t).length
  | d + 1, t, h => by
    have ih := fun k hk => lay_len C (N := N) d k hk
    rcases h with ⟨h0, _⟩ | ⟨h0, _, h1, h2⟩
    · simp [layF, lvF, h0]
    · have hn : t.kind ≠ 0 := by omega
      have hrest : ∀ l : List Tr, (∀ k ∈ l, TrV N d k) → (l.flatMap fun k => if k.kind = 0 ∧ seesB (C.con k.n).kind = false then [(⟨joinI t.kind (C.con k.n).kind, (C.con k.n).space, (C.con k.n).n, 0⟩ : Ins)] else ⟨8, 0, 0, 0⟩ :: layF C d k ++ [⟨popI t.kind, 0, 0, 0⟩]).length ≤ 3 * (l.flatMap (lvF d)).length := fun l hl => by
        induction l with
        | nil => simp
        | cons a l ihl =>
          rw [List.flatMap_cons, List.flatMap_cons, List.length_append, List.length_append]
          have h3 := ihl fun k hk => hl k (by simp [hk])
          have h4 := ih a (hl a (by simp))
          split
          · simp only [List.length_cons, List.length_nil]; omega
          · simp only [List.length_append, List.length_cons, List.length_nil]; omega
      obtain ⟨kd, tn, kids⟩ := t
      simp only [Tr.kind_node, Tr.kids_node] at *
      match kids, h1, h2 with
      | k :: l, _, h2 =>
        rw [layF, lvF]
        simp only [Tr.kind_node, Tr.kids_node, if_neg hn, List.drop_succ_cons, List.drop_zero, List.flatMap_cons, List.length_append]
        have h3 := hrest l fun k' hk' => (h2 k' (by simp [hk'])).2
        have h4 := ih k (h2 k (by simp)).2
        omega
theorem reduce_ok {cons : List Contact} (h : reduceE cons = 0) : TrV cons.length (redD cons.length) (reduceT cons) ∧ (lvF (redD cons.length) (reduceT cons)).Nodup ∧ (lvF (redD cons.length) (reduceT cons)).length = cons.length := by
  unfold reduceE at h
  by_cases hf : flowE cons = 0
  · rw [if_neg (fun hh => hh hf)] at h
    obtain ⟨rank, hr⟩ := red_start hf
    have hR := redF_ok cons.length 1 _ hr
    have hRL : redF cons.length (edge0 0 cons) = redL cons := rfl
    rw [hRL, show 1 + 2 * (cons.length + 1) = redD cons.length by unfold redD; omega] at hR
    unfold reduceT
    cases ho : redOne cons with
    | none => rw [ho] at h; cases h
    | some t =>
      dsimp only
      have : ∃ e, redL cons = [e] ∧ e.t = t := by
        unfold redOne at ho
        split at ho
        · rename_i e he
          split at ho
          · injection ho with ho; exact ⟨e, he, ho⟩
          · cases ho
        · cases ho
      obtain ⟨e, he, rfl⟩ := this
      obtain ⟨h1, h2, h3⟩ := perm_leaves hR.v he
      obtain ⟨h4, h5⟩ := sortedF_ok _ _ h1
      exact ⟨h4, h5.nodup_iff.2 h2, by rw [h5.length_eq, h3]⟩
  · rw [if_pos hf] at h
    exact absurd h hf
def edgesB (cons : List Contact) : List Bool := cons.map fun c => seesB c.kind
def contactsE (cons : List Contact) : Int := if reduceE cons ≠ 0 then reduceE cons else if 64 < depthF (edgesB cons) (redD cons.length) (reduceT cons) then 16 else 0
def contactsF (cons : List Contact) (slot : Int) : List Ins := layF ⟨cons, slotsF slot cons⟩ (redD cons.length) (reduceT cons)
theorem contactsF_len {cons : List Contact} (h : reduceE cons = 0) (slot : Int) : (contactsF cons slot).length ≤ 3 * cons.length := by
  obtain ⟨h1, _, h3⟩ := reduce_ok h
  have := lay_len ⟨cons, slotsF slot cons⟩ _ _ h1
  unfold contactsF
  omega
theorem slBoolOf {w : World} {b n : Nat} {l : List Bool} (h : Blk w b (l.map Value.bool).toArray 4) (hn : n = l.length) (hn2 : l.length ≤ 1000000) : SlAt BoolE 1 w (.slice (some ⟨b, 0, none⟩) n n) l := by
  subst hn
  refine ⟨_, l.length, rfl, Nat.le_refl _, by omega, fun i x hi => ⟨b, 0, _, rfl, rfl, rfl, fun j u hu => ?_⟩⟩
  have hj : j = 0 := by
    have := (List.getElem?_eq_some_iff.1 hu).1
    simp at this; omega
  subst hj
  simp at hu
  subst hu
  rw [Nat.zero_add, Nat.mul_one, Nat.add_zero]
  exact h.cell i (by simp [hi])
set_option maxRecDepth 100000 in
set_option maxHeartbeats 4000000 in
theorem contacts_208 (r : Rung) (cs : List Value) (slot : Int) (w : World) (henv : Env w) (hr : RungE w r cs) (hn : r.contacts.length ≤ 1000) (hk : ∀ c ∈ r.contacts, 0 ≤ c.kind ∧ c.kind < 4) (hs0 : 0 ≤ slot) (hs1 : slot ≤ 16384)
    (hS : (∀ t, redOne r.contacts = some t → NoPar (redD r.contacts.length) t) ∨ SortLaw r.contacts.length) :
    Calls Tryz.prog 208 #[.agg cs.toArray, .int .i64 slot] w fun e w' => ∃ v, e = .returned (.tuple #[v, .int .i64 (contactsE r.contacts)]) ∧ Bel w w' ∧ (contactsE r.contacts = 0 → w'.ownsRow w.heap.size 54 4 v (contactsF r.contacts slot).length ((contactsF r.contacts slot).flatMap insC)) := by
  have hr0 := Lib.hid hr
  obtain ⟨vc, vo, rfl, hc, ho⟩ := hr
  obtain ⟨ac, cc, rfl, _⟩ := hc.ex
  obtain ⟨ao, co, rfl, _⟩ := ho.ex
  clear ho
  generalize r.coils.length = no at *
  have hred := fun W (hb : Bel w W) => reduce_229 r _ W (RungE.mono _ _ _ _ hr0.out hb) hn hS
  have HE := Lib.hid (show contactsE r.contacts = if reduceE r.contacts ≠ 0 then reduceE r.contacts else if 64 < depthF (edgesB r.contacts) (redD r.contacts.length) (reduceT r.contacts) then 16 else 0 from rfl)
  go_enter Tryz.func208, Tryz.ntmps208
  go_wp2_with fail
  have hB : Bel w (w.alloc (.cells #[.string r.label, .slice ac r.contacts.length cc, .slice ao no co, .string r.jump] 33)) := (Bel.refl w).alloc _
  have q0 : Blk (w.alloc (.cells #[.string r.label, .slice ac r.contacts.length cc, .slice ao no co, .string r.jump] 33)) w.heap.size #[.string r.label, .slice ac r.contacts.length cc, .slice ao no co, .string r.jump] 33 := Blk.new w _ _
  generalize (w.alloc (.cells #[.string r.label, .slice ac r.contacts.length cc, .slice ao no co, .string r.jump] 33)) = W at *
  refine (hred W hB).mono ?_
  rintro en w1 ⟨ta, tb, tA, tn, tc, rfl, hb1, hT⟩
  replace hB := hB.trans hb1
  replace q0 := q0.bel hb1
  by_cases hre : reduceE r.contacts = 0
  · have hE2 := HE.out
    rw [if_neg (fun h => h hre)] at hE2
    obtain ⟨hv, hnd, hll⟩ := reduce_ok hre
    have hTT := hT hre
    have HE2 := Lib.hid hE2
    rw [hre]
    have Hre := Lib.hid hre
    clear HE hE2 hT hred hre hS
    obtain ⟨D, hD⟩ : ∃ D, redD r.contacts.length = D + 1 := ⟨2 * r.contacts.length + 2, by unfold redD; omega⟩
    have hF := Lib.hid (show contactsF r.contacts slot = layF ⟨r.contacts, slotsF slot r.contacts⟩ (D + 1) (reduceT r.contacts) by unfold contactsF; rw [hD])
    have hFl := contactsF_len Hre.out slot
    have hDl : D + 1 ≤ 1000000 := by rw [← hD]; unfold redD; omega
    rw [hD] at hv hnd hll hTT HE2
    clear hD
    generalize reduceT r.contacts = T at *
    have HTE := Lib.hid hTT.toE
    clear hTT
    have hmk := mk294 r.contacts.length (by omega)
    have r1 := fun o => (q0.alloc o).cell 1 rfl; have r2 := fun o o1 => ((q0.alloc o).alloc o1).cell 1 rfl
    go_wp2_with fail
    have hB3 : Bel w1 ((w1.alloc (.cells #[.int .i64 ta, .int .i64 tb, .slice tA tn tc] 332)).alloc (.cells (Array.replicate r.contacts.length (.bool false)) 4)) := ((Bel.refl w1).alloc _).alloc _
    have qt : Blk ((w1.alloc (.cells #[.int .i64 ta, .int .i64 tb, .slice tA tn tc] 332)).alloc (.cells (Array.replicate r.contacts.length (.bool false)) 4)) w1.heap.size #[.int .i64 ta, .int .i64 tb, .slice tA tn tc] 332 := (Blk.new w1 _ _).alloc _
    have qs : Blk ((w1.alloc (.cells #[.int .i64 ta, .int .i64 tb, .slice tA tn tc] 332)).alloc (.cells (Array.replicate r.contacts.length (.bool false)) 4)) (w1.heap.size + 1) (Array.replicate r.contacts.length (.bool false)) 4 := Blk.new1 w1 _ _ _
    generalize ((w1.alloc (.cells #[.int .i64 ta, .int .i64 tb, .slice tA tn tc] 332)).alloc (.cells (Array.replicate r.contacts.length (.bool false)) 4)) = W3 at *
    have hqs : Array.replicate r.contacts.length (Value.bool false) = ((edgesB (r.contacts.take 0) ++ List.replicate (r.contacts.length - 0) false).map Value.bool).toArray := by simp [edgesB]
    rw [hqs] at qs
    clear hqs r1 r2 hmk
    have hb0 : w.heap.size < w1.heap.size := q0.lt
    replace q0 := q0.bel hB3
    obtain ⟨sb, hsb⟩ : ∃ sb, sb = w1.heap.size + 1 := ⟨_, rfl⟩
    rw [← hsb] at qs ⊢
    have hsb1 : w1.heap.size < sb := by omega
    have hsw : w.heap.size ≤ w1.heap.size := hB.size
    clear hsb
    have hcs2 := hc.bel (Flat.mono _) hB
    have hq0 := q0.lt
    go_loopw [27] (fun x wr => ∃ k : Nat, k ≤ r.contacts.length ∧ x = .int .i64 k ∧ Bel w1 wr ∧ Blk wr w.heap.size #[.string r.label, .slice ac r.contacts.length cc, .slice ao no co, .string r.jump] 33 ∧ Blk wr w1.heap.size #[.int .i64 ta, .int .i64 tb, .slice tA tn tc] 332 ∧ Blk wr sb ((edgesB (r.contacts.take k) ++ List.replicate (r.contacts.length - k) false).map Value.bool).toArray 4) (fun x _ => r.contacts.length - (intOf x).toNat)
    case atStart => exact ⟨0, Nat.zero_le _, rfl, hB3, q0, qt, qs⟩
    case round =>
      clear hB3 q0 qt qs
      obtain ⟨k, hk2, rfl, hB3, q0, qt, qs⟩ := hrel
      by_cases hlt : k < r.contacts.length
      · have hg := List.getElem?_eq_getElem hlt
        obtain ⟨b, off, rfl, c0, c1, c2, c3, c4⟩ := (hcs2.bel (Flat.mono _) hB3).contact hg
        have hlE : (edgesB (r.contacts.take k)).length = k := by simp [edgesB]; omega
        have hT2 : (edgesB (r.contacts.take (k + 1)) ++ List.replicate (r.contacts.length - (k + 1)) false) = (edgesB (r.contacts.take k) ++ List.replicate (r.contacts.length - k) false).set k (seesB r.contacts[k].kind) := by
          have h1 : edgesB (r.contacts.take (k + 1)) = edgesB (r.contacts.take k) ++ [seesB r.contacts[k].kind] := by
            unfold edgesB
            rw [List.take_succ_eq_append_getElem hlt, List.map_append]; rfl
          have h2 : List.replicate (r.contacts.length - k) false = false :: List.replicate (r.contacts.length - (k + 1)) false := by
            rw [show r.contacts.length - k = (r.contacts.length - (k + 1)) + 1 by omega]; rfl
          rw [h1, h2, List.set_append, hlE]
          simp
        have hsk : ∃ u, ((edgesB (r.contacts.take k) ++ List.replicate (r.contacts.length - k) false).map Value.bool).toArray[k]? = some (.bool u) := by
          refine ⟨false, ?_⟩
          have h2 : List.replicate (r.contacts.length - k) false = false :: List.replicate (r.contacts.length - (k + 1)) false := by
            rw [show r.contacts.length - k = (r.contacts.length - (k + 1)) + 1 by omega]; rfl
          rw [h2]
          simp [hlE]
        obtain ⟨u, hu⟩ := hsk
        have HT2 := Lib.hid hT2
        clear hT2 hlE hg
        generalize r.contacts[k] = c at *
        obtain ⟨ck2, sp, na, cf, ctt⟩ := c
        dsimp only at *
        have sk := qs.cell k hu
        have sf := qs.frozen k
        go_wp2_with fail
        refine (sees230 ck2 sp na cf ctt _).mono ?_
        rintro en w5 ⟨rfl, hb5⟩
        have hbb : Bel wr w5 := ((Bel.refl wr).alloc _).trans hb5
        replace qs := qs.bel hbb; replace qt := qt.bel hbb; replace q0 := q0.bel hbb
        have sk := qs.cell k hu
        have sf := qs.frozen k
        clear c0 c1 c2 c3 c4
        go_wp2_with fail
        go_roundw
        case rel =>
          refine ⟨k + 1, by omega, by go_num, (hB3.trans hbb).setCell (by show w1.heap.size ≤ sb; omega) _, q0.set_other (by show sb ≠ w.heap.size; omega) _, qt.set_other (by show sb ≠ w1.heap.size; omega) _, ?_⟩
          have := qs.set k (.bool (seesB ck2))
          rw [HT2.out, List.map_set]
          simpa using this
        case measure => simp [intOf]; omega
      · obtain rfl : k = r.contacts.length := by omega
        rw [List.take_length, Nat.sub_self] at qs
        simp only [List.replicate_zero, List.append_nil] at qs
        have hel : (edgesB r.contacts).length = r.contacts.length := by simp [edgesB]
        have hSl := slBoolOf qs (n := r.contacts.length) hel.symm (by omega)
        have hTw := TreeE.mono _ _ _ _ _ HTE.out hB3
        have hsd := stackDepth231 (edgesB r.contacts) _ (D + 1) (by omega) (by omega) T _ wr hTw (by rw [hel]; exact hv) hnd (by rw [hel]; exact hll) hSl
        have hdb := depthF_bound (edgesB r.contacts) (D + 1) T
        have hBw : Bel w wr := hB.trans hB3
        have t0 := qt.cell 0 rfl; have t1 := qt.cell 1 rfl; have t2 := qt.cell 2 rfl
        clear hel hSl qs
        generalize depthF (edgesB r.contacts) (D + 1) T = dd at *
        go_wp2_with fail
        refine hsd.mono ?_
        rintro en w5 ⟨rfl, hb5⟩
        replace q0 := q0.bel hb5; replace qt := qt.bel hb5
        have hB5 := hBw.trans hb5
        have hT5 := TreeE.mono _ _ _ _ _ hTw hb5
        have t0 := qt.cell 0 rfl; have t1 := qt.cell 1 rfl; have t2 := qt.cell 2 rfl
        have r0 := q0.cell 0 rfl; have r1 := q0.cell 1 rfl; have r2 := q0.cell 2 rfl; have r3 := q0.cell 3 rfl
        by_cases hdd : 64 < dd
        · have HE3 := Lib.hid (show contactsE r.contacts = 16 by rw [HE2.out, if_pos hdd])
          have hd1 : decide (64 < dd) = true := by simpa using hdd
          clear hsd hTw
          go_wp2_with fail
          exact bodyPost_ret (v := .tuple #[.slice none 0 0, .int .i64 16]) (by simp [results, Tryz.results208, go_sem]) rfl ⟨.slice none 0 0, by rw [HE3.out], hB5, fun h => by rw [HE3.out] at h; cases h⟩
        · have HE3 := Lib.hid (show contactsE r.contacts = 0 by rw [HE2.out, if_neg hdd])
          have hd1 : decide (64 < dd) = false := by simpa using hdd
          have htr := tree232 r _ _ T (D + 1) slot w5 (henv.bel hB5) (RungE.mono _ _ _ _ hr0.out hB5) hT5 hn hv hnd hll hk hs0 hs1 (by rw [← hF.out]; omega)
          rw [← hF.out] at htr
          clear hsd hTw hF
          obtain ⟨code, hcd⟩ : ∃ code, code = contactsF r.contacts slot := ⟨_, rfl⟩
          rw [← hcd] at htr
          have Hcd := Lib.hid hcd
          clear hcd
          go_wp2_with fail
          refine htr.mono ?_
          rintro en w6 ⟨v6, rfl, ho6, hb6⟩
          obtain ⟨A6, k6, rfl, _⟩ := own_slice ho6
          clear htr
          go_wp2_with fail
          exact bodyPost_ret (v := .tuple #[.slice A6 code.length k6, .int .i64 0]) (by simp [results, Tryz.results208, go_sem]) rfl ⟨_, by rw [HE3.out], hB5.trans hb6, fun _ => by rw [← Hcd.out]; exact own_base ho6 hB5.size⟩
  · have hE2 := HE.out
    rw [if_pos hre] at hE2
    have HE2 := Lib.hid hE2
    have hz : (reduceE r.contacts == 0) = false := by simpa using hre
    have Hre := Lib.hid hre
    clear HE hE2 hT hred hre
    generalize reduceE r.contacts = F at *
    go_wp2_with fail
    exact bodyPost_ret (v := .tuple #[.slice none 0 0, .int .i64 F]) (by simp [results, Tryz.results208, go_sem]) rfl ⟨.slice none 0 0, by rw [HE2.out], hB.alloc _, fun h => absurd (HE2.out.symm.trans h) Hre.out⟩
end Go.Proofs.YtbgilebgdbgddaaGreatDoor
/- codegen.Coils -/
namespace Go.Proofs.YtbgilebgdbgddaaGreatDoor
open Go.RowKit
def writeI (k : Int) : Int := if k = 0 then 11 else if k = 1 then 12 else if k = 2 then 13 else 14
def coilI (c : Coil) : Ins := ⟨writeI c.kind, c.space, c.n, 0⟩
theorem Env.write {w : World} (h : Env w) {k : Nat} (hk : k < 4) : w.cell? ⟨6, k, none⟩ = some (.int .i64 (writeI k)) := by
  match k, hk with
  | 0, _ => exact h.writes 0 _ rfl
  | 1, _ => exact h.writes 1 _ rfl
  | 2, _ => exact h.writes 2 _ rfl
  | 3, _ => exact h.writes 3 _ rfl
set_option maxRecDepth 100000 in
set_option maxHeartbeats 4000000 in
theorem coils_any (r : Rung) (cs : List Value) (w : World) (henv : Env w) (hr : RungE w r cs) (hn : r.coils.length ≤ 1000) (hk : ∀ c ∈ r.coils, 0 ≤ c.kind ∧ c.kind < 4) :
    Calls Tryz.prog 209 #[.agg cs.toArray] w fun e w' => ∃ v, e = .returned (.tuple #[v, .int .i64 0]) ∧ w'.ownsRow w.heap.size 54 4 v r.coils.length ((r.coils.map coilI).flatMap insC) ∧ Bel w w' := by
  obtain ⟨vc, vo, rfl, hc, ho⟩ := hr
  obtain ⟨ac, cc, rfl, _⟩ := hc.ex
  obtain ⟨ao, co, rfl, ho1, ho2, _⟩ := ho.ex
  obtain ⟨lbl, ct, os, jp⟩ := r
  dsimp only at *
  clear hc
  generalize ct.length = nc at *
  have hk' := Lib.hid hk
  clear hk
  go_enter Tryz.func209, Tryz.ntmps209
  go_wp2_with fail
  go_loopw [4, 10] (fun lv x wr => ∃ k : Nat, k ≤ os.length ∧ x = .int .i64 k ∧ Bel w wr ∧ wr.ownsRow w.heap.size 54 4 lv k (((os.take k).map coilI).flatMap insC)) (fun _ x _ => os.length - (intOf x).toNat)
  case atStart => exact ⟨0, Nat.zero_le _, rfl, (Bel.refl w).alloc _, World.ownsRow_nil _ _ _ _⟩
  case round =>
    obtain ⟨k, hk, rfl, hB, hrow⟩ := hrel
    by_cases hlt : k < os.length
    · have hg := List.getElem?_eq_getElem hlt
      have hkk := hk'.out _ (List.getElem_mem hlt)
      obtain ⟨b, off, rfl, c0, c1, c2⟩ := (ho.bel (Flat.mono _) hB).coil hg
      have hT : ((os.take (k + 1)).map coilI).flatMap insC = ((os.take k).map coilI).flatMap insC ++ insC (coilI os[k]) := by
        rw [List.take_succ_eq_append_getElem hlt, List.map_append, List.flatMap_append]; simp
      generalize os[k] = c at *
      obtain ⟨ck, sp, na⟩ := c
      dsimp only at *
      obtain ⟨kn, rfl⟩ := Int.eq_ofNat_of_zero_le hkk.1
      obtain ⟨L, hL⟩ : ∃ L, L = writeI kn := ⟨_, rfl⟩
      have HL : ∀ w', Bel w w' → w'.cell? ⟨6, kn, none⟩ = some (.int .i64 L) := fun w' h => by rw [hL]; exact (henv.bel h).write (by omega)
      have hcI : coilI ⟨kn, sp, na⟩ = ⟨L, sp, na, 0⟩ := by rw [hL]; rfl
      rw [hcI] at hT
      have HT := Lib.hid hT
      clear hT hcI hL hg
      generalize ((os.take k).map coilI).flatMap insC = xs at *
      obtain ⟨A, c, rfl, _⟩ := own_slice hrow
      have hd1 : decide ((kn : Int) < 0) = false := by simp <;> omega
      have hd2 : decide ((4 : Int) ≤ kn) = false := by simp <;> omega
      have hd3 : ¬ (kn : Int) < 0 := by omega
      have hd4 : ¬ (4 : Int) ≤ kn := by omega
      go_wp2_with fail
      have hW : Bel wr (wr.alloc (.cells #[.int .i64 kn, .int .i64 sp, .int .i64 na] 131)) := (Bel.refl wr).alloc _
      have qc : Blk (wr.alloc (.cells #[.int .i64 kn, .int .i64 sp, .int .i64 na] 131)) wr.heap.size #[.int .i64 kn, .int .i64 sp, .int .i64 na] 131 := Blk.new wr _ _
      generalize (wr.alloc (.cells #[.int .i64 kn, .int .i64 sp, .int .i64 na] 131)) = W at *
      replace hB := hB.trans hW
      have hl := HL W hB
      have q0 := qc.cell 0 rfl; have q1 := qc.cell 1 rfl; have q2 := qc.cell 2 rfl
      obtain ⟨W2, hW2⟩ : ∃ W2, W2 = (W.alloc (.cells #[.int .i64 L, .int .i64 sp, .int .i64 na, .int .i64 0] 54)).drew := ⟨_, rfl⟩
      have hB2 : Bel W W2 := by rw [hW2]; exact ((Bel.refl W).alloc _).drew
      have hnb : Blk W2 W.heap.size #[.int .i64 L, .int .i64 sp, .int .i64 na, .int .i64 0] 54 := by rw [hW2]; exact (Blk.new W _ _).drewN 1
      have hrow2 := own_bel (own_bel hrow hW) hB2
      have hnews : ∀ u ∈ insC ⟨L, sp, na, 0⟩, u.oneCell' = true := by simp [insC, Value.oneCell']
      have hba : w.heap.size ≤ W2.heap.size := Nat.le_trans hB.size hB2.size
      go_region_law (first | (rw [← hW2]; apply step_app und42 info54 rfl (by decide) (by decide) rfl (.tmp 22) (.tmp 30) rfl rfl hrow2 (m := 1) (news := insC ⟨L, sp, na, 0⟩) rfl rfl hnb.news hnews (by decide) (by omega) hba; intro g cap w7 ho7 hgr htf hat))
      all_goals
        (go_wp2_with fail
         go_roundw
         case rel => exact ⟨k + 1, by omega, by go_num, htf.toBel (hB.trans hB2), by rw [HT.out]; exact ho7⟩
         case measure => simp [intOf]; omega)
    · obtain rfl : k = os.length := by omega
      rw [List.take_length] at hrow
      obtain ⟨A, c, rfl, _⟩ := own_slice hrow
      go_wp2_with fail
      exact bodyPost_ret (v := .tuple #[.slice A os.length c, .int .i64 0]) (by simp [results, Tryz.results209, go_sem]) rfl (by first | exact ⟨_, rfl, hrow, hB⟩ | exact ⟨⟨_, rfl⟩, hrow, hB⟩ | (simp; exact ⟨hrow, hB⟩))
end Go.Proofs.YtbgilebgdbgddaaGreatDoor
