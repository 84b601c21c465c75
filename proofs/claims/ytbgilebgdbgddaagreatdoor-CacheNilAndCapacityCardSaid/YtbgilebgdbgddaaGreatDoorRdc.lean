/- reduce.Reduce -/
import Derived.Test.YtbgilebgdbgddaaGreatDoorSrt
set_option linter.unusedVariables false
set_option linter.unusedSimpArgs false
namespace Go.Proofs.YtbgilebgdbgddaaGreatDoor
open Go.RowKit
def edge0 : Nat → List Contact → List Ed
  | _, [] => []
  | i, c :: l => ⟨c.from_, c.to_, .node 0 i []⟩ :: edge0 (i + 1) l
theorem edge0_len : ∀ (l : List Contact) (i : Nat), (edge0 i l).length = l.length
  | [], _ => rfl
  | _ :: l, i => by rw [edge0, List.length_cons, edge0_len l, List.length_cons]
theorem edge0_append : ∀ (a b : List Contact) (i : Nat), edge0 i (a ++ b) = edge0 i a ++ edge0 (i + a.length) b
  | [], b, i => rfl
  | c :: a, b, i => by
    rw [List.cons_append, edge0, edge0, edge0_append a b, List.cons_append, List.length_cons, show i + 1 + a.length = i + (a.length + 1) by omega]
theorem edge0_mem : ∀ (l : List Contact) (i : Nat) (x : Ed), x ∈ edge0 i l → (∃ c ∈ l, x.fr = c.from_ ∧ x.to_ = c.to_) ∧ ∃ k : Nat, i ≤ k ∧ k < i + l.length ∧ x.t = .node 0 k []
  | [], i, x, h => by simp [edge0] at h
  | c :: l, i, x, h => by
    rw [edge0] at h
    rcases List.mem_cons.1 h with rfl | h
    · exact ⟨⟨c, by simp, rfl, rfl⟩, i, Nat.le_refl _, by simp, rfl⟩
    · obtain ⟨⟨c', h1, h2⟩, k, h3, h4, h5⟩ := edge0_mem l (i + 1) x h
      exact ⟨⟨c', by simp [h1], h2⟩, k, by omega, by rw [List.length_cons]; omega, h5⟩
theorem edge0_lv : ∀ (l : List Contact) (i : Nat), ((edge0 i l).flatMap fun x => lvF 1 x.t) = (List.range' i l.length).map Int.ofNat
  | [], i => rfl
  | c :: l, i => by
    rw [edge0, List.flatMap_cons, edge0_lv l, List.length_cons, List.range'_succ, List.map_cons]
    rfl
theorem edge0_ok (l : List Contact) : EdsV l.length 1 (edge0 0 l) := by
  refine ⟨fun x hx => ?_, ?_⟩
  · obtain ⟨_, k, h1, h2, h3⟩ := edge0_mem l 0 x hx
    rw [h3]
    exact .inl ⟨rfl, by simp [Tr.n_node], by simp [Tr.n_node]; omega, rfl⟩
  · rw [edge0_lv, List.range_eq_range']
theorem EdsV.leaves {N d : Nat} {l : List Ed} (h : EdsV N d l) {x : Ed} (hx : x ∈ l) : (lvF d x.t).length ≤ N := by
  have h1 := h.lv.length_eq
  simp only [List.length_map, List.length_range] at h1
  rw [← h1]
  clear h1 h
  induction l with
  | nil => simp at hx
  | cons a l ih =>
    rw [List.flatMap_cons, List.length_append]
    rcases List.mem_cons.1 hx with rfl | hx
    · omega
    · have := ih hx; omega
theorem EdsV.kids {N d : Nat} {l : List Ed} (h : EdsV N d l) {x : Ed} (hx : x ∈ l) : (x.t.kind ≠ 0 → 0 < x.t.kids.length) ∧ x.t.kids.length ≤ N := by
  have h1 := h.ok x hx
  have h2 := h.leaves hx
  obtain ⟨e, rfl⟩ := h1.pos
  have h3 := kids_le h1
  refine ⟨fun h0 => ?_, by omega⟩
  rcases h1 with ⟨h, _⟩ | ⟨_, _, h, _⟩
  · exact absurd h h0
  · omega
/-- The fuel of all trees. -/
def redD (N : Nat) : Nat := 2 * N + 3
def redL (cons : List Contact) : List Ed := redF cons.length (edge0 0 cons)
/-- The tree of a rung that is reduced to one edge from rail to rail. -/
def redOne (cons : List Contact) : Option Tr := match redL cons with
  | [e] => if e.fr = sL ∧ e.to_ = sR then some e.t else none
  | _ => none
def reduceE (cons : List Contact) : Int := if flowE cons ≠ 0 then flowE cons else match redOne cons with | none => 14 | some _ => 0
def reduceT (cons : List Contact) : Tr := match redOne cons with | none => .node 0 0 [] | some t => sortedF (redD cons.length) t
theorem flow_topo {cons : List Contact} (h : flowE cons = 0) : topoE cons = 0 := by
  unfold flowE at h
  split at h
  · cases h
  · split at h
    · exact h
    · rename_i h1; simpa using h1
theorem red_start {cons : List Contact} (h : flowE cons = 0) : ∃ rank, RedI cons.length 1 rank (edge0 0 cons) := by
  obtain ⟨rank, hr⟩ := topo_rank (flow_topo h)
  refine ⟨rank, edge0_ok cons, fun x hx => ?_⟩
  obtain ⟨⟨c, hc, h1, h2⟩, _⟩ := edge0_mem cons 0 x hx
  rw [h1, h2]
  exact hr c hc
theorem perm_leaves {N d : Nat} {l : List Ed} {x : Ed} (h : EdsV N d l) (hl : l = [x]) : TrV N d x.t ∧ (lvF d x.t).Nodup ∧ (lvF d x.t).length = N := by
  subst hl
  have hp := h.lv
  simp only [List.flatMap_cons, List.flatMap_nil, List.append_nil] at hp
  refine ⟨h.ok x (by simp), hp.nodup_iff.2 ?_, by rw [hp.length_eq]; simp⟩
  refine List.Pairwise.map _ (fun a b hab e => ?_) List.nodup_range
  exact hab (by injection e)
theorem red_next {m : Nat} {cur R : List Ed} (h : redF m cur = R) (hm : cur.length ≤ m) : ((redStep cur).2 = true → ∃ m', m = m' + 1 ∧ redF m' (redStep cur).1 = R) ∧ ((redStep cur).2 = false → (redStep cur).1 = R) := by
  cases m with
  | zero =>
    have : cur = [] := List.eq_nil_of_length_eq_zero (by omega)
    subst this
    exact ⟨fun h => by simp [redStep, parF, serF, firstF] at h, fun _ => h⟩
  | succ m =>
    unfold redF at h
    refine ⟨fun h2 => ⟨m, rfl, by rw [if_pos h2] at h; exact h⟩, fun h2 => by rw [if_neg (by rw [h2]; simp)] at h; exact h⟩
theorem par_red {N d : Nat} {rank : ByteArray → Nat} {l : List Ed} (h : RedI N d rank l) : RedI N (d + 1) rank ((parF l).getD l) ∧ ((parF l).getD l).length ≤ l.length := by
  cases hp : parF l with
  | none => exact ⟨h.le (by omega), Nat.le_refl _⟩
  | some r =>
    obtain ⟨h1, h2⟩ := parF_ok h hp
    exact ⟨h1, by simp; omega⟩
def goLen : Value → Value → Nat
  | .slice _ n _, .bool true => n + 1
  | _, _ => 0
theorem OwnEd.snoc {w w' : World} {B d : Nat} {v v' : Value} {es : List Ed} {cs c : List Value} {e : Ed} (h : OwnEd w B d v es cs) (ho : w'.ownsRow B 355 5 v' (es.length + 1) (cs ++ c)) (hf : TFr [355] B w w') (he : EdgeT d w' e c) : OwnEd w' B d v' (es ++ [e]) (cs ++ c) := by
  have hl := h.own.1
  refine ⟨by rw [List.length_append]; exact ho, fun i x hi => ?_⟩
  rcases Nat.lt_or_ge i es.length with h1 | h1
  · rw [List.getElem?_append_left h1] at hi
    obtain ⟨c5, h2, h3⟩ := h.el i x hi
    refine ⟨c5, h2.tfr hf (by simp), fun j u hu => ?_⟩
    have hj := (List.getElem?_eq_some_iff.1 hu).1
    rw [h2.len] at hj
    rw [List.getElem?_append_left (by omega)]
    exact h3 j u hu
  · rw [List.getElem?_append_right h1] at hi
    have hi0 : i - es.length = 0 := by
      have := (List.getElem?_eq_some_iff.1 hi).1
      simp at this; omega
    rw [hi0] at hi
    simp at hi
    subst hi
    refine ⟨c, he, fun j u hu => ?_⟩
    rw [List.getElem?_append_right (by omega), show i * 5 + j - cs.length = j by omega]
    exact hu
set_option maxRecDepth 100000 in
set_option maxHeartbeats 4000000 in
theorem reduce_229 (r : Rung) (cs : List Value) (w : World) (hr : RungE w r cs) (hn : r.contacts.length ≤ 1000) (hS : (∀ t, redOne r.contacts = some t → NoPar (redD r.contacts.length) t) ∨ SortLaw r.contacts.length) :
    Calls Tryz.prog 229 #[.agg cs.toArray] w fun e w' => ∃ a b A n c, e = .returned (.tuple #[.agg #[.int .i64 a, .int .i64 b, .slice A n c], .int .i64 (reduceE r.contacts)]) ∧ Bel w w' ∧ (reduceE r.contacts = 0 → TreeT (redD r.contacts.length) w' (reduceT r.contacts) [.int .i64 a, .int .i64 b, .slice A n c]) := by
  have hr0 := Lib.hid hr
  obtain ⟨vc, vo, rfl, hc, ho⟩ := hr
  obtain ⟨ac, cc, rfl, _⟩ := hc.ex
  obtain ⟨ao, co, rfl, _⟩ := ho.ex
  clear ho
  generalize r.coils.length = no at *
  go_enter Tryz.func229, Tryz.ntmps229
  go_wp2_with fail
  have hB : Bel w ((w.alloc (.cells #[.string r.label, .slice ac r.contacts.length cc, .slice ao no co, .string r.jump] 33)).alloc (.cells #[.int .i64 0, .int .i64 0, .slice none 0 0] 332)) := ((Bel.refl w).alloc _).alloc _
  have q0 : Blk ((w.alloc (.cells #[.string r.label, .slice ac r.contacts.length cc, .slice ao no co, .string r.jump] 33)).alloc (.cells #[.int .i64 0, .int .i64 0, .slice none 0 0] 332)) w.heap.size #[.string r.label, .slice ac r.contacts.length cc, .slice ao no co, .string r.jump] 33 := (Blk.new w _ _).alloc _
  have q2 : Blk ((w.alloc (.cells #[.string r.label, .slice ac r.contacts.length cc, .slice ao no co, .string r.jump] 33)).alloc (.cells #[.int .i64 0, .int .i64 0, .slice none 0 0] 332)) (w.heap.size + 1) #[.int .i64 0, .int .i64 0, .slice none 0 0] 332 := Blk.new1 w _ _ _
  generalize ((w.alloc (.cells #[.string r.label, .slice ac r.contacts.length cc, .slice ao no co, .string r.jump] 33)).alloc (.cells #[.int .i64 0, .int .i64 0, .slice none 0 0] 332)) = W at *
  refine (flow_any r _ W (RungE.mono _ _ _ _ hr0.out hB) hn).mono ?_
  rintro en w1 ⟨rfl, hb1⟩
  replace hB := hB.trans hb1
  replace q0 := q0.bel hb1
  replace q2 := q2.bel hb1
  obtain ⟨B2, hB2⟩ : ∃ B2, B2 = w.heap.size + 1 := ⟨_, rfl⟩
  rw [← hB2] at q2 ⊢
  have g2 : w.heap.size < B2 := by omega
  clear hB2
  have l0 := q2.cell 0 rfl; have l1 := q2.cell 1 rfl; have l2 := q2.cell 2 rfl
  have m0 := q2.frozen 0; have m1 := q2.frozen 1; have m2 := q2.frozen 2
  have hE := Lib.hid (show reduceE r.contacts = if flowE r.contacts ≠ 0 then flowE r.contacts else match redOne r.contacts with | none => 14 | some _ => 0 from rfl)
  by_cases hf : flowE r.contacts = 0
  · rw [hf] at hE ⊢
    have Hf := Lib.hid hf
    clear hf
    have q01 := q0.cell 1 rfl
    go_wp2_with fail
    clear l0 l1 l2 m0 m1 m2 q01
    obtain ⟨B, hBe⟩ : ∃ B, B = w1.heap.size := ⟨_, rfl⟩
    have gB : B2 < B := by rw [hBe]; exact q2.lt
    have gW : B ≤ w1.heap.size := by omega
    clear hBe
    go_loopw [5, 20] (fun lv x wr => ∃ i : Nat, i ≤ r.contacts.length ∧ x = .int .i64 i ∧ Bel w wr ∧ B ≤ wr.heap.size ∧ Blk wr B2 #[.int .i64 0, .int .i64 0, .slice none 0 0] 332 ∧ ∃ csx, OwnEd wr B 1 lv (edge0 0 (r.contacts.take i)) csx) (fun _ x _ => r.contacts.length - (intOf x).toNat)
    case atStart => exact ⟨0, Nat.zero_le _, rfl, hB, gW, q2, [], ⟨World.ownsRow_nil _ _ _ _, fun i e h => by simp [edge0] at h⟩⟩
    case round =>
      clear hB q0 q2 gW
      obtain ⟨i, hi, rfl, hB, gW, q2, csx, hrow⟩ := hrel
      by_cases hlt : i < r.contacts.length
      · have hg := List.getElem?_eq_getElem hlt
        obtain ⟨b, off, rfl, c0, c1, c2, c3, c4⟩ := (hc.bel (Flat.mono _) hB).contact hg
        have hT : edge0 0 (r.contacts.take (i + 1)) = edge0 0 (r.contacts.take i) ++ [⟨r.contacts[i].from_, r.contacts[i].to_, .node 0 i []⟩] := by
          rw [List.take_succ_eq_append_getElem hlt, edge0_append, List.length_take, Nat.min_eq_left (by omega), Nat.zero_add]; rfl
        have hTl := Lib.hid (show (edge0 0 (r.contacts.take i)).length = i by rw [edge0_len, List.length_take]; omega)
        have hT2 := Lib.hid hT
        clear hT hg
        generalize r.contacts[i] = c at *
        generalize edge0 0 (r.contacts.take i) = es at *
        obtain ⟨ck, sp, na, cf, ct⟩ := c
        dsimp only at *
        have ho := hrow.own
        obtain ⟨Av, cv, rfl, _⟩ := own_slice ho
        have hel : es.length < 1000 := by have := hTl.out; omega
        have hB2' : Bel wr ((wr.alloc (.cells #[.int .i64 ck, .int .i64 sp, .int .i64 na, .string cf, .string ct] 108)).alloc (.cells #[.string cf, .string ct, .int .i64 0, .int .i64 i, .slice none 0 0] 355)) := ((Bel.refl wr).alloc _).alloc _
        have hnb : Blk ((wr.alloc (.cells #[.int .i64 ck, .int .i64 sp, .int .i64 na, .string cf, .string ct] 108)).alloc (.cells #[.string cf, .string ct, .int .i64 0, .int .i64 i, .slice none 0 0] 355)) (wr.heap.size + 1) #[.string cf, .string ct, .int .i64 0, .int .i64 i, .slice none 0 0] 355 := Blk.new1 wr _ _ _
        generalize hW2 : ((wr.alloc (.cells #[.int .i64 ck, .int .i64 sp, .int .i64 na, .string cf, .string ct] 108)).alloc (.cells #[.string cf, .string ct, .int .i64 0, .int .i64 i, .slice none 0 0] 355)) = W2 at *
        have ho6 := own_bel ho hB2'
        have hnews : ∀ u ∈ [Value.string cf, .string ct, .int .i64 0, .int .i64 i, .slice none 0 0], u.oneCell' = true := by
          intro u hu; simp at hu; rcases hu with rfl | rfl | rfl | rfl | rfl <;> rfl
        have hba : B ≤ W2.heap.size := Nat.le_trans gW hB2'.size
        have HW2 := Lib.hid hW2
        clear hW2
        go_wp2_with (first | (rw [HW2.out]; at_builtin; apply list_app und351 info355 rfl (by decide) (by decide) rfl (.tmp 25) (.tmp 34) rfl rfl ho6 (m := 1) (news := [Value.string cf, .string ct, .int .i64 0, .int .i64 i, .slice none 0 0]) rfl rfl hnb.news hnews (by decide) (by omega) hba; intro g cap w7 ho7 hgr htf hat))
        go_roundw
        case rel =>
          refine ⟨i + 1, by omega, by go_num, (htf.mono (show w.heap.size ≤ B by omega)).toBel (hB.trans hB2'), Nat.le_trans hba htf.size, htf.blk (q2.bel hB2') (.inl gB), csx ++ [Value.string cf, .string ct, .int .i64 0, .int .i64 i, .slice none 0 0], ?_⟩
          rw [hT2.out]
          exact OwnEd.snoc (w := W2) (hrow.bel hB2') ho7 htf ⟨_, rfl, .slice none 0 0, rfl, SlAt.nil _ _ _, fun h => absurd rfl h⟩
        case measure => simp [intOf]; omega
      · obtain rfl : i = r.contacts.length := by omega
        rw [List.take_length] at hrow
        obtain ⟨rank, hrk⟩ := red_start Hf.out
        generalize hN : r.contacts.length = N at *
        go_wp2_with fail
        go_loopw [5, 8] (fun lv gv w2 => ∃ (cur : List Ed) (csx : List Value) (d : Nat) (goes : Bool), gv = .bool goes ∧ OwnEd w2 B (d + 1) lv cur csx ∧ Bel w w2 ∧ B ≤ w2.heap.size ∧ Blk w2 B2 #[.int .i64 0, .int .i64 0, .slice none 0 0] 332 ∧ RedI N (d + 1) rank cur ∧ cur.length ≤ N ∧ ((goes = true ∧ ∃ m, redF m cur = redL r.contacts ∧ cur.length ≤ m ∧ d + 1 + 2 * (m + 1) ≤ redD N) ∨ (goes = false ∧ cur = redL r.contacts ∧ d + 1 ≤ redD N))) (fun lv gv _ => goLen lv gv)
        case atStart => exact ⟨edge0 0 r.contacts, csx, 0, true, rfl, hrow, hB, gW, q2, hrk, by rw [edge0_len, hN]; exact Nat.le_refl _, .inl ⟨rfl, N, by unfold redL; rw [hN], by rw [edge0_len, hN]; exact Nat.le_refl _, by unfold redD; omega⟩⟩
        case round =>
          clear hB gW q2 hrow hrk
          obtain ⟨cur, csx, d, goes, rfl, hO, hB, gW, q2, hrk, hcl, hgo⟩ := hrel
          obtain ⟨Av, cv, rfl, _⟩ := own_slice hO.own
          rcases hgo with ⟨rfl, m, hm, hml, hmd⟩ | ⟨rfl, hcur, hdd⟩
          · have hkids := fun e (he : e ∈ cur) => hrk.v.kids he
            have hpar := par_247 B d cur csx _ _ hO (fun e he => ⟨fun h => (hkids e he).1 (by omega), by have := (hkids e he).2; omega⟩) (by omega) gW
            have hpr := par_red hrk
            have hnx := red_next hm hml
            have hst := redStep_ok hrk
            have hrs : redStep cur = ((serF ((parF cur).getD cur)).getD ((parF cur).getD cur), (parF cur).isSome || (serF ((parF cur).getD cur)).isSome) := rfl
            rw [hrs] at hnx hst
            dsimp only at hnx hst
            clear hrs hkids hm
            generalize (parF cur).getD cur = l1 at *
            generalize (parF cur).isSome = b1 at *
            go_wp2_with fail
            refine hpar.mono ?_
            rintro en w3 ⟨v1, cs1, rfl, hO1, hf1⟩
            have hkids := fun e (he : e ∈ l1) => hpr.1.v.kids he
            have gW3 : B ≤ w3.heap.size := Nat.le_trans gW hf1.size
            have hser := ser_248 B (d + 1) l1 cs1 _ _ hO1 (fun e he => ⟨fun h => (hkids e he).1 (by omega), by have := (hkids e he).2; omega⟩) hpr.1.r.ne (by omega) gW3
            have hl1 := hpr.2
            clear hpar hkids hpr
            generalize (serF l1).getD l1 = l2 at *
            generalize (serF l1).isSome = b2 at *
            go_wp2_with fail
            refine hser.mono ?_
            rintro en w4 ⟨v2, cs2, rfl, hO2, hf2⟩
            clear hser
            have hf12 := hf1.trans hf2
            have hB4 : Bel w w4 := (hf12.mono (show w.heap.size ≤ B by omega)).toBel hB
            have q24 := hf12.blk q2 (.inl gB)
            obtain ⟨A2, c2, rfl, _⟩ := own_slice hO2.own
            have gW4 : B ≤ w4.heap.size := Nat.le_trans gW3 hf2.size
            have hfin : ∀ b : Bool, b = (b1 || b2) → ∃ (cur : List Ed) (csx : List Value) (d : Nat) (goes : Bool), (Value.bool b) = .bool goes ∧ OwnEd w4 B (d + 1) (.slice A2 l2.length c2) cur csx ∧ Bel w w4 ∧ B ≤ w4.heap.size ∧ Blk w4 B2 #[.int .i64 0, .int .i64 0, .slice none 0 0] 332 ∧ RedI N (d + 1) rank cur ∧ cur.length ≤ N ∧ ((goes = true ∧ ∃ m, redF m cur = redL r.contacts ∧ cur.length ≤ m ∧ d + 1 + 2 * (m + 1) ≤ redD N) ∨ (goes = false ∧ cur = redL r.contacts ∧ d + 1 ≤ redD N)) := by
              intro b hb
              refine ⟨l2, cs2, d + 2, b, rfl, hO2, hB4, gW4, q24, hst.1, by omega, ?_⟩
              cases b with
              | true =>
                obtain ⟨m', hm', hm2⟩ := hnx.1 hb.symm
                have := hst.2.1 hb.symm
                exact .inl ⟨rfl, m', hm2, by omega, by omega⟩
              | false => exact .inr ⟨rfl, hnx.2 hb.symm, by omega⟩
            have hmeas : ∀ b : Bool, b = (b1 || b2) → goLen (.slice A2 l2.length c2) (.bool b) < goLen (.slice Av cur.length cv) (.bool true) := by
              intro b hb
              cases b with
              | true => have := hst.2.1 hb.symm; simp only [goLen]; omega
              | false => simp only [goLen]; omega
            have Hfin := Lib.hid hfin
            have Hmeas := Lib.hid hmeas
            clear hfin hmeas hnx hst
            cases b1 <;> cases b2
            all_goals
              go_wp2_with fail
              go_roundw
            all_goals first
              | exact Hfin.out _ rfl
              | exact Hmeas.out _ rfl
          · subst hcur
            clear hcl
            have hR1 : redOne r.contacts = match redL r.contacts with | [e] => if e.fr = sL ∧ e.to_ = sR then some e.t else none | _ => none := rfl
            have hT1 : reduceT r.contacts = match redOne r.contacts with | none => .node 0 0 [] | some t => sortedF (redD N) t := by unfold reduceT; rw [hN]
            have hE1 := hE.out
            rw [if_neg (fun h => h rfl)] at hE1
            have l0 := q2.cell 0 rfl; have l1 := q2.cell 1 rfl; have l2 := q2.cell 2 rfl
            have m0 := q2.frozen 0; have m1 := q2.frozen 1; have m2 := q2.frozen 2
            have hlow : w.heap.size ≤ B2 := by omega
            generalize redL r.contacts = R at *
            by_cases hone : R.length = 1
            · obtain ⟨e, rfl⟩ : ∃ e, R = [e] := by
                match R, hone with
                | [e], _ => exact ⟨e, rfl⟩
              obtain ⟨hv, hnd, hll⟩ := perm_leaves hrk.v rfl
              obtain ⟨g, cur, rfl, hbg, hq, _⟩ := hO.block (by simp)
              obtain ⟨c3, ht, x0, x1, x2⟩ := hO.at (i := 0) rfl
              have hht := Lib.hid ht
              obtain ⟨vx, rfl, hsx, _⟩ := ht
              obtain ⟨ax, cx, rfl, _⟩ := hsx.ex
              have x20 := x2 0 _ rfl; have x21 := x2 1 _ rfl; have x22 := x2 2 _ rfl
              simp only [Nat.zero_mul, Nat.zero_add, Nat.add_zero] at x0 x1 x20 x21 x22
              clear x2 hsx hone
              by_cases hp : e.fr = sL ∧ e.to_ = sR
              · dsimp only at hR1
                rw [if_pos hp] at hR1
                rw [hR1] at hE1 hT1 hS
                dsimp only at hE1 hT1
                have HE1 := Lib.hid hE1; have HT1 := Lib.hid hT1
                have hp1 : e.fr.toList = [76] := by rw [hp.1]; decide +kernel
                have hp2 : e.to_.toList = [82] := by rw [hp.2]; decide +kernel
                have hs : NoPar (redD N) e.t ∨ SortLaw N := hS.imp (fun h => h _ rfl) id
                have hcall := sorted_249 N hn (redD N) e.t _ wr ((hht.out.le hdd).toE) (hv.le hdd) (by rw [lvF_le hdd hv]; exact hnd) hs (by rw [lvF_le hdd hv, hll]; omega)
                clear hE1 hT1 hR1 hE hS hs hp hnd hll hv
                go_wp2_with fail
                refine hcall.mono ?_
                rintro en w5 ⟨c, rfl, hb5, hh5⟩
                have ht5 := hh5.here
                generalize hrd : redD N = D at *
                cases D with
                | zero => exact ht5.elim
                | succ D =>
                obtain ⟨v5, rfl, hs5, hi5⟩ := ht5
                obtain ⟨a5, p5, rfl, _⟩ := hs5.ex
                have hB5 := hB.trans hb5
                replace q2 := q2.bel hb5
                have l0 := q2.cell 0 rfl; have l1 := q2.cell 1 rfl; have l2 := q2.cell 2 rfl
                have m0 := q2.frozen 0; have m1 := q2.frozen 1; have m2 := q2.frozen 2
                have hh6 := hh5
                generalize sortedF (D + 1) e.t = T at *
                clear hs5 hi5 hcall
                go_wp2_with fail
                have z6 := (((q2.set 0 (.int .i64 T.kind)).set 1 (.int .i64 T.n)).set 2 (.slice a5 T.kids.length p5))
                have hBz : Bel w (((w5.setCell ⟨B2, 0, none⟩ (.int .i64 T.kind)).setCell ⟨B2, 1, none⟩ (.int .i64 T.n)).setCell ⟨B2, 2, none⟩ (.slice a5 T.kids.length p5)) := ((hB5.setCell (by exact hlow) _).setCell (by exact hlow) _).setCell (by exact hlow) _
                have hb2w : B2 < wr.heap.size := Nat.lt_of_lt_of_le gB gW
                have hTz := (((hh6.set' B2 0 (.int .i64 T.kind) hb2w).set' B2 1 (.int .i64 T.n) hb2w).set' B2 2 (.slice a5 T.kids.length p5) hb2w).here
                generalize (((w5.setCell ⟨B2, 0, none⟩ (.int .i64 T.kind)).setCell ⟨B2, 1, none⟩ (.int .i64 T.n)).setCell ⟨B2, 2, none⟩ (.slice a5 T.kids.length p5)) = W9 at *
                have y0 := z6.cell 0 rfl; have y1 := z6.cell 1 rfl; have y2 := z6.cell 2 rfl
                exact bodyPost_ret (v := .tuple #[.agg #[.int .i64 T.kind, .int .i64 T.n, .slice a5 T.kids.length p5], .int .i64 0]) (by simp [results, Tryz.results229, go_sem, y0, y1, y2]) rfl ⟨_, _, _, _, _, by rw [HE1.out], hBz, fun _ => by rw [HT1.out, hN, hrd]; exact hTz⟩
              · dsimp only at hR1
                rw [if_neg hp] at hR1
                rw [hR1] at hE1
                have HE1 := Lib.hid hE1
                have hpp : ¬ e.fr.toList = [76] ∨ (e.fr.toList = [76] ∧ ¬ e.to_.toList = [82]) := by
                  by_cases h1 : e.fr = sL
                  · exact .inr ⟨by rw [h1]; decide +kernel, fun h => hp ⟨h1, toList_inj.1 (h.trans (by decide +kernel))⟩⟩
                  · exact .inl fun h => h1 (toList_inj.1 (h.trans (by decide +kernel)))
                clear hE1 hR1 hT1 hE hS hp hnd hll hv
                rcases hpp with hp1 | ⟨hp1, hp2⟩
                · go_wp2_with fail
                  have z6 := (((q2.set 0 (.int .i64 0)).set 1 (.int .i64 0)).set 2 (.slice none 0 0))
                  have hBz : Bel w (((wr.setCell ⟨B2, 0, none⟩ (.int .i64 0)).setCell ⟨B2, 1, none⟩ (.int .i64 0)).setCell ⟨B2, 2, none⟩ (.slice none 0 0)) := ((hB.setCell (by exact hlow) _).setCell (by exact hlow) _).setCell (by exact hlow) _
                  generalize (((wr.setCell ⟨B2, 0, none⟩ (.int .i64 0)).setCell ⟨B2, 1, none⟩ (.int .i64 0)).setCell ⟨B2, 2, none⟩ (.slice none 0 0)) = W9 at *
                  have y0 := z6.cell 0 rfl; have y1 := z6.cell 1 rfl; have y2 := z6.cell 2 rfl
                  exact bodyPost_ret (v := .tuple #[.agg #[.int .i64 0, .int .i64 0, .slice none 0 0], .int .i64 14]) (by simp [results, Tryz.results229, go_sem, y0, y1, y2]) rfl ⟨0, 0, none, 0, 0, by rw [HE1.out], hBz, fun h => by rw [HE1.out] at h; cases h⟩
                · go_wp2_with fail
                  have z6 := (((q2.set 0 (.int .i64 0)).set 1 (.int .i64 0)).set 2 (.slice none 0 0))
                  have hBz : Bel w (((wr.setCell ⟨B2, 0, none⟩ (.int .i64 0)).setCell ⟨B2, 1, none⟩ (.int .i64 0)).setCell ⟨B2, 2, none⟩ (.slice none 0 0)) := ((hB.setCell (by exact hlow) _).setCell (by exact hlow) _).setCell (by exact hlow) _
                  generalize (((wr.setCell ⟨B2, 0, none⟩ (.int .i64 0)).setCell ⟨B2, 1, none⟩ (.int .i64 0)).setCell ⟨B2, 2, none⟩ (.slice none 0 0)) = W9 at *
                  have y0 := z6.cell 0 rfl; have y1 := z6.cell 1 rfl; have y2 := z6.cell 2 rfl
                  exact bodyPost_ret (v := .tuple #[.agg #[.int .i64 0, .int .i64 0, .slice none 0 0], .int .i64 14]) (by simp [results, Tryz.results229, go_sem, y0, y1, y2]) rfl ⟨0, 0, none, 0, 0, by rw [HE1.out], hBz, fun h => by rw [HE1.out] at h; cases h⟩
            · have hR2 : redOne r.contacts = none := by
                rw [hR1]
                match R, hone with
                | [], _ => rfl
                | [e], h => exact absurd rfl h
                | a :: b :: l, _ => rfl
              rw [hR2] at hE1
              have HE1 := Lib.hid hE1
              have hl1 : ((R.length : Int) == 1) = false := by simp; omega
              have hl2 : ¬ ((R.length : Int) = 1) := by omega
              clear hE1 hR1 hR2 hT1 hE hS hone hrk
              generalize R.length = LR at *
              go_wp2_with fail
              have z6 := (((q2.set 0 (.int .i64 0)).set 1 (.int .i64 0)).set 2 (.slice none 0 0))
              have hBz : Bel w (((wr.setCell ⟨B2, 0, none⟩ (.int .i64 0)).setCell ⟨B2, 1, none⟩ (.int .i64 0)).setCell ⟨B2, 2, none⟩ (.slice none 0 0)) := ((hB.setCell (by exact hlow) _).setCell (by exact hlow) _).setCell (by exact hlow) _
              generalize (((wr.setCell ⟨B2, 0, none⟩ (.int .i64 0)).setCell ⟨B2, 1, none⟩ (.int .i64 0)).setCell ⟨B2, 2, none⟩ (.slice none 0 0)) = W9 at *
              have y0 := z6.cell 0 rfl; have y1 := z6.cell 1 rfl; have y2 := z6.cell 2 rfl
              exact bodyPost_ret (v := .tuple #[.agg #[.int .i64 0, .int .i64 0, .slice none 0 0], .int .i64 14]) (by simp [results, Tryz.results229, go_sem, y0, y1, y2]) rfl ⟨0, 0, none, 0, 0, by rw [HE1.out], hBz, fun h => by rw [HE1.out] at h; cases h⟩
  · have hE2 := hE.out
    rw [if_pos hf] at hE2
    have hz : (flowE r.contacts == 0) = false := by simpa using hf
    have hz2 : (flowE r.contacts != 0) = true := by simpa using hf
    have HE := Lib.hid hE2
    have Hf := Lib.hid hf
    clear hE hE2 hf
    generalize flowE r.contacts = F at *
    go_wp2_with fail
    have z6 := (((q2.set 0 (.int .i64 0)).set 1 (.int .i64 0)).set 2 (.slice none 0 0))
    have hBz : Bel w (((w1.setCell ⟨B2, 0, none⟩ (.int .i64 0)).setCell ⟨B2, 1, none⟩ (.int .i64 0)).setCell ⟨B2, 2, none⟩ (.slice none 0 0)) := ((hB.setCell (by show w.heap.size ≤ B2; omega) _).setCell (by show w.heap.size ≤ B2; omega) _).setCell (by show w.heap.size ≤ B2; omega) _
    generalize (((w1.setCell ⟨B2, 0, none⟩ (.int .i64 0)).setCell ⟨B2, 1, none⟩ (.int .i64 0)).setCell ⟨B2, 2, none⟩ (.slice none 0 0)) = W9 at *
    have y0 := z6.cell 0 rfl; have y1 := z6.cell 1 rfl; have y2 := z6.cell 2 rfl
    exact bodyPost_ret (v := .tuple #[.agg #[.int .i64 0, .int .i64 0, .slice none 0 0], .int .i64 F]) (by simp [results, Tryz.results229, go_sem, y0, y1, y2]) rfl ⟨0, 0, none, 0, 0, by rw [HE.out], hBz, fun h => absurd (HE.out.symm.trans h) Hf.out⟩
end Go.Proofs.YtbgilebgdbgddaaGreatDoor
