/- codegen.whole at a ladder without jumps -/
import Derived.Test.YtbgilebgdbgddaaGreatDoorCon
import Derived.Laws.IdiomRangeMap
set_option linter.unusedVariables false
set_option linter.unusedSimpArgs false
namespace Go.Proofs.YtbgilebgdbgddaaGreatDoor
open Go.RowKit
theorem run_app0 (w : World) (ty : TypeId) (A p : Option Addr) (n c c' : Nat) (hn : n ≤ c) : (Builtin.append_ #[42, 42] ty #[.slice A n c, .slice p 0 c']).run Tryz.prog w = .ok (.slice A n c) w := by
  obtain ⟨i0, hi, hz0, hz1, hz2⟩ := info_parts info54
  have hl : ∀ a w, (loadCellsFrom a 0 0 #[]).run Tryz.prog w = .ok #[] w := fun a w => by simp [loadCellsFrom]
  have hs : ∀ a w, (storeCells a []).run Tryz.prog w = .ok () w := fun a w => by simp [storeCells]
  cases A <;> cases p <;> simp [Builtin.append_, run_underlying und42, sizeOf, typeInfo, hi, Builtin.lenOf, hn, Builtin.firstCells, loadCells, hl, hs]
theorem insC_one (l : List Ins) : ∀ u ∈ l.flatMap insC, u.oneCell' = true := fun u hu => by
  obtain ⟨x, _, hx⟩ := List.mem_flatMap.1 hu
  simp [insC] at hx
  rcases hx with rfl | rfl | rfl | rfl <;> rfl
/-- append of one row of instructions to another. -/
theorem app54 {w : World} {ops : Array Oper} {rest : List Oper} {o : Oper} {a : Act} {Q : Exit → Act → World → Prop} (hgd : o.guard = none) (s x : Operand)
    (ho : o.op = .call { callee := .builtin .append, args := #[s, x], argTypes := #[42, 42] }) {base b2 : Nat} {v : Value} {n m c : Nat} {px : Option Addr} {xs news : List Value} (hs : a.eval s = v) (hown : w.ownsRow base 54 4 v n xs)
    (hx : a.eval x = .slice px m c) (hsrc : w.ownsRow b2 54 4 (.slice px m c) m news) (h1 : ∀ u ∈ news, u.oneCell' = true) (hn : n + m ≤ 1000000000) (hbase : base ≤ w.heap.size)
    (h : ∀ A cap w', w'.ownsRow base 54 4 (.slice A (n + m) cap) (n + m) (xs ++ news) → w.grownBy w' v.ownBlock → TFr [54] base w w' → wpList Tryz.prog ops Q rest (a.put o.dst (.slice A (n + m) cap)) w') : wpList Tryz.prog ops Q (o :: rest) a w := by
  rcases Nat.eq_zero_or_pos m with hm | hm
  · subst hm
    obtain ⟨A, cap, rfl, hc, _⟩ := own_slice hown
    have hn0 : news = [] := List.eq_nil_of_length_eq_zero (by have := hsrc.1; omega)
    subst hn0
    have hr := run_app0 w o.type A px n cap c hc
    have hK := h A cap w (by rw [List.append_nil, Nat.add_zero]; exact hown) (grown_of_bel (Bel.refl w) _) (TFr.refl _ _ _)
    rw [Nat.add_zero] at hK
    refine wpList_plain hgd fun K hKK => ?_
    unfold Oper.wp execOp
    simp only [ho, resolve, invoke, builtin, Sem.run_bind, Sem.run_pure, Result.andThen_ok, List.map_toArray, List.map_cons, List.map_nil, hs, hx, hr]
    exact hKK _ _ hK
  · rcases hsrc.2 with ⟨e, h0⟩ | ⟨g, cap, cur, e, hb, hh, r⟩
    · omega
    · injection e with e1 e2 e3
      subst e1
      exact list_app und42 info54 rfl (by decide) (by decide) hgd s x ho hs hown hx hsrc.1 (fun j u hu => by rw [Addr.add_lit, Nat.zero_add]; exact (own_cell hsrc j hu).1) h1 hm hn hbase fun g' cap' w' q1 q2 q3 _ => h _ _ _ q1 q2 q3
theorem lay_pos (C : Ctx) {N : Nat} : ∀ (d : Nat) (t : Tr), TrV N d t → 0 < (layF C d t).length
  | d + 1, t, h => by
    rcases h with ⟨h0, _⟩ | ⟨h0, _, h1, h2⟩
    · simp [layF, h0]
    · have hn : t.kind ≠ 0 := by omega
      obtain ⟨kd, tn, kids⟩ := t
      simp only [Tr.kind_node, Tr.kids_node] at *
      match kids, h1, h2 with
      | k :: l, _, h2 =>
        have h5 := lay_pos C d k (h2 k (by simp)).2
        rw [layF, if_neg (show ¬ (Tr.node kd tn (k :: l)).kind = 0 from hn), List.length_append]
        exact Nat.lt_of_lt_of_le h5 (Nat.le_add_right _ _)
def edgeN (r : Rung) : Nat := r.contacts.countP fun c => seesB c.kind
def slotAt : List Rung → Int
  | [] => 0
  | r :: l => edgeN r + slotAt l
theorem slotAt_append : ∀ (a b : List Rung), slotAt (a ++ b) = slotAt a + slotAt b
  | [], b => by simp [slotAt]
  | r :: a, b => by rw [List.cons_append, slotAt, slotAt, slotAt_append a b]; omega
theorem slotAt_bound : ∀ (l : List Rung), (∀ r ∈ l, r.contacts.length ≤ 256) → 0 ≤ slotAt l ∧ slotAt l ≤ 256 * l.length
  | [], _ => by simp [slotAt]
  | r :: l, h => by
    have h1 := slotAt_bound l fun x hx => h x (by simp [hx])
    have h2 := h r (by simp)
    have h3 : edgeN r ≤ r.contacts.length := List.countP_le_length
    rw [slotAt, List.length_cons]; omega
/-- The code of rungs without jumps. -/
def codeOf : Int → List Rung → List Ins
  | _, [] => []
  | s, r :: l => contactsF r.contacts s ++ r.coils.map coilI ++ codeOf (s + edgeN r) l
theorem codeOf_append : ∀ (a b : List Rung) (s : Int), codeOf s (a ++ b) = codeOf s a ++ codeOf (s + slotAt a) b
  | [], b, s => by simp [codeOf, slotAt]
  | r :: a, b, s => by
    rw [List.cons_append, codeOf, codeOf, codeOf_append a b, slotAt, List.append_assoc, List.append_assoc, List.append_assoc, Int.add_assoc]
def badB (r : Rung) : Bool := decide (contactsE r.contacts ≠ 0)
theorem reduceE_of {cons : List Contact} (h : contactsE cons = 0) : reduceE cons = 0 := by
  unfold contactsE at h
  by_cases h1 : reduceE cons = 0
  · exact h1
  · rw [if_pos h1] at h; exact h
theorem codeOf_len : ∀ (l : List Rung) (s : Int), (∀ r ∈ l, r.contacts.length ≤ 256 ∧ r.coils.length ≤ 16 ∧ contactsE r.contacts = 0) → (codeOf s l).length ≤ 784 * l.length
  | [], s, _ => by simp [codeOf]
  | r :: l, s, h => by
    have h1 := codeOf_len l (s + edgeN r) fun x hx => h x (by simp [hx])
    obtain ⟨h2, h3, h4⟩ := h r (by simp)
    have h5 := contactsF_len (reduceE_of h4) s
    rw [codeOf, List.length_append, List.length_append, List.length_map, List.length_cons]; omega
theorem und308 : Tryz.prog.underlying 308 = some (.map 9 3) := by kernel_rfl
theorem zero3 (w : World) : (zeroValue 3).run Tryz.prog w = .ok (.int .i64 0) w := by kernel_rfl
theorem und309 : Tryz.prog.underlying 309 = some (.map 3 9) := by kernel_rfl
theorem run_next0 (w : World) (m clock : Nat) (hm : w.heap[m]? = some (.map #[] clock)) (ty : TypeId) :
    (Instr.next (.pointer (some ⟨w.heap.size, 0, none⟩)) false ty).run Tryz.prog (w.alloc (.mapIter (some m) clock #[] clock)) = .ok (.tuple #[.bool false]) (w.alloc (.mapIter (some m) clock #[] clock)) := by
  rcases run_next_map (P := Tryz.prog) w ty m clock clock #[] #[] clock hm (by simp) (Nat.le_refl _) with ⟨_, h⟩ | ⟨e, he, _⟩
  · exact h
  · simp [leftOf] at he
/-- What whole answers. -/
def WholeIs (l : Ladder) (B : Nat) (w' : World) (c : Value) (n er : Int) : Prop :=
  match l.rungs.findIdx? badB with
  | some i => c = .agg #[.int .i64 0, .int .i64 0, .int .i64 0, .int .i64 0, .slice none 0 0] ∧ n = i ∧ er = contactsE ((l.rungs.getD i ⟨.empty, [], [], .empty⟩).contacts)
  | none => n = l.rungs.length ∧ er = 0 ∧ ∃ pc, c = .agg pc.toArray ∧ Hangs B none w' fun w'' => PrgE w'' ⟨⟨l.i, l.q, l.m, slotAt l.rungs⟩, codeOf 0 l.rungs ++ [⟨16, 0, 0, 0⟩]⟩ pc
def prg0 : Value := .agg #[.int .i64 0, .int .i64 0, .int .i64 0, .int .i64 0, .slice none 0 0]
def sortOk (r : Rung) : Prop := (∀ t, redOne r.contacts = some t → NoPar (redD r.contacts.length) t) ∨ SortLaw r.contacts.length
set_option maxRecDepth 100000 in
set_option maxHeartbeats 8000000 in
theorem whole_175 (l : Ladder) (cs : List Value) (w : World) (henv : Env w) (hl : LadderE w l cs) (hok : LadderOk l) (hj : ∀ r ∈ l.rungs, r.jump.size = 0) (hS : ∀ r ∈ l.rungs, sortOk r) :
    Calls Tryz.prog 175 #[.agg cs.toArray] w fun e w' => ∃ c vs n er, e = .returned (.tuple #[c, vs, .int .i64 n, .int .i64 er]) ∧ Bel w w' ∧ WholeIs l w.heap.size w' c n er := by
  have hl0 := Lib.hid hl
  obtain ⟨vr, rfl, hr⟩ := hl
  obtain ⟨ar, cr, rfl, _⟩ := hr.ex
  have hck := fun W (hb : Bel w W) => check_ok l _ W (LadderE.mono _ _ _ _ hl0.out hb) hok
  have hmm := @run_makeMap Tryz.prog
  have hn64 := hok.n
  go_enter Tryz.func175, Tryz.ntmps175
  go_wp2_with fail
  have hB : Bel w ((w.alloc (.cells #[.int .i64 l.i, .int .i64 l.q, .int .i64 l.m, .slice ar l.rungs.length cr] 26)).alloc (.cells #[.int .i64 0, .int .i64 0, .int .i64 0, .int .i64 0, .slice none 0 0] 44)) := ((Bel.refl w).alloc _).alloc _
  have q0 : Blk ((w.alloc (.cells #[.int .i64 l.i, .int .i64 l.q, .int .i64 l.m, .slice ar l.rungs.length cr] 26)).alloc (.cells #[.int .i64 0, .int .i64 0, .int .i64 0, .int .i64 0, .slice none 0 0] 44)) w.heap.size #[.int .i64 l.i, .int .i64 l.q, .int .i64 l.m, .slice ar l.rungs.length cr] 26 := (Blk.new w _ _).alloc _
  have q2 : Blk ((w.alloc (.cells #[.int .i64 l.i, .int .i64 l.q, .int .i64 l.m, .slice ar l.rungs.length cr] 26)).alloc (.cells #[.int .i64 0, .int .i64 0, .int .i64 0, .int .i64 0, .slice none 0 0] 44)) (w.heap.size + 1) #[.int .i64 0, .int .i64 0, .int .i64 0, .int .i64 0, .slice none 0 0] 44 := Blk.new1 w _ _ _
  generalize ((w.alloc (.cells #[.int .i64 l.i, .int .i64 l.q, .int .i64 l.m, .slice ar l.rungs.length cr] 26)).alloc (.cells #[.int .i64 0, .int .i64 0, .int .i64 0, .int .i64 0, .slice none 0 0] 44)) = W at *
  refine (hck W hB).mono ?_
  rintro en w1 ⟨rfl, hb1⟩
  replace hB := hB.trans hb1
  replace q0 := q0.bel hb1
  replace q2 := q2.bel hb1
  clear hck
  obtain ⟨B2, hB2⟩ : ∃ B2, B2 = w.heap.size + 1 := ⟨_, rfl⟩
  rw [← hB2] at q2 ⊢
  have g2 : w.heap.size < B2 := by omega
  clear hB2
  have hb2 : B2 < w1.heap.size := q2.lt
  have e0 := q0.cell 0 rfl; have e1 := q0.cell 1 rfl; have e2 := q0.cell 2 rfl
  have f3 := fun o o1 o2 => (((q0.alloc o).alloc o1).alloc o2).cell 3 rfl
  go_wp2_with fail
  clear f3 e0 e1 e2 hmm
  have hB3 : Bel w1 (((w1.alloc (.cells #[.int .i64 l.i, .int .i64 l.q, .int .i64 l.m, .int .i64 0, .slice none 0 0] 44)).alloc (.map #[] 0)).alloc (.map #[] 0)) := (((Bel.refl w1).alloc _).alloc _).alloc _
  have q8 : Blk (((w1.alloc (.cells #[.int .i64 l.i, .int .i64 l.q, .int .i64 l.m, .int .i64 0, .slice none 0 0] 44)).alloc (.map #[] 0)).alloc (.map #[] 0)) w1.heap.size #[.int .i64 l.i, .int .i64 l.q, .int .i64 l.m, .int .i64 0, .slice none 0 0] 44 := ((Blk.new w1 _ _).alloc _).alloc _
  have mm1 : MapAt Value.string (((w1.alloc (.cells #[.int .i64 l.i, .int .i64 l.q, .int .i64 l.m, .int .i64 0, .slice none 0 0] 44)).alloc (.map #[] 0)).alloc (.map #[] 0)) (w1.heap.size + 1) [] := by
    have := (MapAt.made (kv := Value.string) (w1.alloc (.cells #[.int .i64 l.i, .int .i64 l.q, .int .i64 l.m, .int .i64 0, .slice none 0 0] 44))).bel ((Bel.refl _).alloc (.map #[] 0))
    rwa [World.size_alloc] at this
  have mm2 : MapAt (Value.int .i64) (((w1.alloc (.cells #[.int .i64 l.i, .int .i64 l.q, .int .i64 l.m, .int .i64 0, .slice none 0 0] 44)).alloc (.map #[] 0)).alloc (.map #[] 0)) (w1.heap.size + 1 + 1) [] := by
    have := MapAt.made (kv := Value.int .i64) ((w1.alloc (.cells #[.int .i64 l.i, .int .i64 l.q, .int .i64 l.m, .int .i64 0, .slice none 0 0] 44)).alloc (.map #[] 0))
    rwa [World.size_alloc, World.size_alloc] at this
  have hsz : (((w1.alloc (.cells #[.int .i64 l.i, .int .i64 l.q, .int .i64 l.m, .int .i64 0, .slice none 0 0] 44)).alloc (.map #[] 0)).alloc (.map #[] 0)).heap.size = w1.heap.size + 1 + 1 + 1 := by simp
  generalize (((w1.alloc (.cells #[.int .i64 l.i, .int .i64 l.q, .int .i64 l.m, .int .i64 0, .slice none 0 0] 44)).alloc (.map #[] 0)).alloc (.map #[] 0)) = W3 at *
  replace hB := hB.trans hB3
  replace q0 := q0.bel hB3
  replace q2 := q2.bel hB3
  obtain ⟨B8, h8⟩ : ∃ B8, B8 = w1.heap.size := ⟨_, rfl⟩
  rw [← h8] at q8 mm1 mm2 hsz hb2 ⊢
  obtain ⟨mL, hmL⟩ : ∃ mL, mL = B8 + 1 := ⟨_, rfl⟩
  rw [← hmL] at mm1 mm2 hsz ⊢
  obtain ⟨mJ, hmJ⟩ : ∃ mJ, mJ = mL + 1 := ⟨_, rfl⟩
  rw [← hmJ] at mm2 hsz ⊢
  obtain ⟨Bb, hBb⟩ : ∃ Bb, Bb = W3.heap.size := ⟨_, rfl⟩
  have g8 : B2 < B8 := hb2
  have gL : B8 < mL := by omega
  have gJ : mL < mJ := by omega
  have gB : mJ < Bb := by omega
  have gW : Bb ≤ W3.heap.size := by omega
  clear hBb hmJ hmL h8 hsz hB3 hb1 hb2
  go_loopw [9, 42] (fun sv x wr => ∃ i : Nat, i ≤ l.rungs.length ∧ x = .int .i64 i ∧ Bel w wr ∧ Bb ≤ wr.heap.size ∧ (∀ r ∈ l.rungs.take i, badB r = false) ∧ Blk wr w.heap.size #[.int .i64 l.i, .int .i64 l.q, .int .i64 l.m, .slice ar l.rungs.length cr] 26 ∧ Blk wr B2 #[.int .i64 0, .int .i64 0, .int .i64 0, .int .i64 0, .slice none 0 0] 44 ∧ (∃ vc, Blk wr B8 #[.int .i64 l.i, .int .i64 l.q, .int .i64 l.m, .int .i64 (slotAt (l.rungs.take i)), vc] 44 ∧ wr.ownsRow Bb 54 4 vc (codeOf 0 (l.rungs.take i)).length ((codeOf 0 (l.rungs.take i)).flatMap insC)) ∧ (∃ ss, wr.ownsRow Bb 3 1 sv i ss) ∧ (∃ L, MapAt Value.string wr mL L) ∧ MapAt (Value.int .i64) wr mJ []) (fun _ x _ => l.rungs.length - (intOf x).toNat)
  case atStart => exact ⟨0, Nat.zero_le _, rfl, hB, gW, by simp, q0, q2, ⟨_, q8, World.ownsRow_nil _ _ _ _⟩, ⟨[], World.ownsRow_nil _ _ _ _⟩, ⟨[], mm1⟩, mm2⟩
  case round =>
    clear hB gW q0 q2 q8 mm1 mm2
    obtain ⟨i, hi, rfl, hB, gW, hgood, q0, q2, ⟨vc, q8, hcode⟩, ⟨ss, hst⟩, ⟨L, mm1⟩, mm2⟩ := hrel
    by_cases hlt : i < l.rungs.length
    · have hg := List.getElem?_eq_getElem hlt
      obtain ⟨b, off, vcn, vcl, rfl, hcn, hcl, d0, d1, d2, d3⟩ := hr.rung hg
      have c0 := hB.cell d0; have c1 := hB.cell d1; have c2 := hB.cell d2; have c3 := hB.cell d3
      clear d0 d1 d2 d3
      have hmem := List.getElem_mem hlt
      have hrok := hok.rungs i hlt
      have hTs := slotAt_append (l.rungs.take i) [l.rungs[i]]
      have hTc := codeOf_append (l.rungs.take i) [l.rungs[i]] 0
      have hTk := List.take_succ_eq_append_getElem hlt
      rw [← hTk] at hTs hTc
      have hgd : ∀ x ∈ l.rungs.take i, x.contacts.length ≤ 256 ∧ x.coils.length ≤ 16 ∧ contactsE x.contacts = 0 := fun x hx => by
        obtain ⟨k, hk⟩ := List.mem_iff_getElem?.1 hx
        rw [List.getElem?_take] at hk
        split at hk
        · obtain ⟨hkl, hke⟩ := List.getElem?_eq_some_iff.1 hk
          have h1 := hok.rungs k hkl
          rw [hke] at h1
          exact ⟨h1.nc, h1.no, by have := hgood x hx; simpa [badB] using this⟩
        · cases hk
      have hcl' := codeOf_len (l.rungs.take i) 0 hgd
      have hsb := slotAt_bound (l.rungs.take i) (fun x hx => (hgd x hx).1)
      rw [List.length_take, Nat.min_eq_left (by omega)] at hcl' hsb
      have hbad : ∀ h : contactsE l.rungs[i].contacts ≠ 0, l.rungs.findIdx? badB = some i := fun h => by
        rw [List.findIdx?_eq_some_iff_getElem]
        refine ⟨hlt, by simpa [badB] using h, fun j hji => ?_⟩
        have := hgood l.rungs[j] (List.mem_of_getElem? (by rw [List.getElem?_take, if_pos hji]; exact List.getElem?_eq_getElem (by omega)))
        rw [this]; simp
      have hgetD : l.rungs.getD i ⟨.empty, [], [], .empty⟩ = l.rungs[i] := by simp [hg]
      have hgood' : contactsE l.rungs[i].contacts = 0 → ∀ x ∈ l.rungs.take (i + 1), badB x = false := fun h x hx => by
        rw [hTk] at hx
        rcases List.mem_append.1 hx with hx | hx
        · exact hgood x hx
        · simp at hx; subst hx; simpa [badB] using h
      have hsr := hS _ hmem
      have hjr := hj _ hmem
      have Hbad := Lib.hid hbad; have HgetD := Lib.hid hgetD; have Hgood := Lib.hid hgood'
      have HTs := Lib.hid hTs; have HTc := Lib.hid hTc
      clear hTs hTc hTk hgd hbad hgetD hgood' hgood hg hmem
      generalize l.rungs[i] = r at *
      obtain ⟨ac, cc, rfl, _⟩ := hcn.ex
      obtain ⟨ao, co, rfl, _⟩ := hcl.ex
      have hRE : RungE w r [.string r.label, .slice ac r.contacts.length cc, .slice ao r.coils.length co, .string r.jump] := ⟨_, _, rfl, hcn, hcl⟩
      have HRE := Lib.hid hRE
      clear hRE hcn hcl
      generalize slotAt (l.rungs.take i) = E at *
      generalize codeOf 0 (l.rungs.take i) = code at *
      obtain ⟨Av, cv, rfl, _⟩ := own_slice hcode
      obtain ⟨As, cs', rfl, _⟩ := own_slice hst
      have hB1 : Bel wr (wr.alloc (.cells #[.string r.label, .slice ac r.contacts.length cc, .slice ao r.coils.length co, .string r.jump] 33)) := (Bel.refl wr).alloc _
      have qr : Blk (wr.alloc (.cells #[.string r.label, .slice ac r.contacts.length cc, .slice ao r.coils.length co, .string r.jump] 33)) wr.heap.size #[.string r.label, .slice ac r.contacts.length cc, .slice ao r.coils.length co, .string r.jump] 33 := Blk.new wr _ _
      have k3 := (q8.bel hB1).cell 3 rfl
      have hcon := fun W (hb : Bel wr W) => contacts_208 r _ E W (henv.bel (hB.trans hb)) (RungE.mono _ _ _ _ HRE.out (hB.trans hb)) (by have := hrok.nc; omega) (fun c hc => ⟨(hrok.contacts c hc).k0, (hrok.contacts c hc).k4⟩) hsb.1 (by have := hsb.2; omega) hsr
      have hcoi := fun W (hb : Bel wr W) => coils_any r _ W (henv.bel (hB.trans hb)) (RungE.mono _ _ _ _ HRE.out (hB.trans hb)) (by have := hrok.no; omega) (fun c hc => ⟨(hrok.coils c hc).k0, (hrok.coils c hc).k4⟩)
      go_wp2_with fail
      generalize (wr.alloc (.cells #[.string r.label, .slice ac r.contacts.length cc, .slice ao r.coils.length co, .string r.jump] 33)) = W2 at *
      refine (hcon W2 hB1).mono ?_
      rintro en w3 ⟨v3, rfl, hb3, hcode3⟩
      have hB13 := hB1.trans hb3
      by_cases hK : contactsE r.contacts = 0
      · have hcode4 := hcode3 hK
        obtain ⟨A3, c3', rfl, _⟩ := own_slice hcode4
        rw [hK]
        have HK := Lib.hid hK
        have qr3 := qr.bel hb3
        have r0 := qr3.cell 0 rfl; have r1 := qr3.cell 1 rfl; have r2 := qr3.cell 2 rfl; have r3 := qr3.cell 3 rfl
        have hclen := contactsF_len (reduceE_of hK) E
        clear hcode3 hcon hK k3 c0 c1 c2 c3
        obtain ⟨X, hX⟩ : ∃ X, X = contactsF r.contacts E := ⟨_, rfl⟩
        rw [← hX] at hcode4 hclen ⊢
        have HX := Lib.hid hX
        clear hX
        go_wp2_with fail
        refine (hcoi w3 hB13).mono ?_
        rintro en w4 ⟨v4, rfl, hown4, hb4⟩
        obtain ⟨A4, c4', rfl, _⟩ := own_slice hown4
        clear r0 r1 r2 r3
        have hB14 := hB13.trans hb4
        have hb54 : Bel w4 (w4.alloc (.cells #[.int .i64 code.length] 3)) := (Bel.refl w4).alloc _
        have hnb5 : Blk (w4.alloc (.cells #[.int .i64 code.length] 3)) w4.heap.size #[.int .i64 code.length] 3 := Blk.new w4 _ _
        have hB15 := hB14.trans hb54
        have hst5 := own_bel hst hB15
        have hcd5 := own_bel hcode hB15
        have q85 := q8.bel hB15
        have qr5 := qr3.bel (hb4.trans hb54)
        have m15 := mm1.bel hB15
        have m25 := mm2.bel hB15
        have q05 := q0.bel hB15
        have q25 := q2.bel hB15
        have x5 := own_bel hcode4 (hb4.trans hb54)
        have y5 := own_bel hown4 hb54
        have hba5 : Bb ≤ (w4.alloc (.cells #[.int .i64 code.length] 3)).heap.size := Nat.le_trans gW hB15.size
        have hone5 : ∀ u ∈ [Value.int .i64 code.length], u.oneCell' = true := by intro u hu; simp at hu; subst hu; rfl
        have k4 := (q8.bel hB14).cell 4 rfl
        have hcode0 := hcode
        have hml' : mL < wr.heap.size := mm1.lt
        clear q8 hcode hst mm1 mm2 q0 q2 hcode4 hown4
        have hXl : X.length ≤ 1000 := by have := hrok.nc; omega
        have hrl := (qr3.bel hb4).cell 0 rfl
        go_wp2_with (first | (at_builtin; apply list_app und27 info3 rfl (by decide) (by decide) rfl (.tmp 70) (.tmp 74) rfl rfl hst5 (m := 1) (news := [Value.int .i64 code.length]) rfl rfl hnb5.news hone5 (by decide) (by omega) hba5; intro gs cap7 w7 ho7 hgr7 htf7 hat7; have q87 := htf7.blk q85 (.inr (by decide)); have qr7 := htf7.blk qr5 (.inr (by decide)); have z1 := q87.cell 4 rfl; have z2 := qr7.cell 0 rfl; obtain ⟨w8, hrun8, hm8, hg8⟩ := run_put strKey und308 (m15.tfr htf7) r.label (.int .i64 code.length)))
        have hne8 : B8 ≠ mL := by omega
        have q88 := grown_blk q87 hg8 (by simp; omega)
        have hRl : wr.heap.size < w8.heap.size := Nat.lt_of_lt_of_le qr7.lt hg8.size
        have hRn : some wr.heap.size ≠ some mL := by simp; omega
        have qr8 := grown_blk qr7 hg8 hRn
        have x8 := own_mapgrown (own_tfr x5 htf7 (by decide)) (m15.tfr htf7) hg8
        have y8 := own_mapgrown (own_tfr y5 htf7 (by decide)) (m15.tfr htf7) hg8
        have cd8 := own_mapgrown (own_tfr hcd5 htf7 (by decide)) (m15.tfr htf7) hg8
        have st8 := own_mapgrown ho7 (m15.tfr htf7) hg8
        have m28 := (m25.tfr htf7).grown hg8 (by simp; omega)
        have q08 := grown_blk (htf7.blk q05 (.inr (by decide))) hg8 (by simp; omega)
        have q28 := grown_blk (htf7.blk q25 (.inr (by decide))) hg8 (by simp; omega)
        have hB88 : B8 ≠ wr.heap.size := by have := q85.lt; omega
        have hb08 : Bel w w8 := by
          have h1 := (htf7.mono (show w.heap.size ≤ Bb by omega)).toBel (hB.trans hB15)
          exact ⟨hg8.os.trans h1.os, hg8.tape.trans h1.tape, hg8.output.trans h1.output, Nat.le_trans h1.size hg8.size, fun k hk => (hg8.block k (Nat.lt_of_lt_of_le hk h1.size) (by simp; omega)).trans (h1.block k hk)⟩
        have hcr8 := RungE.mono _ _ _ _ HRE.out hb08
        have hed := fun W (hb : Bel w8 W) => edge_count r _ W (RungE.mono _ _ _ _ hcr8 hb)
        have eN : (r.contacts.countP fun c => seesB c.kind) = edgeN r := rfl
        rw [eN] at hed
        have hN2 : edgeN r ≤ 256 := Nat.le_trans List.countP_le_length hrok.nc
        have HTs2 := Lib.hid (show slotAt (l.rungs.take (i + 1)) = E + edgeN r by rw [HTs.out]; simp [slotAt])
        have HTc2 := Lib.hid (show codeOf 0 (l.rungs.take (i + 1)) = code ++ X ++ r.coils.map coilI by rw [HTc.out, HX.out]; simp [codeOf])
        generalize edgeN r = EN at *
        have t0 := qr8.cell 0 rfl; have t1 := qr8.cell 1 rfl; have t2 := qr8.cell 2 rfl; have t3 := qr8.cell 3 rfl
        have p3 := q88.cell 3 rfl
        have pf := q88.frozen 3
        have hS8 : w8.cell? ⟨wr.heap.size, 0, none⟩ = some (.string r.label) ∧ w8.cell? ⟨wr.heap.size, 1, none⟩ = some (.slice ac r.contacts.length cc) ∧ w8.cell? ⟨wr.heap.size, 2, none⟩ = some (.slice ao r.coils.length co) ∧ w8.cell? ⟨wr.heap.size, 3, none⟩ = some (.string r.jump) := ⟨t0, t1, t2, t3⟩
        have wE : IntKind.i64.wrap (E + EN) = E + EN := by simp [IntKind.wrap, IntKind.bits, IntKind.signed]; omega
        have hbz8 : Bb ≤ w8.heap.size := Nat.le_trans hba5 (Nat.le_trans htf7.size hg8.size)
        have hcdl : code.length ≤ 100000 := by omega
        have hjz := strZ hjr
        have hXpos : 0 < X.length := by
          rw [HX.out]
          exact lay_pos _ _ _ (reduce_ok (reduceE_of HK.out)).1
        clear hcoi
        go_region_law (first | (go_simp; go_at_call 210; refine (hed _ (Bel.refl _).drew).mono ?_; rintro en w9 ⟨rfl, hb9⟩; have hb89 : Bel w8 w9 := (Bel.refl w8).drew.trans hb9; have p3' := hb89.cell p3; have pf' := (q88.bel hb89).frozen 3))
        all_goals clear hed
        all_goals
          have q89 := (q88.bel hb89).set 3 (.int .i64 (E + EN))
          have hbb9 : TFr [44] 0 w8 (w9.setCell ⟨B8, 3, none⟩ (.int .i64 (E + EN))) := (TFr.of_bel _ _ hb89).trans (TFr.setC (q88.bel hb89) (by simp) (Nat.zero_le _) 3 _)
          have q29 : Blk (w9.setCell ⟨B8, 3, none⟩ (.int .i64 (E + EN))) B2 _ 44 := (q28.bel hb89).set_other (by show B8 ≠ B2; omega) _
          have hb09 : Bel w (w9.setCell ⟨B8, 3, none⟩ (.int .i64 (E + EN))) := (hb08.trans hb89).setCell (by show w.heap.size ≤ B8; omega) _
          have hbz9 : Bb ≤ (w9.setCell ⟨B8, 3, none⟩ (.int .i64 (E + EN))).heap.size := Nat.le_trans hbz8 hbb9.size
          clear p3' pf' hb9
          generalize (w9.setCell ⟨B8, 3, none⟩ (.int .i64 (E + EN))) = W9 at *
          have q09 := hbb9.blk q08 (.inr (by decide))
          have qr9 := hbb9.blk qr8 (.inr (by decide))
          have x9 := own_tfr x8 hbb9 (by decide)
          have y9 := own_tfr y8 hbb9 (by decide)
          have cd9 := own_tfr cd8 hbb9 (by decide)
          have st9 := own_tfr st8 hbb9 (by decide)
          have m19 := hm8.tfr hbb9
          have m29 := m28.tfr hbb9
          clear q88 q28 q08 qr8 x8 y8 cd8 st8 hm8 m28
          have u4 := q89.cell 4 rfl
          have hcge := own_ge cd9
          have hyge := own_ge y9
          have hclt : ∀ g, (Value.slice Av code.length cv).ownBlock = some g → g < wr.heap.size := own_lt hcode0
          have hX1 := insC_one X
          have hY1 := insC_one (r.coils.map coilI)
          have hol : r.coils.length ≤ 16 := hrok.no
          have hwr4 : wr.heap.size ≤ w3.heap.size := hB13.size
          go_wp2_with (first | (at_builtin; apply app54 rfl (.tmp 91) (.tmp 92) rfl rfl cd9 rfl x9 hX1 (by omega) hbz9; intro A1 cap1 w10 ho10 hg10 ht10; have y10 := own_far y9 (fun g hg hl => hg10.block g hl (fun e => by have h1 := hclt g e.symm; exact hyge g (by omega) hg.symm)); have q810 := grown_blk q89 hg10 (hcge B8 (by omega))) | (at_builtin; apply app54 rfl (.tmp 93) (.tmp 94) rfl rfl ho10 rfl y10 hY1 (by omega) (Nat.le_trans hbz9 ht10.size); intro A2 cap2 w11 ho11 hg11 ht11; have q811 := grown_blk q810 hg11 (own_ge ho10 B8 (by omega)); have v4 := q811.cell 4 rfl; have v4f := q811.frozen 4; have qr11 := ht11.blk (ht10.blk qr9 (.inr (by decide))) (.inr (by decide)); have v3 : (w11.setCell ⟨B8, 4, none⟩ (.slice A2 (code.length + X.length + r.coils.length) cap2)).cell? ⟨wr.heap.size, 3, none⟩ = some (.string r.jump) := cell_set1 (qr11.cell 3 rfl) (addr_block hB88)))
          have tS : TFr [44] 0 w11 (w11.setCell ⟨B8, 4, none⟩ (.slice A2 (code.length + X.length + r.coils.length) cap2)) := TFr.setC q811 (by simp) (Nat.zero_le _) 4 _
          go_roundw
        all_goals first
          | (simp [intOf]; omega)
          | (refine ⟨i + 1, by omega, by go_num, (((ht10.trans ht11).mono (show w.heap.size ≤ Bb by omega)).toBel hb09).setCell (by show w.heap.size ≤ B8; omega) _, Nat.le_trans hbz9 (Nat.le_trans ht10.size (Nat.le_trans ht11.size tS.size)), Hgood.out HK.out, (ht11.blk (ht10.blk q09 (.inr (by decide))) (.inr (by decide))).set_other (by show B8 ≠ w.heap.size; omega) _, (ht11.blk (ht10.blk q29 (.inr (by decide))) (.inr (by decide))).set_other (by show B8 ≠ B2; omega) _, ⟨(.slice A2 (code.length + X.length + r.coils.length) cap2), ?_, ?_⟩, ⟨_, own_tfr (own_tfr (own_tfr st9 ht10 (by decide)) ht11 (by decide)) tS (by decide)⟩, ⟨_, ((m19.tfr ht10).tfr ht11).tfr tS⟩, ((m29.tfr ht10).tfr ht11).tfr tS⟩
             focus
               rw [HTs2.out]
               exact q811.set 4 _
             focus
               rw [HTc2.out]
               have := own_tfr ho11 tS (by decide)
               simpa [List.flatMap_append, List.length_append, Nat.add_assoc] using this)
      · have HF := Lib.hid hK
        have q23 := (q2.bel hB13)
        have l0 := q23.cell 0 rfl; have l1 := q23.cell 1 rfl; have l2 := q23.cell 2 rfl; have l3 := q23.cell 3 rfl; have l4 := q23.cell 4 rfl
        have m0 := q23.frozen 0; have m1 := q23.frozen 1; have m2 := q23.frozen 2; have m3 := q23.frozen 3; have m4 := q23.frozen 4
        have hz1 : (contactsE r.contacts == 0) = false := by simpa using hK
        have hz2 : (contactsE r.contacts != 0) = true := by simpa using hK
        have hBw3 := hB.trans hB13
        have hfi := Lib.hid (Hbad.out hK)
        have hgd := HgetD
        clear hK hcode3 hcon hcoi k3 c0 c1 c2 c3 HTs HTc Hgood Hbad
        obtain ⟨F, hFF⟩ : ∃ F, F = contactsE r.contacts := ⟨_, rfl⟩
        rw [← hFF] at hz1 hz2 ⊢
        have HFF := Lib.hid hFF
        clear hFF
        go_wp2_with fail
        have z6 := (((((q23.set 0 (.int .i64 0)).set 1 (.int .i64 0)).set 2 (.int .i64 0)).set 3 (.int .i64 0)).set 4 (.slice none 0 0))
        have hlow : w.heap.size ≤ B2 := by omega
        have hBz : Bel w (((((w3.setCell ⟨B2, 0, none⟩ (.int .i64 0)).setCell ⟨B2, 1, none⟩ (.int .i64 0)).setCell ⟨B2, 2, none⟩ (.int .i64 0)).setCell ⟨B2, 3, none⟩ (.int .i64 0)).setCell ⟨B2, 4, none⟩ (.slice none 0 0)) := ((((hBw3.setCell (by exact hlow) _).setCell (by exact hlow) _).setCell (by exact hlow) _).setCell (by exact hlow) _).setCell (by exact hlow) _
        generalize (((((w3.setCell ⟨B2, 0, none⟩ (.int .i64 0)).setCell ⟨B2, 1, none⟩ (.int .i64 0)).setCell ⟨B2, 2, none⟩ (.int .i64 0)).setCell ⟨B2, 3, none⟩ (.int .i64 0)).setCell ⟨B2, 4, none⟩ (.slice none 0 0)) = W9 at *
        have y0 := z6.cell 0 rfl; have y1 := z6.cell 1 rfl; have y2 := z6.cell 2 rfl; have y3 := z6.cell 3 rfl; have y4 := z6.cell 4 rfl
        refine bodyPost_ret (v := .tuple #[prg0, .slice none 0 0, .int .i64 i, .int .i64 F]) (by unfold prg0; simp [results, Tryz.results175, go_sem, y0, y1, y2, y3, y4]) rfl ⟨prg0, .slice none 0 0, i, F, rfl, hBz, ?_⟩
        unfold WholeIs
        rw [hfi.out]
        exact ⟨rfl, rfl, by rw [hgd.out, HFF.out]⟩
    · obtain rfl : i = l.rungs.length := by omega
      rw [List.take_length] at q8 hcode hgood
      have hnone := Lib.hid (show l.rungs.findIdx? badB = none by
        rw [List.findIdx?_eq_none_iff]
        exact hgood)
      have HCL := Lib.hid (show (codeOf 0 l.rungs).length ≤ 100000 by
        have := codeOf_len l.rungs 0 fun x hx => by
          obtain ⟨k, hk⟩ := List.mem_iff_getElem?.1 hx
          obtain ⟨hkl, hke⟩ := List.getElem?_eq_some_iff.1 hk
          have h1 := hok.rungs k hkl
          rw [hke] at h1
          exact ⟨h1.nc, h1.no, by have := hgood x hx; simpa [badB] using this⟩
        omega)
      clear hgood hS hj hr henv
      obtain ⟨es, clock, hes, hem⟩ := mm2.ex
      have hes0 : es = #[] := by
        have : es.toList.length = 0 := by have := congrArg List.length hem; simpa using this
        exact Array.eq_empty_of_size_eq_zero (by simpa using this)
      subst hes0
      clear hem
      obtain ⟨E, hEE⟩ : ∃ E, E = slotAt l.rungs := ⟨_, rfl⟩
      rw [← hEE] at q8
      have HE := Lib.hid hEE
      clear hEE
      obtain ⟨Av, cv, rfl, _⟩ := own_slice hcode
      obtain ⟨As, cs', rfl, _⟩ := own_slice hst
      have hrg := run_range_map (P := Tryz.prog) wr 309 3 9 mJ #[] clock und309 hes
      have hBi : Bel wr (wr.alloc (.mapIter (some mJ) clock #[] clock)) := (Bel.refl wr).alloc _
      have hnx := run_next0 wr mJ clock hes
      go_wp2_with fail
      refine wp_loop_rounds 1 ?_
      rw [rounds_succ]
      replace hB := hB.trans hBi; replace gW := Nat.le_trans gW hBi.size
      replace q0 := q0.bel hBi; replace q2 := q2.bel hBi; replace q8 := q8.bel hBi
      replace hcode := own_bel hcode hBi; replace hst := own_bel hst hBi
      generalize (wr.alloc (.mapIter (some mJ) clock #[] clock)) = w10 at *
      clear hrg hes mm1 mm2
      have hcl : (codeOf 0 l.rungs).length ≤ 100000 := HCL.out
      obtain ⟨code, hcd⟩ : ∃ code, code = codeOf 0 l.rungs := ⟨_, rfl⟩
      rw [← hcd] at hcode hcl q8
      have Hcd := Lib.hid hcd
      clear hcd
      have e4 := q8.cell 4 rfl
      have hb11 : Bel w10 (w10.alloc (.cells #[.int .i64 code.length] 3)) := (Bel.refl w10).alloc _
      have hnb : Blk (w10.alloc (.cells #[.int .i64 code.length] 3)) w10.heap.size #[.int .i64 code.length] 3 := Blk.new w10 _ _
      have hon : ∀ u ∈ [Value.int .i64 code.length], u.oneCell' = true := by intro u hu; simp at hu; subst hu; rfl
      have hon2 : ∀ u ∈ [Value.int .i64 16, .int .i64 0, .int .i64 0, .int .i64 0], u.oneCell' = true := by intro u hu; simp at hu; rcases hu with rfl | rfl <;> rfl
      have hst1 := own_bel hst hb11
      have hcd1 := own_bel hcode hb11
      have q81 := q8.bel hb11
      have hba1 : Bb ≤ (w10.alloc (.cells #[.int .i64 code.length] 3)).heap.size := Nat.le_trans gW hb11.size
      go_wp2_with (first | (at_builtin; apply list_app und27 info3 rfl (by decide) (by decide) rfl (.tmp 128) (.tmp 132) rfl rfl hst1 (m := 1) (news := [Value.int .i64 code.length]) rfl rfl hnb.news hon (by decide) (by omega) hba1; intro gs cap12 w12 ho12 hg12 ht12 hat12; have q812 := ht12.blk q81 (.inr (by decide)); have e412 := q812.cell 4 rfl; have e412a := fun o => (q812.alloc o).cell 4 rfl; have hb13 : Bel w12 (w12.alloc (.cells #[.int .i64 16, .int .i64 0, .int .i64 0, .int .i64 0] 54)) := (Bel.refl w12).alloc _; have cd13 := own_bel (own_tfr hcd1 ht12 (by decide)) hb13; have hnb13 : Blk (w12.alloc (.cells #[.int .i64 16, .int .i64 0, .int .i64 0, .int .i64 0] 54)) w12.heap.size #[.int .i64 16, .int .i64 0, .int .i64 0, .int .i64 0] 54 := Blk.new w12 _ _; have hba13 : Bb ≤ (w12.alloc (.cells #[.int .i64 16, .int .i64 0, .int .i64 0, .int .i64 0] 54)).heap.size := Nat.le_trans hba1 (Nat.le_trans ht12.size hb13.size); have q813 := q812.bel hb13) | (at_builtin; apply list_app und42 info54 rfl (by decide) (by decide) rfl (.tmp 135) (.tmp 137) rfl rfl cd13 (m := 1) (news := [Value.int .i64 16, .int .i64 0, .int .i64 0, .int .i64 0]) rfl rfl hnb13.news hon2 (by decide) (by omega) hba13; intro gc cap14 w14 ho14 hg14 ht14 hat14; have q814 := grown_blk q813 (show World.grownBy _ w14 (Value.slice Av code.length cv).ownBlock from hg14) (own_ge cd13 B8 (by omega)); have e414 := q814.cell 4 rfl; have f414 := q814.frozen 4))
      have tS : TFr [44] 0 w14 (w14.setCell ⟨B8, 4, none⟩ (.slice (some ⟨gc, 0, none⟩) (code.length + 1) cap14)) := TFr.setC q814 (by simp) (Nat.zero_le _) 4 _
      have q8e := q814.set 4 (.slice (some ⟨gc, 0, none⟩) (code.length + 1) cap14)
      have q0e := tS.blk (ht14.blk ((ht12.blk (q0.bel hb11) (.inr (by decide))).bel hb13) (.inr (by decide))) (.inr (by decide))
      have q2e : Blk (w14.setCell ⟨B8, 4, none⟩ (.slice (some ⟨gc, 0, none⟩) (code.length + 1) cap14)) B2 _ 44 := (ht14.blk ((ht12.blk (q2.bel hb11) (.inr (by decide))).bel hb13) (.inr (by decide))).set_other (by show B8 ≠ B2; omega) _
      have hBe : Bel w (w14.setCell ⟨B8, 4, none⟩ (.slice (some ⟨gc, 0, none⟩) (code.length + 1) cap14)) := (((ht14.mono (show w.heap.size ≤ Bb by omega)).toBel (((ht12.mono (show w.heap.size ≤ Bb by omega)).toBel (hB.trans hb11)).trans hb13))).setCell (by show w.heap.size ≤ B8; omega) _
      have ho14e := own_tfr ho14 tS (by decide)
      generalize (w14.setCell ⟨B8, 4, none⟩ (.slice (some ⟨gc, 0, none⟩) (code.length + 1) cap14)) = W14 at *
      have a0 := q8e.cell 0 rfl; have a1 := q8e.cell 1 rfl; have a2 := q8e.cell 2 rfl; have a3 := q8e.cell 3 rfl; have a4 := q8e.cell 4 rfl
      have b3 := q0e.cell 3 rfl
      have l0 := q2e.cell 0 rfl; have l1 := q2e.cell 1 rfl; have l2 := q2e.cell 2 rfl; have l3 := q2e.cell 3 rfl; have l4 := q2e.cell 4 rfl
      have m0 := q2e.frozen 0; have m1 := q2e.frozen 1; have m2 := q2e.frozen 2; have m3 := q2e.frozen 3; have m4 := q2e.frozen 4
      clear e412a e4 e412 e414 f414 hg12 hg14 hat12 hat14
      go_region
      go_wp2_with fail
      have z6 := (((((q2e.set 0 (.int .i64 l.i)).set 1 (.int .i64 l.q)).set 2 (.int .i64 l.m)).set 3 (.int .i64 E)).set 4 (.slice (some ⟨gc, 0, none⟩) (code.length + 1) cap14)).bel ((Bel.refl _).drew)
      have hlow : w.heap.size ≤ B2 := by omega
      have hBz : Bel w (((((W14.setCell ⟨B2, 0, none⟩ (.int .i64 l.i)).setCell ⟨B2, 1, none⟩ (.int .i64 l.q)).setCell ⟨B2, 2, none⟩ (.int .i64 l.m)).setCell ⟨B2, 3, none⟩ (.int .i64 E)).setCell ⟨B2, 4, none⟩ (.slice (some ⟨gc, 0, none⟩) (code.length + 1) cap14)).drew := (((((hBe.setCell (by exact hlow) _).setCell (by exact hlow) _).setCell (by exact hlow) _).setCell (by exact hlow) _).setCell (by exact hlow) _).drew
      have hof : (((((W14.setCell ⟨B2, 0, none⟩ (.int .i64 l.i)).setCell ⟨B2, 1, none⟩ (.int .i64 l.q)).setCell ⟨B2, 2, none⟩ (.int .i64 l.m)).setCell ⟨B2, 3, none⟩ (.int .i64 E)).setCell ⟨B2, 4, none⟩ (.slice (some ⟨gc, 0, none⟩) (code.length + 1) cap14)).drew.ownsRow Bb 54 4 (.slice (some ⟨gc, 0, none⟩) (code.length + 1) cap14) (code.length + 1) (code.flatMap insC ++ [.int .i64 16, .int .i64 0, .int .i64 0, .int .i64 0]) := by
        refine own_far ho14e fun g hg _ => ?_
        have hge : Bb ≤ g := Nat.le_of_not_lt fun h => own_ge ho14e g h hg.symm
        have hne : B2 ≠ g := by omega
        show (World.setCell _ _ _).heap[g]? = _
        rw [set_far _ hne, set_far _ hne, set_far _ hne, set_far _ hne, set_far _ hne]
      have hsl : Hangs w.heap.size none (((((W14.setCell ⟨B2, 0, none⟩ (.int .i64 l.i)).setCell ⟨B2, 1, none⟩ (.int .i64 l.q)).setCell ⟨B2, 2, none⟩ (.int .i64 l.m)).setCell ⟨B2, 3, none⟩ (.int .i64 E)).setCell ⟨B2, 4, none⟩ (.slice (some ⟨gc, 0, none⟩) (code.length + 1) cap14)).drew (fun w'' => SlAt InsE 4 w'' (.slice (some ⟨gc, 0, none⟩) (code.length + 1) cap14) (code ++ [⟨16, 0, 0, 0⟩])) := fun w'' h'' => own_read (w := w'') (f := insC) (fun _ => rfl) (by
        rw [List.flatMap_append]
        exact own_far hof fun g hg hl => h'' g (by have hge : Bb ≤ g := Nat.le_of_not_lt fun h => own_ge hof g h hg.symm; omega) hl (by simp)) (by simp) _ (fun _ _ => rfl)
      generalize (((((W14.setCell ⟨B2, 0, none⟩ (.int .i64 l.i)).setCell ⟨B2, 1, none⟩ (.int .i64 l.q)).setCell ⟨B2, 2, none⟩ (.int .i64 l.m)).setCell ⟨B2, 3, none⟩ (.int .i64 E)).setCell ⟨B2, 4, none⟩ (.slice (some ⟨gc, 0, none⟩) (code.length + 1) cap14)).drew = W9 at *
      have y0 := z6.cell 0 rfl; have y1 := z6.cell 1 rfl; have y2 := z6.cell 2 rfl; have y3 := z6.cell 3 rfl; have y4 := z6.cell 4 rfl
      refine bodyPost_ret (v := .tuple #[.agg #[.int .i64 l.i, .int .i64 l.q, .int .i64 l.m, .int .i64 E, (.slice (some ⟨gc, 0, none⟩) (code.length + 1) cap14)], .slice (some ⟨gs, 0, none⟩) (l.rungs.length + 1) cap12, .int .i64 l.rungs.length, .int .i64 0]) (by simp [results, Tryz.results175, go_sem, y0, y1, y2, y3, y4]) rfl ⟨.agg #[.int .i64 l.i, .int .i64 l.q, .int .i64 l.m, .int .i64 E, (.slice (some ⟨gc, 0, none⟩) (code.length + 1) cap14)], _, l.rungs.length, 0, rfl, hBz, ?_⟩
      unfold WholeIs
      rw [hnone.out]
      refine ⟨rfl, rfl, [.int .i64 l.i, .int .i64 l.q, .int .i64 l.m, .int .i64 E, (.slice (some ⟨gc, 0, none⟩) (code.length + 1) cap14)], rfl, fun w'' h'' => ⟨(.slice (some ⟨gc, 0, none⟩) (code.length + 1) cap14), ?_, ?_⟩⟩
      · rw [HE.out]
      · rw [← Hcd.out]; exact hsl w'' h''
end Go.Proofs.YtbgilebgdbgddaaGreatDoor
