/- printer.part, printer.rung, printer.Check at a ladder that is valid: they return 0. -/
import Derived.Test.YtbgilebgdbgddaaGreatDoorPut
import Derived.Test.YtbgilebgdbgddaaGreatDoorIdx
set_option linter.unusedVariables false
set_option linter.unusedSimpArgs false
namespace Go.Proofs.YtbgilebgdbgddaaGreatDoor
open Go.RowKit

theorem toList_inj {a b : ByteArray} : a.toList = b.toList ↔ a = b := by
  rw [ByteArray.toList_eq, ByteArray.toList_eq]
  constructor
  · intro h
    cases a; cases b
    simp only [Array.toList_inj] at h
    subst h; rfl
  · intro h; rw [h]
theorem strEq (a b : ByteArray) : (a.toList == b.toList) = decide (a = b) := by
  rw [Bool.eq_iff_iff, beq_iff_eq, decide_eq_true_iff, toList_inj]

theorem eg225 : ∀ args w, (callFunc 225 args).run Tryz.prog w = .ok (.enter 225 args) w := enters_of Tryz.func225 (by kernel_rfl) rfl
theorem eg98 : ∀ args w, (callFunc 98 args).run Tryz.prog w = .ok (.enter 98 args) w := enters_of Tryz.func98 (by kernel_rfl) rfl
theorem eg145 : ∀ args w, (callFunc 145 args).run Tryz.prog w = .ok (.enter 145 args) w := enters_of Tryz.func145 (by kernel_rfl) rfl
theorem eg174 : ∀ args w, (callFunc 174 args).run Tryz.prog w = .ok (.enter 174 args) w := enters_of Tryz.func174 (by kernel_rfl) rfl
theorem clo_225 (b : Nat) (l : ByteArray) (x : Rung) (cs : List Value) (w : World) (h : RungE w x cs) (hb : w.cell? ⟨b, 0, none⟩ = some (.string l)) :
    Calls Tryz.prog 225 #[.agg cs.toArray, .pointer (some ⟨b, 0, none⟩)] w fun e w' => e = .returned (.bool (decide (x.label = l))) ∧ Bel w w' := by
  obtain ⟨vc, vo, rfl, h1, h2⟩ := h
  obtain ⟨a1, c1, rfl, _⟩ := h1.ex
  obtain ⟨a2, c2, rfl, _⟩ := h2.ex
  clear h1 h2
  have hb' : ∀ o, (w.alloc o).cell? ⟨b, 0, none⟩ = some (.string l) := fun o => ((Bel.refl w).alloc o).cell hb
  rw [← strEq]
  go_enter Tryz.func225, Tryz.ntmps225
  go_wp2_with fail
  go_ret
  exact ⟨rfl, (Bel.refl _).alloc _⟩
theorem clo_145 (b : Nat) (l : ByteArray) (x : Rung) (cs : List Value) (w : World) (h : RungE w x cs) (hb : w.cell? ⟨b, 0, none⟩ = some (.string l)) :
    Calls Tryz.prog 145 #[.agg cs.toArray, .pointer (some ⟨b, 0, none⟩)] w fun e w' => e = .returned (.bool (decide (x.label = l))) ∧ Bel w w' := by
  obtain ⟨vc, vo, rfl, h1, h2⟩ := h
  obtain ⟨a1, c1, rfl, _⟩ := h1.ex
  obtain ⟨a2, c2, rfl, _⟩ := h2.ex
  clear h1 h2
  have hb' : ∀ o, (w.alloc o).cell? ⟨b, 0, none⟩ = some (.string l) := fun o => ((Bel.refl w).alloc o).cell hb
  rw [← strEq]
  go_enter Tryz.func145, Tryz.ntmps145
  go_wp2_with fail
  go_ret
  exact ⟨rfl, (Bel.refl _).alloc _⟩
theorem clo_98 (b : Nat) (l : ByteArray) (x : Rung) (cs : List Value) (w : World) (h : RungE w x cs) (hb : w.cell? ⟨b, 3, none⟩ = some (.string l)) :
    Calls Tryz.prog 98 #[.agg cs.toArray, .pointer (some ⟨b, 0, none⟩)] w fun e w' => e = .returned (.bool (decide (x.label = l))) ∧ Bel w w' := by
  obtain ⟨vc, vo, rfl, h1, h2⟩ := h
  obtain ⟨a1, c1, rfl, _⟩ := h1.ex
  obtain ⟨a2, c2, rfl, _⟩ := h2.ex
  clear h1 h2
  have hb' : ∀ o, (w.alloc o).cell? ⟨b, 3, none⟩ = some (.string l) := fun o => ((Bel.refl w).alloc o).cell hb
  rw [← strEq]
  go_enter Tryz.func98, Tryz.ntmps98
  go_wp2_with fail
  go_ret
  exact ⟨rfl, (Bel.refl _).alloc _⟩
theorem clo_174 (b : Nat) (l : ByteArray) (x : Rung) (cs : List Value) (w : World) (h : RungE w x cs) (hb : w.cell? ⟨b, 3, none⟩ = some (.string l)) :
    Calls Tryz.prog 174 #[.agg cs.toArray, .pointer (some ⟨b, 0, none⟩)] w fun e w' => e = .returned (.bool (decide (x.label = l))) ∧ Bel w w' := by
  obtain ⟨vc, vo, rfl, h1, h2⟩ := h
  obtain ⟨a1, c1, rfl, _⟩ := h1.ex
  obtain ⟨a2, c2, rfl, _⟩ := h2.ex
  clear h1 h2
  have hb' : ∀ o, (w.alloc o).cell? ⟨b, 3, none⟩ = some (.string l) := fun o => ((Bel.refl w).alloc o).cell hb
  rw [← strEq]
  go_enter Tryz.func174, Tryz.ntmps174
  go_wp2_with fail
  go_ret
  exact ⟨rfl, (Bel.refl _).alloc _⟩
/-- ContainsFunc over rungs, by a closure that compares labels. -/
theorem cont_225 (b : Nat) (l : ByteArray) (xs : List Rung) (v : Value) (w : World) (hs : SlAt RungE 4 w v xs) (hb : w.cell? ⟨b, 0, none⟩ = some (.string l)) :
    Calls Tryz.prog 97 #[v, .func (.func 225) #[] #[.pointer (some ⟨b, 0, none⟩)]] w fun e w' => e = .returned (.bool (xs.any fun x => decide (x.label = l))) ∧ Bel w w' :=
  contF_97 RungE.mono (p := fun x => decide (x.label = l)) 225 _ eg225 xs v w hs (fun x cs w' hw he _ _ => clo_225 b l x cs w' he (hw.cell hb))
theorem cont_145 (b : Nat) (l : ByteArray) (xs : List Rung) (v : Value) (w : World) (hs : SlAt RungE 4 w v xs) (hb : w.cell? ⟨b, 0, none⟩ = some (.string l)) :
    Calls Tryz.prog 97 #[v, .func (.func 145) #[] #[.pointer (some ⟨b, 0, none⟩)]] w fun e w' => e = .returned (.bool (xs.any fun x => decide (x.label = l))) ∧ Bel w w' :=
  contF_97 RungE.mono (p := fun x => decide (x.label = l)) 145 _ eg145 xs v w hs (fun x cs w' hw he _ _ => clo_145 b l x cs w' he (hw.cell hb))
theorem cont_98 (b : Nat) (l : ByteArray) (xs : List Rung) (v : Value) (w : World) (hs : SlAt RungE 4 w v xs) (hb : w.cell? ⟨b, 3, none⟩ = some (.string l)) :
    Calls Tryz.prog 97 #[v, .func (.func 98) #[] #[.pointer (some ⟨b, 0, none⟩)]] w fun e w' => e = .returned (.bool (xs.any fun x => decide (x.label = l))) ∧ Bel w w' :=
  contF_97 RungE.mono (p := fun x => decide (x.label = l)) 98 _ eg98 xs v w hs (fun x cs w' hw he _ _ => clo_98 b l x cs w' he (hw.cell hb))
theorem cont_174 (b : Nat) (l : ByteArray) (xs : List Rung) (v : Value) (w : World) (hs : SlAt RungE 4 w v xs) (hb : w.cell? ⟨b, 3, none⟩ = some (.string l)) :
    Calls Tryz.prog 97 #[v, .func (.func 174) #[] #[.pointer (some ⟨b, 0, none⟩)]] w fun e w' => e = .returned (.bool (xs.any fun x => decide (x.label = l))) ∧ Bel w w' :=
  contF_97 RungE.mono (p := fun x => decide (x.label = l)) 174 _ eg174 xs v w hs (fun x cs w' hw he _ _ => clo_174 b l x cs w' he (hw.cell hb))

theorem strZ {s : ByteArray} (h : s.size = 0) : s.toList = [] ∧ s.toList.isEmpty = true := by
  have e : s.toList = [] := by rw [strNil h, ByteArray.toList_eq]
  exact ⟨e, by rw [e]; rfl⟩
theorem part_ok (i q m e k sp n : Int) (w : World) (h0 : 0 ≤ k) (h4 : k < 4) (hc : checkAddrF ⟨i, q, m, e⟩ sp n = 0) :
    Calls Tryz.prog 146 #[.agg #[.int .i64 i, .int .i64 q, .int .i64 m, .int .i64 e], .int .i64 k, .agg #[.int .i64 sp, .int .i64 n]] w fun en w' => en = .returned (.int .i64 0) ∧ Bel w w' := by
  have Hc := Lib.hid hc; clear hc
  have h0' : ¬ k < 0 := by omega
  have h4' : ¬ 4 ≤ k := by omega
  go_enter Tryz.func146, Tryz.ntmps146
  go_wp2_with (go_at_call 177; refine (checkAddr_any i q m e sp n _).mono ?_; rintro en w1 ⟨rfl, hb⟩; rw [Hc.out])
  go_ret
  exact ⟨rfl, (((Bel.refl _).alloc _).alloc _).trans hb⟩

structure ContactOk (s : Size) (c : Contact) : Prop where
  k0 : 0 ≤ c.kind
  k4 : c.kind < 4
  adr : checkAddrF s c.space c.n = 0
  nmF : isNameB c.from_ = true
  nmT : isNameB c.to_ = true
structure CoilOk (s : Size) (c : Coil) : Prop where
  k0 : 0 ≤ c.kind
  k4 : c.kind < 4
  adr : checkAddrF s c.space c.n = 0
  sp : c.space ≠ 0
structure RungOk (s : Size) (ahead : List Rung) (r : Rung) : Prop where
  label : r.label.size = 0 ∨ (isNameB r.label = true ∧ ∀ x ∈ ahead, x.label ≠ r.label)
  nc : r.contacts.length ≤ 256
  contacts : ∀ c ∈ r.contacts, ContactOk s c
  no : r.coils.length ≤ 16
  coils : ∀ c ∈ r.coils, CoilOk s c
  jump : r.jump.size = 0 ∨ isNameB r.jump = true
theorem name_size {s : ByteArray} (h : isNameB s = true) : s.size ≤ 9223372036854775807 := by
  simp only [isNameB, Bool.and_eq_true, decide_eq_true_eq] at h
  omega
theorem name_ne {s : ByteArray} (h : isNameB s = true) : ¬ s.size = 0 := by
  simp only [isNameB, Bool.and_eq_true, decide_eq_true_eq, bne_iff_ne] at h
  exact h.1.1
theorem SlAt.coil {w : World} {a : Option Addr} {n cap : Nat} {xs : List Coil} (h : SlAt CoilE 3 w (.slice a n cap) xs) {k : Nat} {c : Coil} (hk : xs[k]? = some c) :
    ∃ b off, a = some ⟨b, off, none⟩ ∧ w.cell? ⟨b, off + k * 3, none⟩ = some (.int .i64 c.kind) ∧ w.cell? ⟨b, off + k * 3 + 1, none⟩ = some (.int .i64 c.space) ∧ w.cell? ⟨b, off + k * 3 + 2, none⟩ = some (.int .i64 c.n) := by
  obtain ⟨a', cap', hv, _, _, hx⟩ := h.ex
  obtain ⟨b, off, cs, ha, he, _, hcs⟩ := hx k c hk
  obtain rfl := he
  injection hv with h1 h2 h3
  exact ⟨b, off, h1.trans ha, hcs 0 _ rfl, hcs 1 _ rfl, hcs 2 _ rfl⟩
theorem SlAt.rung {w : World} {a : Option Addr} {n cap : Nat} {xs : List Rung} (h : SlAt RungE 4 w (.slice a n cap) xs) {k : Nat} {c : Rung} (hk : xs[k]? = some c) :
    ∃ b off vc vo, a = some ⟨b, off, none⟩ ∧ SlAt ContactE 5 w vc c.contacts ∧ SlAt CoilE 3 w vo c.coils ∧ w.cell? ⟨b, off + k * 4, none⟩ = some (.string c.label) ∧ w.cell? ⟨b, off + k * 4 + 1, none⟩ = some vc ∧ w.cell? ⟨b, off + k * 4 + 2, none⟩ = some vo ∧ w.cell? ⟨b, off + k * 4 + 3, none⟩ = some (.string c.jump) := by
  obtain ⟨a', cap', hv, _, _, hx⟩ := h.ex
  obtain ⟨b, off, cs, ha, he, _, hcs⟩ := hx k c hk
  obtain ⟨vc, vo, rfl, h2, h3⟩ := he
  injection hv with h1 _ _
  exact ⟨b, off, vc, vo, h1.trans ha, h2, h3, hcs 0 _ rfl, hcs 1 _ rfl, hcs 2 _ rfl, hcs 3 _ rfl⟩

set_option maxRecDepth 100000 in
set_option maxHeartbeats 4000000 in
theorem rung_ok (i q m e : Int) (ahead : List Rung) (r : Rung) (va : Value) (cs : List Value) (w : World) (ha : SlAt RungE 4 w va ahead) (hr : RungE w r cs) (hok : RungOk ⟨i, q, m, e⟩ ahead r) :
    Calls Tryz.prog 96 #[.agg #[.int .i64 i, .int .i64 q, .int .i64 m, .int .i64 e], va, .agg cs.toArray] w fun en w' => en = .returned (.int .i64 0) ∧ Bel w w' := by
  obtain ⟨vc, vo, rfl, hc, ho⟩ := hr
  obtain ⟨ac, cc, rfl, hc1, hc2, _⟩ := hc.ex
  obtain ⟨ao, co, rfl, ho1, ho2, _⟩ := ho.ex
  obtain ⟨aa, ca, rfl, ha1, ha2, _⟩ := ha.ex
  have hnc := hok.nc
  have hno := hok.no
  have hcok := Lib.hid hok.contacts
  have hook := Lib.hid hok.coils
  have hj := hok.jump
  have hl := hok.label
  clear hok
  have hnc' : ¬ (256 : Int) < (r.contacts.length : Int) := by omega
  have hno' : ¬ (16 : Int) < (r.coils.length : Int) := by omega
  have hmf : ∀ (fn : Fn) (first cap : Array Value) (w : World), (Instr.makeFunc fn first cap).run Tryz.prog w = .ok (.func fn first cap) w := fun _ _ _ _ => rfl
  have L1 : Calls Tryz.prog 96 #[.agg #[.int .i64 i, .int .i64 q, .int .i64 m, .int .i64 e], .slice aa ahead.length ca, .agg [.string r.label, .slice ac r.contacts.length cc, .slice ao r.coils.length co, .string r.jump].toArray] w fun en w' => en = .returned (.int .i64 0) ∧ Bel w w' := by
    rcases hl with hl | ⟨hl, hna⟩
    case' inl =>
      obtain ⟨n0, n1⟩ := strZ hl
      obtain ⟨lb, cs, os, jp⟩ := r
      dsimp only at *
      go_enter Tryz.func96, Tryz.ntmps96
      go_wp2_with fail
      have hB : Bel w ((w.alloc (.cells #[.int .i64 i, .int .i64 q, .int .i64 m, .int .i64 e] 41)).alloc (.cells #[.string lb, .slice ac cs.length cc, .slice ao os.length co, .string jp] 33)) := ((Bel.refl w).alloc _).alloc _
      have qs : Blk ((w.alloc (.cells #[.int .i64 i, .int .i64 q, .int .i64 m, .int .i64 e] 41)).alloc (.cells #[.string lb, .slice ac cs.length cc, .slice ao os.length co, .string jp] 33)) w.heap.size #[.int .i64 i, .int .i64 q, .int .i64 m, .int .i64 e] 41 := (Blk.new w _ _).alloc _
      have qr : Blk ((w.alloc (.cells #[.int .i64 i, .int .i64 q, .int .i64 m, .int .i64 e] 41)).alloc (.cells #[.string lb, .slice ac cs.length cc, .slice ao os.length co, .string jp] 33)) (w.heap.size + 1) #[.string lb, .slice ac cs.length cc, .slice ao os.length co, .string jp] 33 := Blk.new1 w _ _ _
      generalize ((w.alloc (.cells #[.int .i64 i, .int .i64 q, .int .i64 m, .int .i64 e] 41)).alloc (.cells #[.string lb, .slice ac cs.length cc, .slice ao os.length co, .string jp] 33)) = W at *
      clear n0 n1
    case' inr =>
      obtain ⟨n0, n1⟩ := strNe (name_ne hl)
      have hls := name_size hl
      have HL := Lib.hid hl
      have HN := Lib.hid (show (ahead.any fun x => decide (x.label = r.label)) = false by
        rw [List.any_eq_false]; intro x hx; simp [hna x hx])
      clear hl hna
      obtain ⟨lb, cs, os, jp⟩ := r
      dsimp only at *
      go_enter Tryz.func96, Tryz.ntmps96
      go_wp2_with fail
      have hB : Bel w ((w.alloc (.cells #[.int .i64 i, .int .i64 q, .int .i64 m, .int .i64 e] 41)).alloc (.cells #[.string lb, .slice ac cs.length cc, .slice ao os.length co, .string jp] 33)) := ((Bel.refl w).alloc _).alloc _
      have qs : Blk ((w.alloc (.cells #[.int .i64 i, .int .i64 q, .int .i64 m, .int .i64 e] 41)).alloc (.cells #[.string lb, .slice ac cs.length cc, .slice ao os.length co, .string jp] 33)) w.heap.size #[.int .i64 i, .int .i64 q, .int .i64 m, .int .i64 e] 41 := (Blk.new w _ _).alloc _
      have qr : Blk ((w.alloc (.cells #[.int .i64 i, .int .i64 q, .int .i64 m, .int .i64 e] 41)).alloc (.cells #[.string lb, .slice ac cs.length cc, .slice ao os.length co, .string jp] 33)) (w.heap.size + 1) #[.string lb, .slice ac cs.length cc, .slice ao os.length co, .string jp] 33 := Blk.new1 w _ _ _
      refine (isName_any lb _ hls).mono ?_
      rintro en w1 ⟨rfl, hb1⟩
      rw [HL.out]
      replace hB := hB.trans hb1
      replace qs := qs.bel hb1
      replace qr := qr.bel hb1
      have r0 := qr.cell 0 rfl
      have r1 := qr.cell 1 rfl
      have r2 := qr.cell 2 rfl
      have r3 := qr.cell 3 rfl
      go_wp2_with fail
      refine (cont_145 (w.heap.size + 1) lb ahead _ w1 (ha.bel RungE.mono hB) r0).mono ?_
      rintro en W ⟨rfl, hb2⟩
      rw [HN.out]
      replace hB := hB.trans hb2
      replace qs := qs.bel hb2
      replace qr := qr.bel hb2
      clear r0 r1 r2 r3 hb1 hb2
      have r1 := qr.cell 1 rfl
      go_wp2_with fail
      clear r1 n0 n1
    all_goals
      skip
      go_loopw [32] (fun x wr => ∃ k : Nat, k ≤ cs.length ∧ x = .int .i64 k ∧ Bel w wr ∧ Blk wr w.heap.size #[.int .i64 i, .int .i64 q, .int .i64 m, .int .i64 e] 41 ∧ Blk wr (w.heap.size + 1) #[.string lb, .slice ac cs.length cc, .slice ao os.length co, .string jp] 33) (fun x _ => cs.length - (intOf x).toNat)
      case atStart => exact ⟨0, Nat.zero_le _, rfl, hB, qs, qr⟩
      case round =>
        clear qs qr hB
        obtain ⟨k, hk, rfl, hB, qs, qr⟩ := hrel
        have s0 := qs.cell 0 rfl
        have s1 := qs.cell 1 rfl
        have s2 := qs.cell 2 rfl
        have s3 := qs.cell 3 rfl
        by_cases hlt : k < cs.length
        · have hg := List.getElem?_eq_getElem hlt
          have hkc := hcok.out _ (List.getElem_mem hlt)
          obtain ⟨b, off, rfl, c0, c1, c2, c3, c4⟩ := (hc.bel (Flat.mono _) hB).contact hg
          generalize cs[k] = c at *
          obtain ⟨ck, csp, cn, cf, ct⟩ := c
          obtain ⟨k0, k4, hadr, hnf, hnt⟩ := hkc
          dsimp only at *
          have hsf := name_size hnf
          have hst := name_size hnt
          have HF := Lib.hid hnf; have HT := Lib.hid hnt; have HA := Lib.hid hadr
          clear hnf hnt hadr hg hcok hook hj
          have s0' : ∀ o, (wr.alloc o).cell? ⟨w.heap.size, 0, none⟩ = some (.int .i64 i) := fun o => ((Bel.refl wr).alloc o).cell s0
          have s1' : ∀ o, (wr.alloc o).cell? ⟨w.heap.size, 1, none⟩ = some (.int .i64 q) := fun o => ((Bel.refl wr).alloc o).cell s1
          have s2' : ∀ o, (wr.alloc o).cell? ⟨w.heap.size, 2, none⟩ = some (.int .i64 m) := fun o => ((Bel.refl wr).alloc o).cell s2
          have s3' : ∀ o, (wr.alloc o).cell? ⟨w.heap.size, 3, none⟩ = some (.int .i64 e) := fun o => ((Bel.refl wr).alloc o).cell s3
          go_wp2_with fail
          refine (part_ok i q m e ck csp cn _ k0 k4 HA.out).mono ?_
          rintro en w1 ⟨rfl, hb1⟩
          have qc := (Blk.new wr #[.int .i64 ck, .int .i64 csp, .int .i64 cn, .string cf, .string ct] 108).bel hb1
          have d2 := qc.cell 3 rfl
          clear c0 c1 c2 c3 c4 s0 s1 s2 s3 s0' s1' s2' s3'
          go_wp2_with fail
          refine (isName_any cf _ hsf).mono ?_
          rintro en w2 ⟨rfl, hb2⟩
          rw [HF.out]
          have d3 := (qc.bel hb2).cell 4 rfl
          clear d2
          go_wp2_with fail
          refine (isName_any ct _ hst).mono ?_
          rintro en w3 ⟨rfl, hb3⟩
          rw [HT.out]
          clear d3
          have hbb : Bel wr w3 := ((((Bel.refl wr).alloc _).trans hb1).trans hb2).trans hb3
          go_wp2_with fail
          go_roundw
          case rel => exact ⟨k + 1, by omega, by go_num, hB.trans hbb, qs.bel hbb, qr.bel hbb⟩
          case measure => simp [intOf]; omega
        · have r2 := qr.cell 2 rfl
          go_wp2_with fail
          clear s0 s1 s2 s3 r2
          obtain ⟨W1, rfl⟩ : ∃ W1 : World, W1 = wr := ⟨_, rfl⟩
          go_loopw [63] (fun x wr => ∃ k : Nat, k ≤ os.length ∧ x = .int .i64 k ∧ Bel w wr ∧ Blk wr w.heap.size #[.int .i64 i, .int .i64 q, .int .i64 m, .int .i64 e] 41 ∧ Blk wr (w.heap.size + 1) #[.string lb, .slice ac cs.length cc, .slice ao os.length co, .string jp] 33) (fun x _ => os.length - (intOf x).toNat)
          case atStart => exact ⟨0, Nat.zero_le _, rfl, hB, qs, qr⟩
          case round =>
            clear qs qr hB
            obtain ⟨k, hk, rfl, hB, qs, qr⟩ := hrel
            have s0 := qs.cell 0 rfl
            have s1 := qs.cell 1 rfl
            have s2 := qs.cell 2 rfl
            have s3 := qs.cell 3 rfl
            by_cases hlt : k < os.length
            · have hg := List.getElem?_eq_getElem hlt
              have hkc := hook.out _ (List.getElem_mem hlt)
              obtain ⟨b, off, rfl, c0, c1, c2⟩ := (ho.bel (Flat.mono _) hB).coil hg
              generalize os[k] = c at *
              obtain ⟨ck, csp, cn⟩ := c
              obtain ⟨k0, k4, hadr, hsp⟩ := hkc
              dsimp only at *
              have HA := Lib.hid hadr
              have hspb : (csp == 0) = false := by simpa using hsp
              clear hadr hg hcok hook hj hsp
              have s0' : ∀ o, (wr.alloc o).cell? ⟨w.heap.size, 0, none⟩ = some (.int .i64 i) := fun o => ((Bel.refl wr).alloc o).cell s0
              have s1' : ∀ o, (wr.alloc o).cell? ⟨w.heap.size, 1, none⟩ = some (.int .i64 q) := fun o => ((Bel.refl wr).alloc o).cell s1
              have s2' : ∀ o, (wr.alloc o).cell? ⟨w.heap.size, 2, none⟩ = some (.int .i64 m) := fun o => ((Bel.refl wr).alloc o).cell s2
              have s3' : ∀ o, (wr.alloc o).cell? ⟨w.heap.size, 3, none⟩ = some (.int .i64 e) := fun o => ((Bel.refl wr).alloc o).cell s3
              go_wp2_with fail
              refine (part_ok i q m e ck csp cn _ k0 k4 HA.out).mono ?_
              rintro en w1 ⟨rfl, hb1⟩
              have qc := (Blk.new wr #[.int .i64 ck, .int .i64 csp, .int .i64 cn] 131).bel hb1
              have d2 := qc.cell 1 rfl
              clear c0 c1 c2 s0 s1 s2 s3 s0' s1' s2' s3'
              have hbb : Bel wr w1 := ((Bel.refl wr).alloc _).trans hb1
              go_wp2_with fail
              go_roundw
              case rel => exact ⟨k + 1, by omega, by go_num, hB.trans hbb, qs.bel hbb, qr.bel hbb⟩
              case measure => simp [intOf]; omega
            · have r3 := qr.cell 3 rfl
              rcases hj with hj | hj
              · have hj := strNil hj
                subst hj
                go_wp2_with fail
                go_ret
                exact ⟨rfl, hB⟩
              · obtain ⟨n0, n1⟩ := strNe (name_ne hj)
                have hjs := name_size hj
                have HJ := Lib.hid hj
                clear hj
                go_wp2_with (go_at_call 144; refine (isName_any jp _ hjs).mono ?_; rintro en w1 ⟨rfl, hb1⟩; rw [HJ.out])
                go_ret
                exact ⟨rfl, hB.trans hb1⟩
  exact L1
end Go.Proofs.YtbgilebgdbgddaaGreatDoor
