/- cache.Get. -/
import Derived.Test.YtbgilebgdbgddaaGreatDoorCag
set_option linter.unusedVariables false
set_option linter.unusedSimpArgs false
namespace Go.Proofs.YtbgilebgdbgddaaGreatDoor
open Go.RowKit Go.MuLone
theorem blk_set7 {w : World} {n : Nat} {t : TypeId} {a0 a1 a2 a3 a4 a5 a6 : Value} (h : Blk w n #[a0, a1, a2, a3, a4, a5, a6] t) (b0 b1 b2 b3 b4 b5 b6 : Value) : Blk (((((((w.setCell ⟨n, 0, none⟩ b0).setCell ⟨n, 1, none⟩ b1).setCell ⟨n, 2, none⟩ b2).setCell ⟨n, 3, none⟩ b3).setCell ⟨n, 4, none⟩ b4).setCell ⟨n, 5, none⟩ b5).setCell ⟨n, 6, none⟩ b6) n #[b0, b1, b2, b3, b4, b5, b6] t := by
  have k := (((((((h.set 0 b0).set 1 b1).set 2 b2).set 3 b3).set 4 b4).set 5 b5).set 6 b6)
  simpa using k
theorem Fr.young {S S' : List Nat} {w w1 w2 : World} (h : Fr S w w1) (k : Fr S' w1 w2) (hS : ∀ n ∈ S', n ∈ S ∨ w.heap.size ≤ n) : Fr S w w2 :=
  ⟨k.os.trans h.os, k.tape.trans h.tape, k.output.trans h.output, Nat.le_trans h.size k.size, fun i hi hs => (k.block i (Nat.lt_of_lt_of_le hi h.size) (fun hn => by rcases hS i hn with h1 | h1; exact hs h1; omega)).trans (h.block i hi hs)⟩
theorem get24_nil (text : ByteArray) (w : World) : Calls Tryz.prog 24 #[.pointer none, .string text] w fun e w' => e = .returned (.tuple #[.agg #[.int .i64 0, .int .i64 0, .int .i64 0, .int .i64 0, .slice none 0 0, .int .i64 0, .int .i64 0], .int .i64 1]) ∧ Bel w w' := by
  go_enter Tryz.func24, Tryz.ntmps24
  go_wp2_with fail
  refine bodyPost_ret (v := .tuple #[.agg #[.int .i64 0, .int .i64 0, .int .i64 0, .int .i64 0, .slice none 0 0, .int .i64 0, .int .i64 0], .int .i64 1]) (by simp [results, Tryz.results24, go_sem]) rfl ⟨rfl, (((Bel.refl w).alloc _).alloc _).alloc _⟩
theorem getall35_nil (a : Option Addr) (m c : Nat) (n : Int) (w : World) : Calls Tryz.prog 35 #[.pointer none, .int .i64 n, .slice a m c] w fun e w' => e = .returned (.tuple #[.slice none 0 0, .int .i64 1]) ∧ Bel w w' := by
  go_enter Tryz.func35, Tryz.ntmps35
  go_wp2_with fail
  go_ret2
  exact ⟨rfl, ((Bel.refl w).alloc _).alloc _⟩
def GetNew (text : ByteArray) (C : Nat) (most : Int) (bm : Nat) (bu asks : Int) (L : List (ByteArray × Value)) (b : CRes) (w : World) (e : Ending) (w' : World) : Prop := ∃ vc E vE, e = .returned (.tuple #[.agg #[.int .i64 b.prg.size.i, .int .i64 b.prg.size.q, .int .i64 b.prg.size.m, .int .i64 b.prg.size.e, vc, .int .i64 b.at_, .int .i64 b.err], .int .i64 0]) ∧ w.heap.size ≤ E ∧
  Blk w' C (cacheC most 0 bm (bu + 1) (asks + 1)) 146 ∧ MapAt Value.string w' bm (L ++ [(text, .pointer (some ⟨E, 0, none⟩))]) ∧ Blk w' E (entC 1 0 b.prg.size vE b.at_ b.err) 157 ∧ Hangs w.heap.size none w' (fun w'' => SlAt InsE 4 w'' vE b.prg.code) ∧ Hangs w.heap.size none w' (fun w'' => SlAt InsE 4 w'' vc b.prg.code) ∧ Fr [C, bm] w w'
def GetOld (C : Nat) (most : Int) (bm : Nat) (bu asks : Int) (b : CRes) (w : World) (e : Ending) (w' : World) : Prop := ∃ vc, e = .returned (.tuple #[.agg #[.int .i64 b.prg.size.i, .int .i64 b.prg.size.q, .int .i64 b.prg.size.m, .int .i64 b.prg.size.e, vc, .int .i64 b.at_, .int .i64 b.err], .int .i64 0]) ∧
  Blk w' C (cacheC most 0 bm bu (asks + 1)) 146 ∧ Hangs w.heap.size none w' (fun w'' => SlAt InsE 4 w'' vc b.prg.code) ∧ Fr [C] w w'
set_option maxRecDepth 100000 in
theorem do57 (K : Ladder → CRes) (text : ByteArray) (C Bc Bt Bx E : Nat) (most : Int) (bm : Nat) (bu asks : Int) (w : World) (hs : text.size ≤ 1073741824) (hE : Env w) (hK : CompLaw K (parseF text)) (h0 : 0 ≤ bu) (h1 : bu ≤ 1000000)
    (qc : Blk w Bc #[.pointer (some ⟨C, 0, none⟩)] 58) (qt : Blk w Bt #[.string text] 9) (qx : Blk w Bx #[.pointer (some ⟨E, 0, none⟩)] 149) (hC : Blk w C (cacheC most 0 bm bu asks) 146) (hq : Blk w E (entC 0 0 ⟨0, 0, 0, 0⟩ (.slice none 0 0) 0 0) 157) (hC18 : 18 ≤ C) (hE18 : 18 ≤ E) :
    Calls Tryz.prog 56 #[.pointer (some ⟨E, 0, none⟩), .func (.func 57) #[] #[.pointer (some ⟨Bc, 0, none⟩), .pointer (some ⟨Bt, 0, none⟩), .pointer (some ⟨Bx, 0, none⟩)]] w fun e w' => e = .returned (.tuple #[]) ∧ Blk w' C (cacheC most 0 bm (bu + 1) asks) 146 ∧
      (∃ vc, Blk w' E (entC 1 0 (buildF K text).prg.size vc (buildF K text).at_ (buildF K text).err) 157 ∧ Hangs w.heap.size none w' (fun w'' => SlAt InsE 4 w'' vc (buildF K text).prg.code)) ∧ Fr [C, E] w w' := by
  have ne : ∀ {n m : Nat} {c1 c2 : Array Value} {t1 t2 : TypeId}, Blk w n c1 t1 → Blk w m c2 t2 → t1 ≠ t2 → n ≠ m := fun h1 h2 ht e => by
    subst e
    have := h1.symm.trans h2
    injection this with this; injection this with _ this; exact ht this
  have nC := ne hq hC (by decide)
  have nc := ne hq qc (by decide)
  have nt := ne hq qt (by decide)
  have nx := ne hq qx (by decide)
  have f1 : Fr [C, E] w (w.setCell ⟨E, 1, none⟩ (.int .i32 1)) := (Fr.refl _ _).set (by simp)
  have hsz : (w.setCell ⟨E, 1, none⟩ (.int .i32 1)).heap.size = w.heap.size := by simp [World.setCell]
  have hc := clos57 K text C Bc Bt Bx E most bm bu asks (w.setCell ⟨E, 1, none⟩ (.int .i32 1)) hs (hE.fr f1 (by simp; omega)) hK h0 h1 (qc.set_other (a := ⟨E, 1, none⟩) nc _) (qt.set_other (a := ⟨E, 1, none⟩) nt _) (qx.set_other (a := ⟨E, 1, none⟩) nx _) (hC.set_other (a := ⟨E, 1, none⟩) nC _) (hq.set 1 _) hC18 hE18
  unfold Clo57 at hc
  rw [hsz] at hc
  have hlt := hq.lt
  refine (do_first E 57 _ w _ (fun _ _ => rfl) (hq.cell 0 rfl) (hq.cell 1 rfl) (hq.frozen 0) (hq.frozen 1) hc (fun w' h => ?_)).mono ?_
  · obtain ⟨_, ⟨vc, h, _⟩, _⟩ := h
    exact ⟨⟨_, h.cell 0 rfl⟩, h.cell 1 rfl, h.frozen 0, h.frozen 1⟩
  · rintro e w' ⟨rfl, w2, ⟨hC2, ⟨vc, hE2, hh2⟩, f2⟩, rfl⟩
    have f3 : Fr [E] w2 ((w2.drew.setCell ⟨E, 0, none⟩ (.int .u32 1)).setCell ⟨E, 1, none⟩ (.int .i32 0)) := ((Fr.of_bel [E] (Bel.refl w2).drew).set (by simp)).set (by simp)
    exact ⟨rfl, f3.blk hC2 (by simpa using fun e => nC e.symm), ⟨vc, ((hE2.bel (Bel.refl w2).drew).set 0 _).set 1 _, f3.hangs hh2 (by simpa using hlt)⟩, (f1.trans f2).trans (f3.wider (by simp))⟩
set_option maxRecDepth 100000 in
set_option maxHeartbeats 4000000 in
theorem get24_new (K : Ladder → CRes) (text : ByteArray) (C : Nat) (most : Int) (bm : Nat) (bu asks : Int) (L : List (ByteArray × Value)) (w : World) (hs : text.size ≤ 1073741824) (hE : Env w) (hK : CompLaw K (parseF text)) (h0 : 0 ≤ bu) (h1 : bu ≤ 1000000) (g0 : 0 ≤ asks) (g1 : asks ≤ 1000000)
    (hC : Blk w C (cacheC most 0 bm bu asks) 146) (hm : MapAt Value.string w bm L) (hg : asGet L text = none) (hlt : (L.length : Int) < most) (hC18 : 18 ≤ C) (hm18 : 18 ≤ bm) (hcl : (buildF K text).prg.code.length ≤ 100000000) :
    Calls Tryz.prog 24 #[.pointer (some ⟨C, 0, none⟩), .string text] w (GetNew text C most bm bu asks L (buildF K text) w) := by
  have hadd := fun W (hq : Blk W C (cacheC most 0 bm bu asks) 146) => add54 C 5 asks 1 W (hq.cell 5 rfl) (hq.frozen 5) g0 (by omega) (by omega) (by omega)
  have hne := map_ne_blk hm hC
  have hclo := fun X Bc Bt Bx E => do57 K text C Bc Bt Bx E most bm bu (asks + 1) X hs
  generalize buildF K text = b at *
  have HH := Lib.hid (And.intro hs (And.intro h0 (And.intro h1 (And.intro g0 (And.intro g1 (And.intro hlt hcl))))))
  have HG := Lib.hid hg
  have HDo := Lib.hid hclo
  have HE := Lib.hid hE
  have HK := Lib.hid hK
  clear hs h0 h1 g0 g1 hlt hclo hg hE hK hcl
  have hCl := hC.lt; have hml := hm.lt
  go_enter Tryz.func24, Tryz.ntmps24
  go_wp2_with fail
  have qc : Blk (((w.alloc (.cells #[.pointer (some ⟨C, 0, none⟩)] 58)).alloc (.cells #[.string text] 9)).alloc (.cells #[.int .i64 0, .int .i64 0, .int .i64 0, .int .i64 0, .slice none 0 0, .int .i64 0, .int .i64 0] 66)) w.heap.size #[.pointer (some ⟨C, 0, none⟩)] 58 := ((Blk.new w _ _).alloc _).alloc _
  have qt : Blk (((w.alloc (.cells #[.pointer (some ⟨C, 0, none⟩)] 58)).alloc (.cells #[.string text] 9)).alloc (.cells #[.int .i64 0, .int .i64 0, .int .i64 0, .int .i64 0, .slice none 0 0, .int .i64 0, .int .i64 0] 66)) (w.heap.size + 1) #[.string text] 9 := (Blk.new1 w _ _ _).alloc _
  have qr : Blk (((w.alloc (.cells #[.pointer (some ⟨C, 0, none⟩)] 58)).alloc (.cells #[.string text] 9)).alloc (.cells #[.int .i64 0, .int .i64 0, .int .i64 0, .int .i64 0, .slice none 0 0, .int .i64 0, .int .i64 0] 66)) (w.heap.size + 1 + 1) #[.int .i64 0, .int .i64 0, .int .i64 0, .int .i64 0, .slice none 0 0, .int .i64 0, .int .i64 0] 66 := by
    have := Blk.new1 (w.alloc (.cells #[.pointer (some ⟨C, 0, none⟩)] 58)) (.cells #[.string text] 9) #[.int .i64 0, .int .i64 0, .int .i64 0, .int .i64 0, .slice none 0 0, .int .i64 0, .int .i64 0] 66
    simpa using this
  have hb1 : Bel w (((w.alloc (.cells #[.pointer (some ⟨C, 0, none⟩)] 58)).alloc (.cells #[.string text] 9)).alloc (.cells #[.int .i64 0, .int .i64 0, .int .i64 0, .int .i64 0, .slice none 0 0, .int .i64 0, .int .i64 0] 66)) := (((Bel.refl w).alloc _).alloc _).alloc _
  generalize (((w.alloc (.cells #[.pointer (some ⟨C, 0, none⟩)] 58)).alloc (.cells #[.string text] 9)).alloc (.cells #[.int .i64 0, .int .i64 0, .int .i64 0, .int .i64 0, .slice none 0 0, .int .i64 0, .int .i64 0] 66)) = X at *
  refine (hadd X (hC.bel hb1)).mono ?_
  rintro e w1 ⟨rfl, hw1⟩
  have f1 : Fr [C, bm] w w1 := by rw [hw1]; exact (Fr.of_bel _ hb1).set (by simp)
  have f1c : Fr [C] w w1 := by rw [hw1]; exact (Fr.of_bel _ hb1).set (by simp)
  have hC1 : Blk w1 C (cacheC most 0 bm bu (asks + 1)) 146 := by rw [hw1]; exact (hC.bel hb1).set 5 _
  have qc1 := qc.set_other (a := ⟨C, 5, none⟩) (by simp; omega) (.int .i64 (asks + 1))
  have qt1 := qt.set_other (a := ⟨C, 5, none⟩) (by simp; omega) (.int .i64 (asks + 1))
  have qr1 := qr.set_other (a := ⟨C, 5, none⟩) (by simp; omega) (.int .i64 (asks + 1))
  rw [← hw1] at qc1 qt1 qr1
  have hm1 := f1c.map hm (by simp; exact fun e => hne e.symm)
  have k1 := qc1.cell 0 rfl; have k2 := qt1.cell 0 rfl
  clear hadd hb1 f1c hw1 qc qt qr
  go_wp2_with fail
  refine (find_new C most bm bu (asks + 1) L text w1 hC1 hm1 HG.out HH.out.2.2.2.2.2.1).mono ?_
  rintro e w2 ⟨E, rfl, hE2, hC2, hm2, qE2, f2⟩
  have hsz1 := qr1.lt
  have qc2 := f2.blk qc1 (by simp; omega)
  have qt2 := f2.blk qt1 (by simp; omega)
  have qr2 := f2.blk qr1 (by simp; omega)
  have k3 := qc2.cell 0 rfl; have k4 := qt2.cell 0 rfl
  have f02 := f1.trans f2
  clear k1 k2 qc1 qt1 qr1 hC1 hm1 f1
  go_wp2_with fail
  have hb3 : Bel w2 (w2.alloc (.cells #[.pointer (some ⟨E, 0, none⟩)] 149)) := (Bel.refl w2).alloc _
  have qx3 : Blk (w2.alloc (.cells #[.pointer (some ⟨E, 0, none⟩)] 149)) w2.heap.size #[.pointer (some ⟨E, 0, none⟩)] 149 := Blk.new w2 _ _
  have hC3 := hC2.bel hb3; have qE3 := qE2.bel hb3; have qc3 := qc2.bel hb3; have qt3 := qt2.bel hb3; have qr3 := qr2.bel hb3; have hm3 := hm2.bel hb3
  have f03 := f02.bel hb3
  have hEl := qE2.lt
  generalize (w2.alloc (.cells #[.pointer (some ⟨E, 0, none⟩)] 149)) = w3 at *
  clear hC2 hm2 qE2 qc2 qt2 qr2 k3 k4 f2 hb3
  have hE3 := HE.out.fr f03 (by simp; omega)
  have hwE : w.heap.size ≤ E := Nat.le_trans (Nat.le_trans (by omega) (Nat.le_of_lt hsz1)) hE2
  refine (HDo.out w3 w.heap.size (w.heap.size + 1) w2.heap.size E hE3 HK.out HH.out.2.1 HH.out.2.2.1 qc3 qt3 qx3 hC3 qE3 hC18 (Nat.le_trans HE.out.size hwE)).mono ?_
  rintro e w4 ⟨rfl, hC4, ⟨vE, qE4, hh4⟩, f4⟩
  have hE18 := HE.out.size
  have nE : bm ≠ E := by omega
  have qx4 := f4.blk qx3 (by simp; omega)
  have qr4 := f4.blk qr3 (by simp; omega)
  have hm4 := f4.map hm3 (by simp; exact ⟨fun e => hne e.symm, nE⟩)
  have k0 := qx4.cell 0 rfl
  have hv4 := hh4.here
  have hex := hv4.ex
  obtain ⟨ac, cc, rfl, _⟩ := hex
  have e3 : w4.cell? ⟨E, 3, none⟩ = some (.int .i64 b.prg.size.i) := qE4.cell 3 rfl
  have e4 : w4.cell? ⟨E, 4, none⟩ = some (.int .i64 b.prg.size.q) := qE4.cell 4 rfl
  have e5 : w4.cell? ⟨E, 5, none⟩ = some (.int .i64 b.prg.size.m) := qE4.cell 5 rfl
  have e6 : w4.cell? ⟨E, 6, none⟩ = some (.int .i64 b.prg.size.e) := qE4.cell 6 rfl
  have e7 : w4.cell? ⟨E, 7, none⟩ = some (.slice ac b.prg.code.length cc) := qE4.cell 7 rfl
  have e8 : w4.cell? ⟨E, 8, none⟩ = some (.int .i64 b.at_) := qE4.cell 8 rfl
  have e9 : w4.cell? ⟨E, 9, none⟩ = some (.int .i64 b.err) := qE4.cell 9 rfl
  have HV4 := Lib.hid hv4
  clear hv4
  go_wp2_with fail
  have hb5 : Bel w4 (w4.alloc (.cells #[.int .i64 b.prg.size.i, .int .i64 b.prg.size.q, .int .i64 b.prg.size.m, .int .i64 b.prg.size.e, .slice ac b.prg.code.length cc, .int .i64 b.at_, .int .i64 b.err] 66)) := (Bel.refl w4).alloc _
  have qb5 : Blk (w4.alloc (.cells #[.int .i64 b.prg.size.i, .int .i64 b.prg.size.q, .int .i64 b.prg.size.m, .int .i64 b.prg.size.e, .slice ac b.prg.code.length cc, .int .i64 b.at_, .int .i64 b.err] 66)) w4.heap.size #[.int .i64 b.prg.size.i, .int .i64 b.prg.size.q, .int .i64 b.prg.size.m, .int .i64 b.prg.size.e, .slice ac b.prg.code.length cc, .int .i64 b.at_, .int .i64 b.err] 66 := Blk.new w4 _ _
  have hz5 : w.heap.size ≤ w4.heap.size := Nat.le_trans f03.size f4.size
  have hz6 := Nat.le_trans f4.size hb5.size
  have nr4 := qr4.lt
  generalize (w4.alloc (.cells #[.int .i64 b.prg.size.i, .int .i64 b.prg.size.q, .int .i64 b.prg.size.m, .int .i64 b.prg.size.e, .slice ac b.prg.code.length cc, .int .i64 b.at_, .int .i64 b.err] 66)) = w5 at *
  refine (clone58 _ b.prg.code w5 (HV4.out.bel (Flat.mono _) hb5) HH.out.2.2.2.2.2.2).mono ?_
  rintro e w6 ⟨vc, rfl, hb6, hhc⟩
  obtain ⟨a2, c2, rfl, _⟩ := hhc.here.ex
  have hb46 := hb5.trans hb6
  have qb6 := qb5.bel hb6; have qr6 := qr4.bel hb46
  have b4 : w6.cell? ⟨w4.heap.size, 4, none⟩ = some (.slice ac b.prg.code.length cc) := qb6.cell 4 rfl
  have z4 := qb6.frozen 4
  have nb5 := qb5.lt
  have HB := Lib.hid hb46; have HX := Lib.hid hhc
  clear hb5 qb5 hb6 hb46 hhc
  have x0 : w6.cell? ⟨w4.heap.size, 0, none⟩ = some (.int .i64 b.prg.size.i) := qb6.cell 0 rfl
  have x1 : w6.cell? ⟨w4.heap.size, 1, none⟩ = some (.int .i64 b.prg.size.q) := qb6.cell 1 rfl
  have x2 : w6.cell? ⟨w4.heap.size, 2, none⟩ = some (.int .i64 b.prg.size.m) := qb6.cell 2 rfl
  have x3 : w6.cell? ⟨w4.heap.size, 3, none⟩ = some (.int .i64 b.prg.size.e) := qb6.cell 3 rfl
  have x5 : w6.cell? ⟨w4.heap.size, 5, none⟩ = some (.int .i64 b.at_) := qb6.cell 5 rfl
  have x6 : w6.cell? ⟨w4.heap.size, 6, none⟩ = some (.int .i64 b.err) := qb6.cell 6 rfl
  have y0 : w6.cell? ⟨w.heap.size + 1 + 1, 0, none⟩ = some (.int .i64 0) := qr6.cell 0 rfl
  have v0 := qr6.frozen 0
  have y1 : w6.cell? ⟨w.heap.size + 1 + 1, 1, none⟩ = some (.int .i64 0) := qr6.cell 1 rfl
  have v1 := qr6.frozen 1
  have y2 : w6.cell? ⟨w.heap.size + 1 + 1, 2, none⟩ = some (.int .i64 0) := qr6.cell 2 rfl
  have v2 := qr6.frozen 2
  have y3 : w6.cell? ⟨w.heap.size + 1 + 1, 3, none⟩ = some (.int .i64 0) := qr6.cell 3 rfl
  have v3 := qr6.frozen 3
  have y4 : w6.cell? ⟨w.heap.size + 1 + 1, 4, none⟩ = some (.slice none 0 0) := qr6.cell 4 rfl
  have v4 := qr6.frozen 4
  have y5 : w6.cell? ⟨w.heap.size + 1 + 1, 5, none⟩ = some (.int .i64 0) := qr6.cell 5 rfl
  have v5 := qr6.frozen 5
  have y6 : w6.cell? ⟨w.heap.size + 1 + 1, 6, none⟩ = some (.int .i64 0) := qr6.cell 6 rfl
  have v6 := qr6.frozen 6
  have n1 : w4.heap.size ≠ w.heap.size + 1 + 1 := by omega
  have n2 : ¬ w.heap.size + 1 + 1 = w4.heap.size := by omega
  have n3 : ¬ w4.heap.size = w.heap.size + 1 + 1 := by omega
  go_wp2_with fail
  have hsz12 := Nat.le_trans f03.size f4.size
  have fR := ((((((((Fr.refl [w4.heap.size, w.heap.size + 1 + 1] w6).set (n := w4.heap.size) (i := 4) (v := .slice a2 b.prg.code.length c2) (by simp)).set (n := w.heap.size + 1 + 1) (i := 0) (v := .int .i64 b.prg.size.i) (by simp)).set (n := w.heap.size + 1 + 1) (i := 1) (v := .int .i64 b.prg.size.q) (by simp)).set (n := w.heap.size + 1 + 1) (i := 2) (v := .int .i64 b.prg.size.m) (by simp)).set (n := w.heap.size + 1 + 1) (i := 3) (v := .int .i64 b.prg.size.e) (by simp)).set (n := w.heap.size + 1 + 1) (i := 4) (v := .slice a2 b.prg.code.length c2) (by simp)).set (n := w.heap.size + 1 + 1) (i := 5) (v := .int .i64 b.at_) (by simp)).set (n := w.heap.size + 1 + 1) (i := 6) (v := .int .i64 b.err) (by simp)
  have qF := blk_set7 (qr6.set_other (a := ⟨w4.heap.size, 4, none⟩) n1 (.slice a2 b.prg.code.length c2)) (.int .i64 b.prg.size.i) (.int .i64 b.prg.size.q) (.int .i64 b.prg.size.m) (.int .i64 b.prg.size.e) (.slice a2 b.prg.code.length c2) (.int .i64 b.at_) (.int .i64 b.err)
  generalize ((((((((w6.setCell ⟨w4.heap.size, 4, none⟩ (.slice a2 b.prg.code.length c2)).setCell ⟨w.heap.size + 1 + 1, 0, none⟩ (.int .i64 b.prg.size.i)).setCell ⟨w.heap.size + 1 + 1, 1, none⟩ (.int .i64 b.prg.size.q)).setCell ⟨w.heap.size + 1 + 1, 2, none⟩ (.int .i64 b.prg.size.m)).setCell ⟨w.heap.size + 1 + 1, 3, none⟩ (.int .i64 b.prg.size.e)).setCell ⟨w.heap.size + 1 + 1, 4, none⟩ (.slice a2 b.prg.code.length c2)).setCell ⟨w.heap.size + 1 + 1, 5, none⟩ (.int .i64 b.at_)).setCell ⟨w.heap.size + 1 + 1, 6, none⟩ (.int .i64 b.err)) = W at *
  have r0 : W.cell? ⟨w.heap.size + 1 + 1, 0, none⟩ = some (.int .i64 b.prg.size.i) := qF.cell 0 rfl
  have r1 : W.cell? ⟨w.heap.size + 1 + 1, 1, none⟩ = some (.int .i64 b.prg.size.q) := qF.cell 1 rfl
  have r2 : W.cell? ⟨w.heap.size + 1 + 1, 2, none⟩ = some (.int .i64 b.prg.size.m) := qF.cell 2 rfl
  have r3 : W.cell? ⟨w.heap.size + 1 + 1, 3, none⟩ = some (.int .i64 b.prg.size.e) := qF.cell 3 rfl
  have r4 : W.cell? ⟨w.heap.size + 1 + 1, 4, none⟩ = some (.slice a2 b.prg.code.length c2) := qF.cell 4 rfl
  have r5 : W.cell? ⟨w.heap.size + 1 + 1, 5, none⟩ = some (.int .i64 b.at_) := qF.cell 5 rfl
  have r6 : W.cell? ⟨w.heap.size + 1 + 1, 6, none⟩ = some (.int .i64 b.err) := qF.cell 6 rfl
  have fA : Fr [w4.heap.size, w.heap.size + 1 + 1] w4 W := (Fr.of_bel _ HB.out).trans fR
  have h23 : w2.heap.size ≤ w3.heap.size := Nat.le_of_lt qx3.lt
  have h34 := f4.size
  refine bodyPost_ret (v := .tuple #[.agg #[.int .i64 b.prg.size.i, .int .i64 b.prg.size.q, .int .i64 b.prg.size.m, .int .i64 b.prg.size.e, .slice a2 b.prg.code.length c2, .int .i64 b.at_, .int .i64 b.err], .int .i64 0]) (by simp [results, Tryz.results24, go_sem, r0, r1, r2, r3, r4, r5, r6]) rfl ⟨_, E, _, rfl, hwE, fA.blk hC4 (by simp; omega), fA.map hm4 (by simp; omega), fA.blk qE4 (by simp; omega), (hh4.to fA.size (fun k k1 k2 _ => fA.block k k2 (by simp; omega)) (by simp)).younger f03.size (by simp), (HX.out.to fR.size (fun k k1 k2 _ => fR.block k k2 (by simp; omega)) (by simp)).younger (by omega) (by simp), (f03.young f4 (by simp; exact .inr hwE)).young fA (by simp; omega)⟩
end Go.Proofs.YtbgilebgdbgddaaGreatDoor
