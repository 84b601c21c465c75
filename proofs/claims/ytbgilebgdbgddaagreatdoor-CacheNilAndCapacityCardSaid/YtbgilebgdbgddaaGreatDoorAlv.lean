/- alive: the law's own cache answers. -/
import Derived.Test.YtbgilebgdbgddaaGreatDoorGeo
import Derived.Test.YtbgilebgdbgddaaGreatDoorLad
set_option linter.unusedVariables false
set_option linter.unusedSimpArgs false
namespace Go.Proofs.YtbgilebgdbgddaaGreatDoor
open Go.RowKit Go.MuLone
structure St (C bm E R N : Nat) (vE : Value) (b : CRes) (asks : Int) (cs : Array Value) (W0 W : World) : Prop where
  c : Blk W C (cacheC 5 0 bm 1 asks) 146
  m : MapAt Value.string W bm [(exT, .pointer (some ⟨E, 0, none⟩))]
  e : Blk W E (entC 1 0 b.prg.size vE b.at_ b.err) 157
  h : Hangs N none W (fun w'' => SlAt InsE 4 w'' vE b.prg.code)
  r : Blk W R cs 66
  n : N ≤ W.heap.size
  bel : Bel W0 W
  lt : C < N ∧ R < N ∧ W0.heap.size ≤ C ∧ W0.heap.size ≤ R ∧ R ≠ C ∧ R ≠ bm ∧ R ≠ E ∧ C ≠ bm ∧ C ≠ E
theorem St.store {C bm E R N : Nat} {vE : Value} {b : CRes} {asks : Int} {cs : Array Value} {W0 W : World} (s : St C bm E R N vE b asks cs W0 W) (i : Nat) (v : Value) : St C bm E R N vE b asks (cs.setIfInBounds i v) W0 (W.setCell ⟨R, i, none⟩ v) := by
  have f : Fr [R] W (W.setCell ⟨R, i, none⟩ v) := (Fr.refl _ _).set (by simp)
  obtain ⟨l1, l2, l3, l4, l5, l6, l7, l8, l9⟩ := s.lt
  exact ⟨f.blk s.c (by simp; omega), f.map s.m (by simp; omega), f.blk s.e (by simp; omega), f.hangs s.h (by simp; omega), s.r.set i v, Nat.le_trans s.n f.size, f.toBel s.bel (by simp; omega), s.lt⟩
theorem St.fr {C bm E R N : Nat} {vE : Value} {b : CRes} {asks : Int} {cs : Array Value} {W0 W W' : World} (s : St C bm E R N vE b asks cs W0 W) {asks' : Int} (f : Fr [C] W W') (hc : Blk W' C (cacheC 5 0 bm 1 asks') 146) : St C bm E R N vE b asks' cs W0 W' := by
  obtain ⟨l1, l2, l3, l4, l5, l6, l7, l8, l9⟩ := s.lt
  exact ⟨hc, f.map s.m (by simp; omega), f.blk s.e (by simp; omega), f.hangs s.h (by simp; omega), f.blk s.r (by simp; omega), Nat.le_trans s.n f.size, f.toBel s.bel (by simp; omega), s.lt⟩
theorem St.bel' {C bm E R N : Nat} {vE : Value} {b : CRes} {asks : Int} {cs : Array Value} {W0 W W' : World} (s : St C bm E R N vE b asks cs W0 W) (hb : Bel W W') : St C bm E R N vE b asks cs W0 W' := s.fr (Fr.of_bel _ hb) (s.c.bel hb)
theorem st_get {C bm E R N : Nat} {vE : Value} {b : CRes} {asks : Int} {cs : Array Value} {W0 W : World} (s : St C bm E R N vE b asks cs W0 W) (g0 : 0 ≤ asks) (g1 : asks ≤ 1000000) (hcl : b.prg.code.length ≤ 100000000) :
    Calls Tryz.prog 24 #[.pointer (some ⟨C, 0, none⟩), .string exT] W fun e w' => ∃ a c, e = .returned (.tuple #[.agg #[.int .i64 b.prg.size.i, .int .i64 b.prg.size.q, .int .i64 b.prg.size.m, .int .i64 b.prg.size.e, .slice a b.prg.code.length c, .int .i64 b.at_, .int .i64 b.err], .int .i64 0]) ∧ St C bm E R N vE b (asks + 1) cs W0 w' := by
  refine (get24_old exT C E N vE 5 bm 1 asks _ b W g0 g1 s.c s.m (by simp [asGet]) s.e s.h s.lt.1 s.n hcl).mono ?_
  rintro e w' ⟨vc, rfl, hc, hh, f⟩
  obtain ⟨a, c, rfl, _⟩ := hh.here.ex
  exact ⟨a, c, rfl, s.fr f hc⟩
theorem st_first {C bm R : Nat} {cs : Array Value} {W0 W : World} (hE : Env W0) (hb : Bel W0 W) (hc : Blk W C (cacheC 5 0 bm 0 0) 146) (hm : MapAt Value.string W bm []) (hr : Blk W R cs 66) (h1 : W0.heap.size ≤ C) (h2 : W0.heap.size ≤ R) (h3 : W0.heap.size ≤ bm) (hcl : (buildF compN exT).prg.code.length ≤ 100000000) :
    Calls Tryz.prog 24 #[.pointer (some ⟨C, 0, none⟩), .string exT] W fun e w' => ∃ a c E vE, e = .returned (.tuple #[.agg #[.int .i64 (buildF compN exT).prg.size.i, .int .i64 (buildF compN exT).prg.size.q, .int .i64 (buildF compN exT).prg.size.m, .int .i64 (buildF compN exT).prg.size.e, .slice a (buildF compN exT).prg.code.length c, .int .i64 (buildF compN exT).at_, .int .i64 (buildF compN exT).err], .int .i64 0]) ∧ St C bm E R W.heap.size vE (buildF compN exT) 1 cs W0 w' := by
  have h18 := hE.size
  have nR : R ≠ C := fun e => by
    subst e
    have := hr.symm.trans hc
    injection this with this; injection this with _ this; exact absurd this (by decide)
  have nm := map_ne_blk hm hr
  have nc := map_ne_blk hm hc
  have lC := hc.lt; have lR := hr.lt
  refine (get24_new compN exT C 5 bm 0 0 [] W (by rw [exT_size]; omega) (hE.bel hb) ex_law (by omega) (by omega) (by omega) (by omega) hc hm rfl (by simp) (by omega) (by omega) hcl).mono ?_
  rintro e w' ⟨vc, E, vE, rfl, hle, hc', hm', he', hhE, hh, f⟩
  obtain ⟨a, c, rfl, _⟩ := hh.here.ex
  exact ⟨a, c, E, vE, rfl, hc', hm', he', hhE, f.blk hr (by simp; omega), f.size, f.toBel hb (by simp; omega), lC, lR, h1, h2, nR, by omega, by omega, by omega, by omega⟩
theorem ex53 (w : World) : Calls Tryz.prog 53 #[] w fun e w' => e = .returned (.string exT) ∧ w' = w := by
  unfold exT
  go_enter Tryz.func53, Tryz.ntmps53
  go_wp2_with fail
  go_ret
  exact ⟨rfl, rfl⟩
end Go.Proofs.YtbgilebgdbgddaaGreatDoor
/- alive. -/
namespace Go.Proofs.YtbgilebgdbgddaaGreatDoor
open Go.RowKit Go.MuLone
theorem St.store7 {C bm E R N : Nat} {vE : Value} {b : CRes} {asks : Int} {a0 a1 a2 a3 a4 a5 a6 : Value} {W0 W : World} (s : St C bm E R N vE b asks #[a0, a1, a2, a3, a4, a5, a6] W0 W) (b0 b1 b2 b3 b4 b5 b6 : Value) : St C bm E R N vE b asks #[b0, b1, b2, b3, b4, b5, b6] W0 (((((((W.setCell ⟨R, 0, none⟩ b0).setCell ⟨R, 1, none⟩ b1).setCell ⟨R, 2, none⟩ b2).setCell ⟨R, 3, none⟩ b3).setCell ⟨R, 4, none⟩ b4).setCell ⟨R, 5, none⟩ b5).setCell ⟨R, 6, none⟩ b6) := by
  have h := (((((((s.store 0 b0).store 1 b1).store 2 b2).store 3 b3).store 4 b4).store 5 b5).store 6 b6)
  simpa using h
set_option maxRecDepth 100000 in
set_option maxHeartbeats 4000000 in
theorem alive21 (w : World) (hE : Env w) : Calls Tryz.prog 21 #[] w fun e w' => e = .returned (.bool true) ∧ Bel w w' := by
  have hnw := new22 5 w (by omega)
  have hcl : (buildF compN exT).prg.code.length ≤ 100000000 := by rw [ex_code]; omega
  have hbad := ex_bad
  have hcode := ex_code
  have hfirst := fun C bm R cs W => @st_first C bm R cs w W hE
  generalize buildF compN exT = b at *
  obtain ⟨⟨⟨si, sq, sm, se⟩, code⟩, line, err⟩ := b
  dsimp only at hbad hcode hcl hfirst
  subst hbad
  rw [hcode] at hfirst
  have HF := Lib.hid hfirst
  have HL := Lib.hid hcl
  clear hfirst hcl
  go_enter Tryz.func21, Tryz.ntmps21
  go_wp2_with fail
  refine hnw.mono ?_
  rintro e w1 ⟨rfl, hC, hm, hb1⟩
  go_wp2_with fail
  have hb2 : Bel w1 (w1.alloc (.cells #[.int .i64 0, .int .i64 0, .int .i64 0, .int .i64 0, .slice none 0 0, .int .i64 0, .int .i64 0] 66)) := (Bel.refl w1).alloc _
  have q0 : Blk (w1.alloc (.cells #[.int .i64 0, .int .i64 0, .int .i64 0, .int .i64 0, .slice none 0 0, .int .i64 0, .int .i64 0] 66)) w1.heap.size #[.int .i64 0, .int .i64 0, .int .i64 0, .int .i64 0, .slice none 0 0, .int .i64 0, .int .i64 0] 66 := Blk.new w1 _ _
  have hC1 := hC.bel hb2; have hm1 := hm.bel hb2; have hbX := hb1.trans hb2
  have hs1 := hb1.size
  generalize (w1.alloc (.cells #[.int .i64 0, .int .i64 0, .int .i64 0, .int .i64 0, .slice none 0 0, .int .i64 0, .int .i64 0] 66)) = X0 at *
  clear hC hm hb2 hnw
  refine wp_loop_rounds 4 ?_
  rw [rounds_succ]
  go_wp2_with fail
  refine (ex53 X0).mono ?_
  rintro e z1 ⟨rfl, hz1⟩
  rw [hz1]; clear hz1 z1
  go_wp2_with fail
  refine (HF.out (w.heap.size + 1) w.heap.size w1.heap.size _ X0 hbX hC1 hm1 q0 (by omega) hs1 (by omega) (by omega)).mono ?_
  rintro e y1 ⟨a1, c1, E, vE, rfl, s1⟩
  have p10 : y1.cell? ⟨w1.heap.size, 0, none⟩ = some (.int .i64 0) := s1.r.cell 0 rfl
  have f10 := s1.r.frozen 0
  have p11 : y1.cell? ⟨w1.heap.size, 1, none⟩ = some (.int .i64 0) := s1.r.cell 1 rfl
  have f11 := s1.r.frozen 1
  have p12 : y1.cell? ⟨w1.heap.size, 2, none⟩ = some (.int .i64 0) := s1.r.cell 2 rfl
  have f12 := s1.r.frozen 2
  have p13 : y1.cell? ⟨w1.heap.size, 3, none⟩ = some (.int .i64 0) := s1.r.cell 3 rfl
  have f13 := s1.r.frozen 3
  have p14 : y1.cell? ⟨w1.heap.size, 4, none⟩ = some (.slice none 0 0) := s1.r.cell 4 rfl
  have f14 := s1.r.frozen 4
  have p15 : y1.cell? ⟨w1.heap.size, 5, none⟩ = some (.int .i64 0) := s1.r.cell 5 rfl
  have f15 := s1.r.frozen 5
  have p16 : y1.cell? ⟨w1.heap.size, 6, none⟩ = some (.int .i64 0) := s1.r.cell 6 rfl
  have f16 := s1.r.frozen 6
  go_wp2_with fail
  have t1 := s1.store7 (.int .i64 si) (.int .i64 sq) (.int .i64 sm) (.int .i64 se) (.slice a1 3 c1) (.int .i64 line) (.int .i64 0)
  generalize (((((((y1.setCell ⟨w1.heap.size, 0, none⟩ (.int .i64 si)).setCell ⟨w1.heap.size, 1, none⟩ (.int .i64 sq)).setCell ⟨w1.heap.size, 2, none⟩ (.int .i64 sm)).setCell ⟨w1.heap.size, 3, none⟩ (.int .i64 se)).setCell ⟨w1.heap.size, 4, none⟩ (.slice a1 3 c1)).setCell ⟨w1.heap.size, 5, none⟩ (.int .i64 line)).setCell ⟨w1.heap.size, 6, none⟩ (.int .i64 0)) = X1 at *
  clear p10 f10 p11 f11 p12 f12 p13 f13 p14 f14 p15 f15 p16 f16 s1
  rw [rounds_succ]
  go_wp2_with fail
  refine (ex53 X1).mono ?_
  rintro e z2 ⟨rfl, hz2⟩
  rw [hz2]; clear hz2 z2
  go_wp2_with fail
  refine (st_get t1 (by omega) (by omega) HL.out).mono ?_
  rintro e y2 ⟨a2, c2, rfl, s2⟩
  rw [hcode]
  have p20 : y2.cell? ⟨w1.heap.size, 0, none⟩ = some (.int .i64 si) := s2.r.cell 0 rfl
  have f20 := s2.r.frozen 0
  have p21 : y2.cell? ⟨w1.heap.size, 1, none⟩ = some (.int .i64 sq) := s2.r.cell 1 rfl
  have f21 := s2.r.frozen 1
  have p22 : y2.cell? ⟨w1.heap.size, 2, none⟩ = some (.int .i64 sm) := s2.r.cell 2 rfl
  have f22 := s2.r.frozen 2
  have p23 : y2.cell? ⟨w1.heap.size, 3, none⟩ = some (.int .i64 se) := s2.r.cell 3 rfl
  have f23 := s2.r.frozen 3
  have p24 : y2.cell? ⟨w1.heap.size, 4, none⟩ = some (.slice a1 3 c1) := s2.r.cell 4 rfl
  have f24 := s2.r.frozen 4
  have p25 : y2.cell? ⟨w1.heap.size, 5, none⟩ = some (.int .i64 line) := s2.r.cell 5 rfl
  have f25 := s2.r.frozen 5
  have p26 : y2.cell? ⟨w1.heap.size, 6, none⟩ = some (.int .i64 0) := s2.r.cell 6 rfl
  have f26 := s2.r.frozen 6
  go_wp2_with fail
  have t2 := s2.store7 (.int .i64 si) (.int .i64 sq) (.int .i64 sm) (.int .i64 se) (.slice a2 3 c2) (.int .i64 line) (.int .i64 0)
  generalize (((((((y2.setCell ⟨w1.heap.size, 0, none⟩ (.int .i64 si)).setCell ⟨w1.heap.size, 1, none⟩ (.int .i64 sq)).setCell ⟨w1.heap.size, 2, none⟩ (.int .i64 sm)).setCell ⟨w1.heap.size, 3, none⟩ (.int .i64 se)).setCell ⟨w1.heap.size, 4, none⟩ (.slice a2 3 c2)).setCell ⟨w1.heap.size, 5, none⟩ (.int .i64 line)).setCell ⟨w1.heap.size, 6, none⟩ (.int .i64 0)) = X2 at *
  clear p20 f20 p21 f21 p22 f22 p23 f23 p24 f24 p25 f25 p26 f26 s2
  rw [rounds_succ]
  go_wp2_with fail
  refine (ex53 X2).mono ?_
  rintro e z3 ⟨rfl, hz3⟩
  rw [hz3]; clear hz3 z3
  go_wp2_with fail
  refine (st_get t2 (by omega) (by omega) HL.out).mono ?_
  rintro e y3 ⟨a3, c3, rfl, s3⟩
  rw [hcode]
  have p30 : y3.cell? ⟨w1.heap.size, 0, none⟩ = some (.int .i64 si) := s3.r.cell 0 rfl
  have f30 := s3.r.frozen 0
  have p31 : y3.cell? ⟨w1.heap.size, 1, none⟩ = some (.int .i64 sq) := s3.r.cell 1 rfl
  have f31 := s3.r.frozen 1
  have p32 : y3.cell? ⟨w1.heap.size, 2, none⟩ = some (.int .i64 sm) := s3.r.cell 2 rfl
  have f32 := s3.r.frozen 2
  have p33 : y3.cell? ⟨w1.heap.size, 3, none⟩ = some (.int .i64 se) := s3.r.cell 3 rfl
  have f33 := s3.r.frozen 3
  have p34 : y3.cell? ⟨w1.heap.size, 4, none⟩ = some (.slice a2 3 c2) := s3.r.cell 4 rfl
  have f34 := s3.r.frozen 4
  have p35 : y3.cell? ⟨w1.heap.size, 5, none⟩ = some (.int .i64 line) := s3.r.cell 5 rfl
  have f35 := s3.r.frozen 5
  have p36 : y3.cell? ⟨w1.heap.size, 6, none⟩ = some (.int .i64 0) := s3.r.cell 6 rfl
  have f36 := s3.r.frozen 6
  go_wp2_with fail
  have t3 := s3.store7 (.int .i64 si) (.int .i64 sq) (.int .i64 sm) (.int .i64 se) (.slice a3 3 c3) (.int .i64 line) (.int .i64 0)
  generalize (((((((y3.setCell ⟨w1.heap.size, 0, none⟩ (.int .i64 si)).setCell ⟨w1.heap.size, 1, none⟩ (.int .i64 sq)).setCell ⟨w1.heap.size, 2, none⟩ (.int .i64 sm)).setCell ⟨w1.heap.size, 3, none⟩ (.int .i64 se)).setCell ⟨w1.heap.size, 4, none⟩ (.slice a3 3 c3)).setCell ⟨w1.heap.size, 5, none⟩ (.int .i64 line)).setCell ⟨w1.heap.size, 6, none⟩ (.int .i64 0)) = X3 at *
  clear p30 f30 p31 f31 p32 f32 p33 f33 p34 f34 p35 f35 p36 f36 s3
  rw [rounds_succ]
  have p0 : X3.cell? ⟨w1.heap.size, 0, none⟩ = some (.int .i64 si) := t3.r.cell 0 rfl
  have p1 : X3.cell? ⟨w1.heap.size, 1, none⟩ = some (.int .i64 sq) := t3.r.cell 1 rfl
  have p2 : X3.cell? ⟨w1.heap.size, 2, none⟩ = some (.int .i64 sm) := t3.r.cell 2 rfl
  have p3 : X3.cell? ⟨w1.heap.size, 3, none⟩ = some (.int .i64 se) := t3.r.cell 3 rfl
  have p4 : X3.cell? ⟨w1.heap.size, 4, none⟩ = some (.slice a3 3 c3) := t3.r.cell 4 rfl
  have p5 : X3.cell? ⟨w1.heap.size, 5, none⟩ = some (.int .i64 line) := t3.r.cell 5 rfl
  have p6 : X3.cell? ⟨w1.heap.size, 6, none⟩ = some (.int .i64 0) := t3.r.cell 6 rfl
  go_wp2_with fail
  have hC3 : Blk X3 (w.heap.size + 1) (cacheC 5 0 w.heap.size 1 3) 146 := t3.c
  have hb3 := t3.bel
  refine (len27 (w.heap.size + 1) 5 w.heap.size 1 3 _ X3 hC3 t3.m).mono ?_
  rintro e x4 ⟨rfl, hC4, f4⟩
  have hb4 := f4.toBel hb3 (by simp)
  simp only [List.length_singleton]
  go_wp2_with fail
  refine (builds28 (w.heap.size + 1) 5 w.heap.size 1 3 x4 hC4).mono ?_
  rintro e z5 ⟨rfl, hz5⟩
  rw [hz5]; clear hz5 z5
  go_wp2_with fail
  refine (lookups29 (w.heap.size + 1) 5 w.heap.size 1 3 x4 hC4).mono ?_
  rintro e z6 ⟨rfl, hz6⟩
  rw [hz6]; clear hz6 z6
  go_wp2_with fail
  go_ret
  exact ⟨rfl, hb4⟩
end Go.Proofs.YtbgilebgdbgddaaGreatDoor
