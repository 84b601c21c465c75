/- The compiler driver: build.run, Build, Valid, over a law of codegen.Ladder at the parsed ladder. -/
import Derived.Test.YtbgilebgdbgddaaGreatDoorPrf
import Derived.Test.YtbgilebgdbgddaaGreatDoorPok
import Derived.Test.YtbgilebgdbgddaaGreatDoorWho
import Derived.Laws.EntriesVeiled
set_option linter.unusedVariables false
set_option linter.unusedSimpArgs false
namespace Go.Proofs.YtbgilebgdbgddaaGreatDoor
open Go.RowKit
structure CRes where
  prg : Prg
  at_ : Int
  err : Int
def prgN : Prg := ⟨⟨0, 0, 0, 0⟩, []⟩
def LadLaw (l : Ladder) (c : CRes) : Prop := ∀ (cs : List Value) (w : World), Env w → LadderE w l cs → Calls Tryz.prog 143 #[.agg cs.toArray] w fun e w' => ∃ vc, e = .returned (.tuple #[.agg #[.int .i64 c.prg.size.i, .int .i64 c.prg.size.q, .int .i64 c.prg.size.m, .int .i64 c.prg.size.e, vc], .int .i64 c.at_, .int .i64 c.err]) ∧ Bel w w' ∧ Hangs w.heap.size none w' (fun w'' => SlAt InsE 4 w'' vc c.prg.code)
/-- What is compiled, by what the ladder gives. -/
def buildF (C : Ladder → CRes) (text : ByteArray) : CRes :=
  if (parseF text).err ≠ 0 then ⟨prgN, (parseF text).at_, (parseF text).err⟩ else
  if (C (parseF text).lad).err ≠ 0 then ⟨prgN, (parseF text).lines.getD (C (parseF text).lad).at_.toNat 0, (C (parseF text).lad).err⟩ else
  ⟨(C (parseF text).lad).prg, 0, 0⟩
theorem Hangs.job {B J : Nat} {w w1 : World} {P : World → Prop} (h : Hangs B none w P) (hg : w.grownBy w1 (some J)) (hJ : J < B) : Hangs B none w1 P :=
  h.to hg.size (fun k h1 h2 _ => hg.block k h2 (fun e => by injection e with e; omega)) (fun k _ e => by cases e)
theorem grown_set {w w1 : World} {n i : Nat} {v : Value} (h : w.grownBy w1 (some n)) : w.grownBy (w1.setCell ⟨n, i, none⟩ v) (some n) :=
  ⟨h.os, h.tape, h.output, by simpa [World.setCell] using h.size, fun k hk hne => by
    rw [← h.block k hk hne]
    simp only [World.setCell, Array.getElem?_modify]
    rw [if_neg (fun e => hne (by rw [e]))]⟩
def jobC (text : ByteArray) (a b c : Int) (vr vl : Value) (s : Size) (vc : Value) : Array Value := #[.string text, .int .i64 a, .int .i64 b, .int .i64 c, vr, vl, .int .i64 s.i, .int .i64 s.q, .int .i64 s.m, .int .i64 s.e, vc]
def Step1 (w : World) (J : Nat) (text : ByteArray) (r : PRes) (e : Ending) (w' : World) : Prop := ∃ vr vl, e = .returned (.tuple #[.int .i64 r.at_, .int .i64 r.err]) ∧ w.grownBy w' (some J) ∧
  Blk w' J (jobC text r.lad.i r.lad.q r.lad.m vr vl ⟨0, 0, 0, 0⟩ (.slice none 0 0)) 120 ∧ Hangs w.heap.size none w' (fun w'' => SlAt RungE 4 w'' vr r.lad.rungs ∧ SlAt IntE 1 w'' vl r.lines)
set_option maxRecDepth 100000 in
set_option maxHeartbeats 4000000 in
theorem step140 (J : Nat) (text : ByteArray) (w : World) (hs : text.size ≤ 1073741824) (hE : Env w) (hq : Blk w J (jobC text 0 0 0 (.slice none 0 0) (.slice none 0 0) ⟨0, 0, 0, 0⟩ (.slice none 0 0)) 120) :
    Calls Tryz.prog 140 #[.pointer (some ⟨J, 0, none⟩)] w (Step1 w J text (parseF text)) := by
  have hp := parse141 text w hs hE
  have k0 := hq.cell 0 rfl
  have hJ := hq.lt
  unfold ParPost at hp
  generalize parseF text = PF at *
  obtain ⟨⟨a, b, c, rs⟩, ls, at_, er⟩ := PF
  dsimp only at *
  go_enter Tryz.func140, Tryz.ntmps140
  go_wp2_with fail
  refine hp.mono ?_
  rintro e w1 ⟨vr, vl, rfl, hh, hb⟩
  have hq1 := hq.bel hb
  obtain ⟨ar, cr, rfl, _⟩ := hh.here.1.ex
  obtain ⟨al, cl, rfl, _⟩ := hh.here.2.ex
  have c1 := hq1.cell 1 rfl; have c2 := hq1.cell 2 rfl; have c3 := hq1.cell 3 rfl; have c4 := hq1.cell 4 rfl; have c5 := hq1.cell 5 rfl
  have f1 := hq1.frozen 1; have f2 := hq1.frozen 2; have f3 := hq1.frozen 3; have f4 := hq1.frozen 4; have f5 := hq1.frozen 5
  have g0 : w.grownBy w1 (some J) := grown_of_bel hb _
  have z := ((((hq1.set 1 (.int .i64 a)).set 2 (.int .i64 b)).set 3 (.int .i64 c)).set 4 (.slice ar rs.length cr)).set 5 (.slice al ls.length cl)
  have g5 : w.grownBy (((((w1.setCell ⟨J, 1, none⟩ (.int .i64 a)).setCell ⟨J, 2, none⟩ (.int .i64 b)).setCell ⟨J, 3, none⟩ (.int .i64 c)).setCell ⟨J, 4, none⟩ (.slice ar rs.length cr)).setCell ⟨J, 5, none⟩ (.slice al ls.length cl)) (some J) := grown_set (grown_set (grown_set (grown_set (grown_set g0))))
  have hh5 := ((((hh.set J 1 (.int .i64 a) hJ).set J 2 (.int .i64 b) hJ).set J 3 (.int .i64 c) hJ).set J 4 (.slice ar rs.length cr) hJ).set J 5 (.slice al ls.length cl) hJ
  clear hp k0 hh
  go_wp2_with fail
  exact bodyPost_ret (v := .tuple #[.int .i64 at_, .int .i64 er]) (by simp [results, Tryz.results140, go_sem]) rfl ⟨_, _, rfl, g5, z, hh5⟩
/-- Behind the second step. -/
def Step2 (w : World) (J : Nat) (text : ByteArray) (r : PRes) (c : CRes) (vr vl : Value) (e : Ending) (w' : World) : Prop :=
  (c.err ≠ 0 ∧ e = .returned (.tuple #[.int .i64 (r.lines.getD c.at_.toNat 0), .int .i64 c.err]) ∧ w.grownBy w' (some J)) ∨
  (c.err = 0 ∧ ∃ vc, e = .returned (.tuple #[.int .i64 0, .int .i64 0]) ∧ w.grownBy w' (some J) ∧
    Blk w' J (jobC text r.lad.i r.lad.q r.lad.m vr vl c.prg.size vc) 120 ∧ Hangs w.heap.size none w' (fun w'' => SlAt InsE 4 w'' vc c.prg.code))
set_option maxRecDepth 100000 in
set_option maxHeartbeats 4000000 in
theorem step142 (J : Nat) (text : ByteArray) (r : PRes) (c : CRes) (vr vl : Value) (w : World) (hE : Env w) (hq : Blk w J (jobC text r.lad.i r.lad.q r.lad.m vr vl ⟨0, 0, 0, 0⟩ (.slice none 0 0)) 120)
    (hr : SlAt RungE 4 w vr r.lad.rungs) (hl : SlAt IntE 1 w vl r.lines) (hC : LadLaw r.lad c) (hat : c.err ≠ 0 → 0 ≤ c.at_ ∧ c.at_.toNat < r.lines.length) :
    Calls Tryz.prog 142 #[.pointer (some ⟨J, 0, none⟩)] w (Step2 w J text r c vr vl) := by
  have hlad := hC [.int .i64 r.lad.i, .int .i64 r.lad.q, .int .i64 r.lad.m, vr] w hE ⟨vr, rfl, hr⟩
  have hJ := hq.lt
  obtain ⟨⟨a, b, d, rs⟩, ls, at0, er0⟩ := r
  obtain ⟨⟨⟨si, sq, sm, se⟩, code⟩, at_, er⟩ := c
  dsimp only at *
  obtain ⟨ar, cr, rfl, _⟩ := hr.ex
  obtain ⟨al, cl, rfl, _⟩ := hl.ex
  have k1 : w.cell? ⟨J, 1, none⟩ = some (.int .i64 a) := hq.cell 1 rfl
  have k2 : w.cell? ⟨J, 2, none⟩ = some (.int .i64 b) := hq.cell 2 rfl
  have k3 : w.cell? ⟨J, 3, none⟩ = some (.int .i64 d) := hq.cell 3 rfl
  have k4 : w.cell? ⟨J, 4, none⟩ = some (.slice ar rs.length cr) := hq.cell 4 rfl
  clear hC hr
  go_enter Tryz.func142, Tryz.ntmps142
  go_wp2_with fail
  refine hlad.mono ?_
  rintro e w1 ⟨vc, rfl, hb, hh⟩
  obtain ⟨ac, cc, rfl, _⟩ := hh.here.ex
  clear hlad k1 k2 k3 k4
  have hq1 := hq.bel hb
  have hbl : Bel w (w1.alloc (.cells #[.int .i64 si, .int .i64 sq, .int .i64 sm, .int .i64 se, .slice ac code.length cc] 44)) := hb.alloc _
  have hq2 := hq.bel hbl
  have qp : Blk (w1.alloc (.cells #[.int .i64 si, .int .i64 sq, .int .i64 sm, .int .i64 se, .slice ac code.length cc] 44)) w1.heap.size #[.int .i64 si, .int .i64 sq, .int .i64 sm, .int .i64 se, .slice ac code.length cc] 44 := Blk.new w1 _ _
  by_cases her : er = 0
  · subst her
    have g0 : w.grownBy _ (some J) := grown_of_bel hbl _
    have hh0 := hh.bel ((Bel.refl w1).alloc (.cells #[.int .i64 si, .int .i64 sq, .int .i64 sm, .int .i64 se, .slice ac code.length cc] 44))
    have c6 := hq2.cell 6 rfl; have c7 := hq2.cell 7 rfl; have c8 := hq2.cell 8 rfl; have c9 := hq2.cell 9 rfl; have c10 := hq2.cell 10 rfl
    have f6 := hq2.frozen 6; have f7 := hq2.frozen 7; have f8 := hq2.frozen 8; have f9 := hq2.frozen 9; have f10 := hq2.frozen 10
    have z := ((((hq2.set 6 (.int .i64 si)).set 7 (.int .i64 sq)).set 8 (.int .i64 sm)).set 9 (.int .i64 se)).set 10 (.slice ac code.length cc)
    have g5 := grown_set (i := 10) (v := .slice ac code.length cc) (grown_set (i := 9) (v := .int .i64 se) (grown_set (i := 8) (v := .int .i64 sm) (grown_set (i := 7) (v := .int .i64 sq) (grown_set (i := 6) (v := .int .i64 si) g0))))
    have hh5 := ((((hh0.set J 6 (.int .i64 si) hJ).set J 7 (.int .i64 sq) hJ).set J 8 (.int .i64 sm) hJ).set J 9 (.int .i64 se) hJ).set J 10 (.slice ac code.length cc) hJ
    clear hh hh0 g0 hat hl
    go_wp2_with fail
    exact bodyPost_ret (v := .tuple #[.int .i64 0, .int .i64 0]) (by simp [results, Tryz.results142, go_sem]) rfl (.inr ⟨rfl, _, rfl, g5, z, hh5⟩)
  · have hz1 : (er == 0) = false := by simpa using her
    have hz2 : (er != 0) = true := by simpa using her
    obtain ⟨h0, h1⟩ := hat her
    obtain ⟨i, rfl⟩ : ∃ i : Nat, at_ = i := ⟨at_.toNat, by omega⟩
    simp only [Int.toNat_natCast] at h1 ⊢
    have hli := (hl.bel (Flat.mono _) hbl)
    obtain ⟨a', c', hv, _, hcl, hx⟩ := hli.ex
    injection hv with e1 e2 e3
    subst e1; subst e3
    obtain ⟨bl, off, cs, rfl, hcs, _, hcell⟩ := hx i _ (List.getElem?_eq_getElem h1)
    obtain rfl := hcs
    have hcx := hcell 0 _ rfl
    have hgd : ls.getD i 0 = ls[i] := by rw [List.getD_eq_getElem?_getD, List.getElem?_eq_getElem h1]; rfl
    have k5 : World.cell? _ ⟨J, 5, none⟩ = some (.slice (some ⟨bl, off, none⟩) ls.length cl) := hq2.cell 5 rfl
    have hii : (i : Int) < (ls.length : Int) := by omega
    have g0 : w.grownBy _ (some J) := grown_of_bel hbl (some J)
    have HGD := Lib.hid hgd
    have Her := Lib.hid her
    simp only [Nat.mul_one, Nat.add_zero] at hcx
    generalize ls[i] = li at *
    clear her hgd hat hcell hx hl hli hh
    go_wp2_with fail
    exact bodyPost_ret (v := .tuple #[.int .i64 li, .int .i64 er]) (by simp [results, Tryz.results142, go_sem]) rfl (.inl ⟨Her.out, by show _ = Ending.returned (.tuple #[.int .i64 (ls.getD i 0), .int .i64 er]); rw [HGD.out], g0⟩)
theorem steps93 (w : World) : Calls Tryz.prog 93 #[] w fun e w' => e = .returned (.slice (some ⟨w.heap.size, 0, none⟩) 2 2) ∧ w' = w.alloc (.cells #[.func (.func 140) #[] #[], .func (.func 142) #[] #[]] 198) := by
  go_enter Tryz.func93, Tryz.ntmps93
  go_wp2_with fail
  go_ret
  exact ⟨rfl, rfl⟩
/-- What the parsed ladder compiles to, and that the driver may lean on it. -/
structure CompLaw (C : Ladder → CRes) (r : PRes) : Prop where
  lad : r.err = 0 → LadLaw r.lad (C r.lad)
  at_ : r.err = 0 → (C r.lad).err ≠ 0 → 0 ≤ (C r.lad).at_ ∧ (C r.lad).at_.toNat < r.lines.length
def RunAt (w : World) (text : ByteArray) (r : PRes) (c : CRes) (J bS : Nat) (x : Value) (wr : World) : Prop :=
  Bel w wr ∧ Blk wr bS #[.func (.func 140) #[] #[], .func (.func 142) #[] #[]] 198 ∧
  ((x = .int .i64 0 ∧ Blk wr J (jobC text 0 0 0 (.slice none 0 0) (.slice none 0 0) ⟨0, 0, 0, 0⟩ (.slice none 0 0)) 120) ∨
   (x = .int .i64 1 ∧ r.err = 0 ∧ ∃ vr vl, Blk wr J (jobC text r.lad.i r.lad.q r.lad.m vr vl ⟨0, 0, 0, 0⟩ (.slice none 0 0)) 120 ∧ Hangs (J + 1) none wr (fun w'' => SlAt RungE 4 w'' vr r.lad.rungs ∧ SlAt IntE 1 w'' vl r.lines)) ∨
   (x = .int .i64 2 ∧ r.err = 0 ∧ c.err = 0 ∧ ∃ vr vl vc, Blk wr J (jobC text r.lad.i r.lad.q r.lad.m vr vl c.prg.size vc) 120 ∧ Hangs (J + 1) none wr (fun w'' => SlAt RungE 4 w'' vr r.lad.rungs ∧ SlAt IntE 1 w'' vl r.lines) ∧ Hangs (J + 1) none wr (fun w'' => SlAt InsE 4 w'' vc c.prg.code)))
def RunPost (w : World) (text : ByteArray) (r : PRes) (c b : CRes) (e : Ending) (w' : World) : Prop :=
  (b.err ≠ 0 ∧ e = .returned (.tuple #[.pointer none, .int .i64 b.at_, .int .i64 b.err]) ∧ Bel w w') ∨
  (r.err = 0 ∧ c.err = 0 ∧ b = ⟨c.prg, 0, 0⟩ ∧ ∃ J vr vl vc, e = .returned (.tuple #[.pointer (some ⟨J, 0, none⟩), .int .i64 0, .int .i64 0]) ∧ Blk w' J (jobC text r.lad.i r.lad.q r.lad.m vr vl c.prg.size vc) 120 ∧ Hangs w.heap.size none w' (fun w'' => SlAt RungE 4 w'' vr r.lad.rungs) ∧ Hangs w.heap.size none w' (fun w'' => SlAt InsE 4 w'' vc c.prg.code) ∧ Bel w w')
set_option maxRecDepth 100000 in
set_option maxHeartbeats 4000000 in
theorem run44 (C : Ladder → CRes) (text : ByteArray) (w : World) (hs : text.size ≤ 1073741824) (hE : Env w) (hC : CompLaw C (parseF text)) :
    Calls Tryz.prog 44 #[.string text] w (RunPost w text (parseF text) (C (parseF text).lad) (buildF C text)) := by
  have hst := fun J W hE hq => step140 J text W hs hE hq
  have hBF := Lib.hid (show buildF C text = if (parseF text).err ≠ 0 then ⟨prgN, (parseF text).at_, (parseF text).err⟩ else
    if (C (parseF text).lad).err ≠ 0 then ⟨prgN, (parseF text).lines.getD (C (parseF text).lad).at_.toNat 0, (C (parseF text).lad).err⟩ else
    ⟨(C (parseF text).lad).prg, 0, 0⟩ from rfl)
  obtain ⟨hlad, hat⟩ := hC
  generalize buildF C text = BF at *
  generalize parseF text = r at *
  generalize hCe : C r.lad = c at *
  clear hCe
  have HST := Lib.hid hst; have HL := Lib.hid hlad; have HA := Lib.hid hat
  clear hst hlad hat hs
  have hJ := Blk.new w (jobC text 0 0 0 (.slice none 0 0) (.slice none 0 0) ⟨0, 0, 0, 0⟩ (.slice none 0 0)) 120
  have hb1 : Bel w (w.alloc (.cells (jobC text 0 0 0 (.slice none 0 0) (.slice none 0 0) ⟨0, 0, 0, 0⟩ (.slice none 0 0)) 120)) := (Bel.refl w).alloc _
  unfold jobC at hJ hb1
  dsimp only at hJ hb1
  go_enter Tryz.func44, Tryz.ntmps44
  go_wp2_with fail
  have hsz : (w.alloc (.cells #[.string text, .int .i64 0, .int .i64 0, .int .i64 0, .slice none 0 0, .slice none 0 0, .int .i64 0, .int .i64 0, .int .i64 0, .int .i64 0, .slice none 0 0] 120)).heap.size = w.heap.size + 1 := World.size_alloc _ _
  have HSZ := Lib.hid hsz
  clear hsz
  generalize (w.alloc (.cells #[.string text, .int .i64 0, .int .i64 0, .int .i64 0, .slice none 0 0, .slice none 0 0, .int .i64 0, .int .i64 0, .int .i64 0, .int .i64 0, .slice none 0 0] 120)) = W at *
  refine (steps93 W).mono ?_
  rintro e w1 ⟨rfl, rfl⟩
  have qS := Blk.new W #[.func (.func 140) #[] #[], .func (.func 142) #[] #[]] 198
  have hb2 : Bel W (W.alloc (.cells #[.func (.func 140) #[] #[], .func (.func 142) #[] #[]] 198)) := (Bel.refl W).alloc _
  have hBS : W.heap.size = w.heap.size + 1 := HSZ.out
  have hJ2 := hJ.bel hb2
  have hb3 := hb1.trans hb2
  rw [hBS] at qS ⊢
  clear hBS
  obtain ⟨J, hJe⟩ : ∃ J, J = w.heap.size := ⟨_, rfl⟩
  rw [← hJe] at qS hJ2 ⊢
  have HJ := Lib.hid hJe
  clear hJe hJ hb1 hb2
  generalize (W.alloc (.cells #[.func (.func 140) #[] #[], .func (.func 142) #[] #[]] 198)) = W2 at *
  go_wp2_with fail
  go_loopw [15] (RunAt w text r c J (J + 1)) (fun x _ => 2 - (intOf x).toNat)
  case atStart => exact ⟨hb3, qS, .inl ⟨rfl, hJ2⟩⟩
  case round =>
    clear hb3 qS hJ2
    obtain ⟨hb, qS, hcase⟩ := hrel
    have s0 := qS.cell 0 rfl; have s1 := qS.cell 1 rfl
    rcases hcase with ⟨rfl, hq⟩ | ⟨rfl, hr0, vr, vl, hq, hh⟩ | ⟨rfl, hr0, hc0, vr, vl, vc, hq, hh, hhc⟩
    · have hba : ∀ o, Bel wr (wr.alloc o) := fun o => (Bel.refl wr).alloc o
      have hcall := fun o => HST.out J (wr.alloc o) (hE.bel (hb.trans (hba o))) (hq.bel (hba o))
      go_wp2_with fail
      refine (hcall _).mono ?_
      rintro e w3 ⟨vr, vl, rfl, hg, hq3, hh3⟩
      have hJw : w.heap.size ≤ J := by have := HJ.out; omega
      have hb3 := grown_bel (hb.trans (hba _)) hg hJw
      have qS3 := grown_blk (qS.bel (hba _)) hg (fun e => by injection e with e; omega)
      have hjl : J + 1 ≤ (wr.alloc (.cells #[.func (.func 140) #[] #[]] 198)).heap.size := by have := qS.lt; rw [World.size_alloc]; omega
      have hh4 := Hangs.younger (r := none) hh3 hjl (fun g hg => by cases hg)
      clear hcall hba hh3 hg hq s0 s1
      by_cases her : r.err = 0
      · have Her := Lib.hid her
        rw [her]
        clear her
        go_wp2_with fail
        go_roundw
        case rel => exact ⟨hb3, qS3, .inr (.inl ⟨by go_num, Her.out, vr, vl, hq3, hh4⟩)⟩
        case measure => simp [intOf]
      · have hF : BF = ⟨prgN, r.at_, r.err⟩ := by rw [hBF.out, if_pos her]
        have HF := Lib.hid hF
        have Her := Lib.hid her
        obtain ⟨er, hee⟩ : ∃ er, er = r.err := ⟨_, rfl⟩
        rw [← hee] at her ⊢
        have Hee := Lib.hid hee
        have hz1 : (er == 0) = false := by simpa using her
        have hz2 : (er != 0) = true := by simpa using her
        clear hF her hee hq3 hh4
        go_wp2_with fail
        go_ret3
        refine .inl ⟨?_, ?_, hb3⟩
        · rw [HF.out]; exact Her.out
        · rw [HF.out, Hee.out]; rfl
    · have hba : ∀ o, Bel wr (wr.alloc o) := fun o => (Bel.refl wr).alloc o
      have hcall := fun o => step142 J text r c vr vl (wr.alloc o) (hE.bel (hb.trans (hba o))) (hq.bel (hba o)) (hh.bel (hba o)).here.1 (hh.bel (hba o)).here.2 (HL.out hr0) (HA.out hr0)
      have Hr0 := Lib.hid hr0
      clear hr0
      go_wp2_with fail
      refine (hcall _).mono ?_
      have hJw : w.heap.size ≤ J := by have := HJ.out; omega
      have hjl : J + 1 ≤ (wr.alloc (.cells #[.func (.func 142) #[] #[]] 198)).heap.size := by have := qS.lt; rw [World.size_alloc]; omega
      rintro e w3 (⟨her, rfl, hg⟩ | ⟨her, vc, rfl, hg, hq3, hh3⟩)
      · have hb3 := grown_bel (hb.trans (hba _)) hg hJw
        have hF : BF = ⟨prgN, r.lines.getD c.at_.toNat 0, c.err⟩ := by rw [hBF.out, if_neg (by rw [Hr0.out]; simp), if_pos her]
        have HF := Lib.hid hF
        have Her := Lib.hid her
        obtain ⟨er, hee⟩ : ∃ er, er = c.err := ⟨_, rfl⟩
        rw [← hee] at her ⊢
        have Hee := Lib.hid hee
        have hz1 : (er == 0) = false := by simpa using her
        have hz2 : (er != 0) = true := by simpa using her
        clear hF her hee hcall hba hg hq hh s0 s1
        go_wp2_with fail
        go_ret3
        refine .inl ⟨?_, ?_, hb3⟩
        · rw [HF.out]; exact Her.out
        · rw [HF.out, Hee.out]; rfl
      · have hb3 := grown_bel (hb.trans (hba _)) hg hJw
        have qS3 := grown_blk (qS.bel (hba _)) hg (fun e => by injection e with e; omega)
        have hh4 := Hangs.younger (r := none) hh3 hjl (fun g hg => by cases hg)
        have hh5 := (hh.bel (hba _)).job hg (Nat.lt_succ_self J)
        have Her := Lib.hid her
        clear hcall hba hh3 hg hq hh s0 s1 her
        go_wp2_with fail
        go_roundw
        case rel => exact ⟨hb3, qS3, .inr (.inr ⟨by go_num, Hr0.out, Her.out, vr, vl, vc, hq3, hh5, hh4⟩)⟩
        case measure => simp [intOf]
    · have hF : BF = ⟨c.prg, 0, 0⟩ := by rw [hBF.out, if_neg (by rw [hr0]; simp), if_neg (by rw [hc0]; simp)]
      have HF := Lib.hid hF
      have Hr0 := Lib.hid hr0; have Hc0 := Lib.hid hc0
      have hJw : w.heap.size ≤ J + 1 := by have := HJ.out; omega
      clear hF hr0 hc0 s0 s1
      go_wp2_with fail
      go_ret3
      exact .inr ⟨Hr0.out, Hc0.out, HF.out, J, vr, vl, vc, rfl, hq, Hangs.younger (r := none) (fun w'' h => (hh w'' h).1) hJw (fun g hg => by cases hg), Hangs.younger (r := none) hhc hJw (fun g hg => by cases hg), hb⟩
end Go.Proofs.YtbgilebgdbgddaaGreatDoor
