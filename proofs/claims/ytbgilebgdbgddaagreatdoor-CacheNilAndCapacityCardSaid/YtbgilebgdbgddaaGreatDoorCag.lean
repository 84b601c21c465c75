/- The cache: the compiling closure, slices.Clone, Get. -/
import Derived.Test.YtbgilebgdbgddaaGreatDoorCac
set_option linter.unusedVariables false
set_option linter.unusedSimpArgs false
namespace Go.Proofs.YtbgilebgdbgddaaGreatDoor
open Go.RowKit Go.MuLone
theorem Env.keep {w w' : World} (h : Env w) (hk : ∀ k, k < 18 → w'.heap[k]? = w.heap[k]?) (hs : w.heap.size ≤ w'.heap.size) : Env w' where
  maxLen := let ⟨m, hm⟩ := h.maxLen; ⟨m, (World.cell?_of_block (hk 3 (by omega))).trans hm⟩
  letter := fun j u hu => (World.cell?_of_block (hk 2 (by omega))).trans (h.letter j u hu)
  contacts := fun j u hu => (World.cell?_of_block (hk 0 (by omega))).trans (h.contacts j u hu)
  coils := fun j u hu => (World.cell?_of_block (hk 1 (by omega))).trans (h.coils j u hu)
  writes := fun j u hu => (World.cell?_of_block (hk 6 (by omega))).trans (h.writes j u hu)
  loads := fun j u hu => (World.cell?_of_block (hk 10 (by omega))).trans (h.loads j u hu)
  joins := fun j u hu => (World.cell?_of_block (hk 11 (by omega))).trans (h.joins j u hu)
  pops := fun j u hu => (World.cell?_of_block (hk 12 (by omega))).trans (h.pops j u hu)
  errRange := let ⟨t, p, hm⟩ := h.errRange; ⟨t, p, (World.cell?_of_block (hk 14 (by omega))).trans hm⟩
  space := by
    have hs := h.space
    unfold Lib.TabIs World.var? at hs ⊢
    rw [g5] at hs ⊢
    simp only [Option.bind_some] at hs ⊢
    rw [hk 5 (by omega)]
    exact hs
  size := Nat.le_trans h.size hs
theorem Env.fr {S : List Nat} {w w' : World} (h : Env w) (f : Fr S w w') (hS : ∀ n ∈ S, 18 ≤ n) : Env w' :=
  h.keep (fun k hk => f.block k (Nat.lt_of_lt_of_le hk h.size) (fun hs => by have := hS k hs; omega)) f.size
def Clo57 (C E : Nat) (most : Int) (bm : Nat) (bu asks : Int) (b : CRes) (w : World) (e : Ending) (w' : World) : Prop := e = .returned (.tuple #[]) ∧ Blk w' C (cacheC most 0 bm (bu + 1) asks) 146 ∧ (∃ vc, Blk w' E (entC 0 1 b.prg.size vc b.at_ b.err) 157 ∧ Hangs w.heap.size none w' (fun w'' => SlAt InsE 4 w'' vc b.prg.code)) ∧ Fr [C, E] w w'
set_option maxRecDepth 100000 in
set_option maxHeartbeats 4000000 in
theorem clos57 (K : Ladder → CRes) (text : ByteArray) (C Bc Bt Bx E : Nat) (most : Int) (bm : Nat) (bu asks : Int) (w : World) (hs : text.size ≤ 1073741824) (hE : Env w) (hK : CompLaw K (parseF text)) (h0 : 0 ≤ bu) (h1 : bu ≤ 1000000)
    (qc : Blk w Bc #[.pointer (some ⟨C, 0, none⟩)] 58) (qt : Blk w Bt #[.string text] 9) (qx : Blk w Bx #[.pointer (some ⟨E, 0, none⟩)] 149) (hC : Blk w C (cacheC most 0 bm bu asks) 146) (hq : Blk w E (entC 0 1 ⟨0, 0, 0, 0⟩ (.slice none 0 0) 0 0) 157) (hC18 : 18 ≤ C) (hE18 : 18 ≤ E) :
    Calls Tryz.prog 57 #[.pointer (some ⟨Bc, 0, none⟩), .pointer (some ⟨Bt, 0, none⟩), .pointer (some ⟨Bx, 0, none⟩)] w (Clo57 C E most bm bu asks (buildF K text) w) := by
  have hadd := add54 C 4 bu 1 w (hC.cell 4 rfl) (hC.frozen 4) h0 (by omega) (by omega) (by omega)
  have ne : ∀ {n m : Nat} {c1 c2 : Array Value} {t1 t2 : TypeId}, Blk w n c1 t1 → Blk w m c2 t2 → t1 ≠ t2 → n ≠ m := fun h1 h2 ht e => by
    subst e
    have := h1.symm.trans h2
    injection this with this; injection this with _ this; exact ht this
  have n1 : Bc ≠ C := ne qc hC (by decide)
  have n2 : Bt ≠ C := ne qt hC (by decide)
  have n3 : Bx ≠ C := ne qx hC (by decide)
  have n4 : E ≠ C := ne hq hC (by decide)
  have n5 : E ≠ Bt := ne hq qt (by decide)
  have n6 : E ≠ Bx := ne hq qx (by decide)
  have hC1 : Blk (w.setCell ⟨C, 4, none⟩ (.int .i64 (bu + 1))) C (cacheC most 0 bm (bu + 1) asks) 146 := hC.set 4 _
  have f1 : Fr [C, E] w (w.setCell ⟨C, 4, none⟩ (.int .i64 (bu + 1))) := (Fr.refl _ _).set (by simp)
  have qt1 := qt.set_other (a := ⟨C, 4, none⟩) (fun e => n2 e.symm) (.int .i64 (bu + 1))
  have qx1 := qx.set_other (a := ⟨C, 4, none⟩) (fun e => n3 e.symm) (.int .i64 (bu + 1))
  have hq1 := hq.set_other (a := ⟨C, 4, none⟩) (fun e => n4 e.symm) (.int .i64 (bu + 1))
  have hE1 := hE.fr f1 (by simp; omega)
  have hbd := fun W (hb : Bel _ W) => build17 K text W hs (hE1.bel hb) hK
  unfold BuildPost at hbd
  generalize buildF K text = b at *
  obtain ⟨⟨⟨si, sq, sm, se⟩, code⟩, line, err⟩ := b
  dsimp only at *
  have hsz : (w.setCell ⟨C, 4, none⟩ (.int .i64 (bu + 1))).heap.size = w.heap.size := by simp [World.setCell]
  have HSZ := Lib.hid hsz
  clear hsz
  generalize (w.setCell ⟨C, 4, none⟩ (.int .i64 (bu + 1))) = W at *
  have t0 := qt1.cell 0 rfl; have x0 := qx1.cell 0 rfl
  have k0 := qc.cell 0 rfl
  go_enter Tryz.func57, Tryz.ntmps57
  go_wp2_with fail
  refine hadd.mono ?_
  rintro e w' ⟨rfl, rfl⟩
  go_wp2_with fail
  have hSset : ∀ (X : World) (i : Nat) (v : Value), (X.cell? ⟨Bt, 0, none⟩ = some (.string text) ∧ X.cell? ⟨Bx, 0, none⟩ = some (.pointer (some ⟨E, 0, none⟩))) → ((X.setCell ⟨E, i, none⟩ v).cell? ⟨Bt, 0, none⟩ = some (.string text) ∧ (X.setCell ⟨E, i, none⟩ v).cell? ⟨Bx, 0, none⟩ = some (.pointer (some ⟨E, 0, none⟩))) := fun X i v h =>
    ⟨(World.cell?_setCell_other _ ⟨E, i, none⟩ ⟨Bt, 0, none⟩ _ (fun e => n5 (congrArg Addr.block e))).trans h.1, (World.cell?_setCell_other _ ⟨E, i, none⟩ ⟨Bx, 0, none⟩ _ (fun e => n6 (congrArg Addr.block e))).trans h.2⟩
  have hSb : ∀ X, Bel w' X → (X.cell? ⟨Bt, 0, none⟩ = some (.string text) ∧ X.cell? ⟨Bx, 0, none⟩ = some (.pointer (some ⟨E, 0, none⟩))) := fun X h => ⟨(qt1.bel h).cell 0 rfl, (qx1.bel h).cell 0 rfl⟩
  have hS0 := hSb w' (Bel.refl _)
  have HBD := Lib.hid hbd
  clear hbd hadd
  have hmix : Tryz.prog.follows .mixedOrders = true := by kernel_rfl
  obtain ⟨S0, hS0e⟩ : ∃ S0 : World → Prop, S0 = fun X => X.cell? ⟨Bt, 0, none⟩ = some (.string text) ∧ X.cell? ⟨Bx, 0, none⟩ = some (.pointer (some ⟨E, 0, none⟩)) := ⟨_, rfl⟩
  have hSe : ∀ X, S0 X → X.cell? ⟨Bt, 0, none⟩ = some (.string text) ∧ X.cell? ⟨Bx, 0, none⟩ = some (.pointer (some ⟨E, 0, none⟩)) := by rw [hS0e]; exact fun _ h => h
  replace hSset : ∀ (X : World) (i : Nat) (v : Value), S0 X → S0 (X.setCell ⟨E, i, none⟩ v) := by rw [hS0e]; exact hSset
  replace hSb : ∀ X, Bel w' X → S0 X := by rw [hS0e]; exact hSb
  clear hS0 hS0e
  refine wp_region_T (S := S0) (V := fun _ => true) hmix (fun w0 hw0 => ?_)
  have hb0 : Bel w' w0 := by rw [hw0]; exact (Bel.refl _).drew
  have hS0 := hSb w0 hb0
  have HB := HBD.out w0 hb0
  have hsz0 : w0.heap.size = w.heap.size := by rw [hw0]; exact HSZ.out
  clear hw0 HBD
  refine wpAnyT_take (S0 := S0) (i := 0) (oi := { dst := some 8, op := _, type := _, pos := _, after := _, guard := _ }) (v := ?_) rfl (by kernel_rfl) (by kernel_rfl) (by kernel_rfl) (fun _ _ _ h => h) (fun _ _ _ _ _ _ _ h h0 => h rfl h0) (ClosedL.start _) (Or.inl ⟨by rfl, ?_⟩) hS0 ?_
  rotate_left 1
  · (intro w hw; obtain ⟨s1_, s2_⟩ := hSe w hw; go_simp; try with_reducible rfl)
  intro hcl
  try simp only [Act.put, List.setIfInBounds_toArray, List.set_cons_zero, List.set_cons_succ]
  refine wpAnyT_take (S0 := S0) (i := 1) (oi := { dst := some 9, op := _, type := _, pos := _, after := _, guard := _ }) (v := ?_) rfl (by kernel_rfl) (by kernel_rfl) (by kernel_rfl) (fun _ _ _ h => h) (fun _ _ _ _ _ _ _ h h0 => h rfl h0) hcl (Or.inl ⟨by rfl, ?_⟩) hS0 ?_
  rotate_left 1
  · (intro w hw; obtain ⟨s1_, s2_⟩ := hSe w hw; go_simp; try with_reducible rfl)
  intro hcl
  try simp only [Act.put, List.setIfInBounds_toArray, List.set_cons_zero, List.set_cons_succ]
  refine wpAnyT_take (S0 := S0) (i := 2) (oi := { dst := some 10, op := _, type := _, pos := _, after := _, guard := _ }) (v := ?_) rfl (by kernel_rfl) (by kernel_rfl) (by kernel_rfl) (fun _ _ _ h => h) (fun _ _ _ _ _ _ _ h h0 => h rfl h0) hcl (Or.inl ⟨by rfl, ?_⟩) hS0 ?_
  rotate_left 1
  · (intro w hw; obtain ⟨s1_, s2_⟩ := hSe w hw; go_simp; try with_reducible rfl)
  intro hcl
  try simp only [Act.put, List.setIfInBounds_toArray, List.set_cons_zero, List.set_cons_succ]
  refine wpAnyT_take (S0 := S0) (i := 3) (oi := { dst := some 11, op := _, type := _, pos := _, after := _, guard := _ }) (v := ?_) rfl (by kernel_rfl) (by kernel_rfl) (by kernel_rfl) (fun _ _ _ h => h) (fun _ _ _ _ _ _ _ h h0 => h rfl h0) hcl (Or.inl ⟨by rfl, ?_⟩) hS0 ?_
  rotate_left 1
  · (intro w hw; obtain ⟨s1_, s2_⟩ := hSe w hw; go_simp; try with_reducible rfl)
  intro hcl
  try simp only [Act.put, List.setIfInBounds_toArray, List.set_cons_zero, List.set_cons_succ]
  refine wpAnyT_all (rs := [4]) (by kernel_rfl) (by simp) hcl ?_
  intro i hi hcl
  obtain rfl := List.mem_singleton.1 hi
  refine op_of (oi := { dst := some 12, op := _, type := _, pos := _, after := _, guard := _ }) rfl ?_
  go_simp
  go_at_call 17
  refine HB.mono ?_
  rintro e w3 ⟨vc, rfl, hh, hb3⟩
  have hb23 : Bel w' w3 := hb0.trans hb3
  have hS3 := hSb w3 hb23
  have hq3 := hq1.bel hb23
  have c3 : w3.cell? ⟨E, 3, none⟩ = some (.int .i64 0) := hq3.cell 3 rfl
  have f3 := hq3.frozen 3
  have c4 : w3.cell? ⟨E, 4, none⟩ = some (.int .i64 0) := hq3.cell 4 rfl
  have f4 := hq3.frozen 4
  have c5 : w3.cell? ⟨E, 5, none⟩ = some (.int .i64 0) := hq3.cell 5 rfl
  have f5 := hq3.frozen 5
  have c6 : w3.cell? ⟨E, 6, none⟩ = some (.int .i64 0) := hq3.cell 6 rfl
  have f6 := hq3.frozen 6
  have c7 : w3.cell? ⟨E, 7, none⟩ = some (.slice none 0 0) := hq3.cell 7 rfl
  have f7 := hq3.frozen 7
  have c8 : w3.cell? ⟨E, 8, none⟩ = some (.int .i64 0) := hq3.cell 8 rfl
  have f8 := hq3.frozen 8
  have c9 : w3.cell? ⟨E, 9, none⟩ = some (.int .i64 0) := hq3.cell 9 rfl
  have f9 := hq3.frozen 9
  have hhx := Lib.hid hh
  obtain ⟨ac, cc, rfl, _⟩ := hh.here.ex
  clear hh HB
  refine ⟨fun _ => hS3, ?_⟩
  try simp only [Act.put, List.setIfInBounds_toArray, List.set_cons_zero, List.set_cons_succ]
  refine wpAnyT_take (S0 := fun _ => True) (i := 5) (oi := { dst := some 7, op := _, type := _, pos := _, after := _, guard := _ }) (v := ?_) rfl (by kernel_rfl) (by kernel_rfl) (by kernel_rfl) (fun _ _ _ h => h) (Stands.free 5) hcl (Or.inl ⟨by rfl, ?_⟩) trivial ?_
  rotate_left 1
  · (intro w hw; go_simp; try with_reducible rfl)
  intro hcl
  try simp only [Act.put, List.setIfInBounds_toArray, List.set_cons_zero, List.set_cons_succ]
  refine wpAnyT_take (S0 := fun _ => True) (i := 6) (oi := { dst := some 13, op := _, type := _, pos := _, after := _, guard := _ }) (v := ?_) rfl (by kernel_rfl) (by kernel_rfl) (by kernel_rfl) (fun _ _ _ h => h) (Stands.free 6) hcl (Or.inl ⟨by rfl, ?_⟩) trivial ?_
  rotate_left 1
  · (intro w hw; go_simp; try with_reducible rfl)
  intro hcl
  try simp only [Act.put, List.setIfInBounds_toArray, List.set_cons_zero, List.set_cons_succ]
  refine wpAnyT_take (S0 := fun _ => True) (i := 7) (oi := { dst := some 14, op := _, type := _, pos := _, after := _, guard := _ }) (v := ?_) rfl (by kernel_rfl) (by kernel_rfl) (by kernel_rfl) (fun _ _ _ h => h) (Stands.free 7) hcl (Or.inl ⟨by rfl, ?_⟩) trivial ?_
  rotate_left 1
  · (intro w hw; go_simp; try with_reducible rfl)
  intro hcl
  try simp only [Act.put, List.setIfInBounds_toArray, List.set_cons_zero, List.set_cons_succ]
  refine wpAnyT_take (S0 := fun _ => True) (i := 8) (oi := { dst := some 15, op := _, type := _, pos := _, after := _, guard := _ }) (v := ?_) rfl (by kernel_rfl) (by kernel_rfl) (by kernel_rfl) (fun _ _ _ h => h) (Stands.free 8) hcl (Or.inl ⟨by rfl, ?_⟩) trivial ?_
  rotate_left 1
  · (intro w hw; go_simp; try with_reducible rfl)
  intro hcl
  try simp only [Act.put, List.setIfInBounds_toArray, List.set_cons_zero, List.set_cons_succ]
  refine wpAnyT_take (S0 := fun _ => True) (i := 9) (oi := { dst := some 16, op := _, type := _, pos := _, after := _, guard := _ }) (v := ?_) rfl (by kernel_rfl) (by kernel_rfl) (by kernel_rfl) (fun _ _ _ h => h) (Stands.free 9) hcl (Or.inl ⟨by rfl, ?_⟩) trivial ?_
  rotate_left 1
  · (intro w hw; go_simp; try with_reducible rfl)
  intro hcl
  try simp only [Act.put, List.setIfInBounds_toArray, List.set_cons_zero, List.set_cons_succ]
  refine wpAnyT_take (S0 := fun _ => True) (i := 10) (oi := { dst := some 17, op := _, type := _, pos := _, after := _, guard := _ }) (v := ?_) rfl (by kernel_rfl) (by kernel_rfl) (by kernel_rfl) (fun _ _ _ h => h) (Stands.free 10) hcl (Or.inl ⟨by rfl, ?_⟩) trivial ?_
  rotate_left 1
  · (intro w hw; go_simp; try with_reducible rfl)
  intro hcl
  try simp only [Act.put, List.setIfInBounds_toArray, List.set_cons_zero, List.set_cons_succ]
  refine wpAnyT_take (S0 := fun _ => True) (i := 11) (oi := { dst := some 18, op := _, type := _, pos := _, after := _, guard := _ }) (v := ?_) rfl (by kernel_rfl) (by kernel_rfl) (by kernel_rfl) (fun _ _ _ h => h) (Stands.free 11) hcl (Or.inl ⟨by rfl, ?_⟩) trivial ?_
  rotate_left 1
  · (intro w hw; go_simp; try with_reducible rfl)
  intro hcl
  try simp only [Act.put, List.setIfInBounds_toArray, List.set_cons_zero, List.set_cons_succ]
  refine wpAnyT_all (rs := [12]) (by kernel_rfl) (by simp) hcl ?_
  intro i hi hcl
  obtain rfl := List.mem_singleton.1 hi
  refine op_of (oi := { dst := none, op := _, type := _, pos := _, after := _, guard := _ }) rfl ?_
  go_simp
  refine ⟨fun _ => (by (repeat (refine hSset _ _ _ ?_)); assumption), ?_⟩
  try simp only [Act.put, List.setIfInBounds_toArray, List.set_cons_zero, List.set_cons_succ]
  refine wpAnyT_take (S0 := fun _ => True) (i := 13) (oi := { dst := some 19, op := _, type := _, pos := _, after := _, guard := _ }) (v := ?_) rfl (by kernel_rfl) (by kernel_rfl) (by kernel_rfl) (fun _ _ _ h => h) (Stands.free 13) hcl (Or.inl ⟨by rfl, ?_⟩) trivial ?_
  rotate_left 1
  · (intro w hw; go_simp; try with_reducible rfl)
  intro hcl
  try simp only [Act.put, List.setIfInBounds_toArray, List.set_cons_zero, List.set_cons_succ]
  refine wpAnyT_take (S0 := fun _ => True) (i := 14) (oi := { dst := some 20, op := _, type := _, pos := _, after := _, guard := _ }) (v := ?_) rfl (by kernel_rfl) (by kernel_rfl) (by kernel_rfl) (fun _ _ _ h => h) (Stands.free 14) hcl (Or.inl ⟨by rfl, ?_⟩) trivial ?_
  rotate_left 1
  · (intro w hw; go_simp; try with_reducible rfl)
  intro hcl
  try simp only [Act.put, List.setIfInBounds_toArray, List.set_cons_zero, List.set_cons_succ]
  refine wpAnyT_take (S0 := fun _ => True) (i := 15) (oi := { dst := some 21, op := _, type := _, pos := _, after := _, guard := _ }) (v := ?_) rfl (by kernel_rfl) (by kernel_rfl) (by kernel_rfl) (fun _ _ _ h => h) (Stands.free 15) hcl (Or.inl ⟨by rfl, ?_⟩) trivial ?_
  rotate_left 1
  · (intro w hw; go_simp; try with_reducible rfl)
  intro hcl
  try simp only [Act.put, List.setIfInBounds_toArray, List.set_cons_zero, List.set_cons_succ]
  refine wpAnyT_all (rs := [16]) (by kernel_rfl) (by simp) hcl ?_
  intro i hi hcl
  obtain rfl := List.mem_singleton.1 hi
  refine op_of (oi := { dst := none, op := _, type := _, pos := _, after := _, guard := _ }) rfl ?_
  go_simp
  refine ⟨fun _ => (by (repeat (refine hSset _ _ _ ?_)); assumption), ?_⟩
  try simp only [Act.put, List.setIfInBounds_toArray, List.set_cons_zero, List.set_cons_succ]
  refine wpAnyT_take (S0 := fun _ => True) (i := 17) (oi := { dst := some 22, op := _, type := _, pos := _, after := _, guard := _ }) (v := ?_) rfl (by kernel_rfl) (by kernel_rfl) (by kernel_rfl) (fun _ _ _ h => h) (Stands.free 17) hcl (Or.inl ⟨by rfl, ?_⟩) trivial ?_
  rotate_left 1
  · (intro w hw; go_simp; try with_reducible rfl)
  intro hcl
  try simp only [Act.put, List.setIfInBounds_toArray, List.set_cons_zero, List.set_cons_succ]
  refine wpAnyT_take (S0 := fun _ => True) (i := 18) (oi := { dst := some 23, op := _, type := _, pos := _, after := _, guard := _ }) (v := ?_) rfl (by kernel_rfl) (by kernel_rfl) (by kernel_rfl) (fun _ _ _ h => h) (Stands.free 18) hcl (Or.inl ⟨by rfl, ?_⟩) trivial ?_
  rotate_left 1
  · (intro w hw; go_simp; try with_reducible rfl)
  intro hcl
  try simp only [Act.put, List.setIfInBounds_toArray, List.set_cons_zero, List.set_cons_succ]
  refine wpAnyT_take (S0 := fun _ => True) (i := 19) (oi := { dst := some 24, op := _, type := _, pos := _, after := _, guard := _ }) (v := ?_) rfl (by kernel_rfl) (by kernel_rfl) (by kernel_rfl) (fun _ _ _ h => h) (Stands.free 19) hcl (Or.inl ⟨by rfl, ?_⟩) trivial ?_
  rotate_left 1
  · (intro w hw; go_simp; try with_reducible rfl)
  intro hcl
  try simp only [Act.put, List.setIfInBounds_toArray, List.set_cons_zero, List.set_cons_succ]
  refine wpAnyT_all (rs := [20]) (by kernel_rfl) (by simp) hcl ?_
  intro i hi hcl
  obtain rfl := List.mem_singleton.1 hi
  refine op_of (oi := { dst := none, op := _, type := _, pos := _, after := _, guard := _ }) rfl ?_
  go_simp
  refine ⟨fun _ => (by (repeat (refine hSset _ _ _ ?_)); assumption), ?_⟩
  try simp only [Act.put, List.setIfInBounds_toArray, List.set_cons_zero, List.set_cons_succ]
  refine wpAnyT_done (by kernel_rfl) ?_ _
  go_wp2_with fail
  go_end0
  have hfe := ((((((Fr.refl [E] w3).set (n := E) (i := 3) (v := .int .i64 si) (by simp)).set (n := E) (i := 4) (v := .int .i64 sq) (by simp)).set (n := E) (i := 5) (v := .int .i64 sm) (by simp)).set (n := E) (i := 6) (v := .int .i64 se) (by simp)).set (n := E) (i := 7) (v := .slice ac code.length cc) (by simp)).set (n := E) (i := 8) (v := .int .i64 line) (by simp) |>.set (n := E) (i := 9) (v := .int .i64 err) (by simp)
  have hh := hhx.out
  rw [hsz0] at hh
  exact ⟨rfl, hfe.blk (hC1.bel hb23) (by simpa using fun e => n4 e.symm), ⟨_, ((((((hq3.set 3 _).set 4 _).set 5 _).set 6 _).set 7 _).set 8 _).set 9 _, hfe.hangs hh (by intro n hn; simp at hn; subst hn; exact hq.lt)⟩, (f1.bel hb23).trans (hfe.wider (by intro n hn; simp at hn ⊢; exact .inr hn))⟩
end Go.Proofs.YtbgilebgdbgddaaGreatDoor
/- slices.Clone at a row of instructions. -/
namespace Go.Proofs.YtbgilebgdbgddaaGreatDoor
open Go.RowKit Go.MuLone
theorem flat_cells {α : Type} {f : α → List Value} {sz : Nat} (hf : ∀ x, (f x).length = sz) (h0 : 0 < sz) {w : World} {ad : Addr} {n cap : Nat} {xs : List α} (h : SlAt (Flat f) sz w (.slice (some ad) n cap) xs) : ∀ j u, (xs.flatMap f)[j]? = some u → w.cell? (ad.add j) = some u := by
  intro j u hj
  obtain ⟨a, c, hv, _, _, hx⟩ := h.ex
  injection hv with h1 h2 h3
  subst h1
  have hjl : j < xs.length * sz := by rw [← flatMap_len hf]; exact (List.getElem?_eq_some_iff.1 hj).1
  have hi : j / sz < xs.length := Nat.div_lt_of_lt_mul (by rw [Nat.mul_comm]; exact hjl)
  obtain ⟨b, off, cs, ha, he, hl, hc⟩ := hx (j / sz) _ (List.getElem?_eq_getElem hi)
  injection ha with ha
  subst ha
  have hk : j % sz < (f xs[j / sz]).length := by rw [hf]; exact Nat.mod_lt _ h0
  have h4 := flatMap_at hf xs (j / sz) _ (List.getElem?_eq_getElem hi) (j % sz) _ (List.getElem?_eq_getElem hk)
  rw [show j / sz * sz + j % sz = j by rw [Nat.mul_comm]; exact Nat.div_add_mod j sz, hj] at h4
  injection h4 with h4
  have he : cs = f xs[j / sz] := he
  subst he
  have h5 := hc (j % sz) _ (List.getElem?_eq_getElem hk)
  rw [Addr.add_lit, h4]
  rw [show off + j / sz * sz + j % sz = off + j by rw [Nat.add_assoc, Nat.mul_comm (j / sz)]; rw [Nat.div_add_mod j sz]] at h5
  exact h5


theorem insC_one58 (l : List Ins) : ∀ u ∈ l.flatMap insC, u.oneCell' = true := fun u hu => by
  obtain ⟨x, _, hx⟩ := List.mem_flatMap.1 hu
  simp [insC] at hx
  rcases hx with rfl | rfl | rfl | rfl <;> rfl
theorem nil_eq (w : World) (a : Option Addr) (n c : Nat) : (binOp BinOp.eql 42 (.slice a n c) (.slice none 0 0)).run Tryz.prog w = .ok (.bool a.isNone) w := by
  cases a <;> kernel_rfl
set_option maxRecDepth 100000 in
theorem clone58 (vc : Value) (code : List Ins) (w : World) (h : SlAt InsE 4 w vc code) (hn : code.length ≤ 100000000) :
    Calls Tryz.prog 58 #[vc] w fun e w' => ∃ v', e = .returned v' ∧ Bel w w' ∧ Hangs w.heap.size none w' (fun w'' => SlAt InsE 4 w'' v' code) := by
  have hh := Lib.hid h
  obtain ⟨a, c, rfl, hc1, hc2, _⟩ := h.ex
  have HN := Lib.hid hn
  clear h hn hc2
  have h0 := fun w => nil_eq w a code.length c
  cases a with
  | none =>
    go_enter Tryz.func58, Tryz.ntmps58
    go_wp2_with fail
    go_ret
    have hc : code = [] := by
      cases code with
      | nil => rfl
      | cons x l =>
        obtain ⟨a', c', hv, _, _, hx⟩ := hh.out.ex
        injection hv with h1
        subst h1
        obtain ⟨_, _, _, h2, _⟩ := hx 0 x rfl
        cases h2
    subst hc
    exact ⟨_, rfl, Bel.refl _, fun w' _ => SlAt.nil _ _ _⟩
  | some ad =>
    have hrow := World.ownsRow_made (base := w.heap.size) (e := 54) (size := 4) w #[] 0 (Nat.le_refl _) (by decide) rfl
    have hb0 : Bel w (w.alloc (.cells #[] 54)) := (Bel.refl w).alloc _
    rcases Nat.eq_zero_or_pos code.length with hz | hp
    · have hc : code = [] := List.eq_nil_of_length_eq_zero hz
      subst hc
      have hl : ∀ a w, (loadCellsFrom a 0 0 #[]).run Tryz.prog w = .ok #[] w := fun a w => by simp [loadCellsFrom]
      have hs : ∀ a w, (storeCells a []).run Tryz.prog w = .ok () w := fun a w => by simp [storeCells]
      simp only [List.length_nil] at h0 ⊢
      go_enter Tryz.func58, Tryz.ntmps58
      go_wp2_with fail
      go_ret
      exact ⟨_, rfl, hb0, fun w' _ => ⟨_, 0, rfl, by simp, by simp, fun i x h => by simp at h⟩⟩
    · have hcc := flat_cells (f := insC) (fun _ => rfl) (by decide) (hh.out.bel (Flat.mono _) hb0)
      have hln := flatMap_len (f := insC) (sz := 4) (fun _ => rfl) code
      have h1 := insC_one58 code
      have hm : 0 + code.length ≤ 1000000000 := by have := HN.out; omega
      have hsz : w.heap.size ≤ (w.alloc (.cells #[] 54)).heap.size := hb0.size
      have HM := Lib.hid hm
      clear hm
      go_enter Tryz.func58, Tryz.ntmps58
      go_wp2_with (first | (at_builtin; apply list_app und42 info54 rfl (by decide) (by decide) rfl (.tmp 5) (.tmp 6) rfl rfl hrow (m := code.length) (news := code.flatMap insC) rfl hln hcc h1 hp HM.out hsz; intro g cap w1 ho1 hg1 ht1 _))
      go_ret
      rw [Nat.zero_add, List.nil_append] at ho1
      have hg : World.grownBy _ w1 (some w.heap.size) := hg1
      refine ⟨_, rfl, (Fr.of_grown (S := [w.heap.size]) hg (by simp)).toBel hb0 (by simp), fun w'' h'' => own_read (f := insC) (fun _ => rfl) (own_far ho1 fun k hk hl => h'' k (Nat.le_of_not_lt fun h => own_ge ho1 k h hk.symm) hl (by simp)) rfl _ (fun _ _ => rfl)⟩
end Go.Proofs.YtbgilebgdbgddaaGreatDoor
