/- The cache: New, Len, Builds, Lookups, find. -/
import Derived.Test.YtbgilebgdbgddaaGreatDoorLks
import Derived.Test.YtbgilebgdbgddaaGreatDoorSmp
import Derived.Test.YtbgilebgdbgddaaGreatDoorBui
import Derived.Laws.IdiomRangeMap
set_option linter.unusedVariables false
set_option linter.unusedSimpArgs false
namespace Go.Proofs.YtbgilebgdbgddaaGreatDoor
open Go.RowKit Go.MuLone
theorem grown_set1 (w : World) (n i : Nat) (v : Value) : w.grownBy (w.setCell ⟨n, i, none⟩ v) (some n) :=
  ⟨rfl, rfl, rfl, by simp [World.setCell], fun k hk hne => by
    simp only [World.setCell, Array.getElem?_modify]
    rw [if_neg (fun e => hne (by rw [e]))]⟩
/-- The world is as it was but for new blocks and those of S. -/
structure Fr (S : List Nat) (w w' : World) : Prop where
  os : w'.os = w.os
  tape : w'.tape = w.tape
  output : w'.output = w.output
  size : w.heap.size ≤ w'.heap.size
  block : ∀ k, k < w.heap.size → k ∉ S → w'.heap[k]? = w.heap[k]?
theorem Fr.refl (S : List Nat) (w : World) : Fr S w w := ⟨rfl, rfl, rfl, Nat.le_refl _, fun _ _ _ => rfl⟩
theorem Fr.trans {S : List Nat} {a b c : World} (h : Fr S a b) (k : Fr S b c) : Fr S a c :=
  ⟨k.os.trans h.os, k.tape.trans h.tape, k.output.trans h.output, Nat.le_trans h.size k.size, fun i hi hs => (k.block i (Nat.lt_of_lt_of_le hi h.size) hs).trans (h.block i hi hs)⟩
theorem Fr.of_bel {w w' : World} (S : List Nat) (h : Bel w w') : Fr S w w' := ⟨h.os, h.tape, h.output, h.size, fun k hk _ => h.block k hk⟩
theorem Fr.bel {S : List Nat} {a b c : World} (h : Fr S a b) (k : Bel b c) : Fr S a c := h.trans (.of_bel S k)
theorem Fr.of_grown {S : List Nat} {w w' : World} {n : Nat} (h : w.grownBy w' (some n)) (hn : n ∈ S) : Fr S w w' :=
  ⟨h.os, h.tape, h.output, h.size, fun k hk hs => h.block k hk (fun e => by injection e with e; subst e; exact hs hn)⟩
theorem Fr.set {S : List Nat} {w w' : World} (h : Fr S w w') {n i : Nat} {v : Value} (hn : n ∈ S) : Fr S w (w'.setCell ⟨n, i, none⟩ v) :=
  h.trans (Fr.of_grown (grown_set1 w' n i v) hn)
theorem Fr.blk {S : List Nat} {w w' : World} (h : Fr S w w') {n : Nat} {cs : Array Value} {t : TypeId} (hb : Blk w n cs t) (hn : n ∉ S) : Blk w' n cs t := (h.block n hb.lt hn).trans hb
theorem Fr.map {κ : Type} [DecidableEq κ] {kv : κ → Value} {S : List Nat} {w w' : World} (h : Fr S w w') {n : Nat} {L : List (κ × Value)} (hb : MapAt kv w n L) (hn : n ∉ S) : MapAt kv w' n L := hb.kept (h.block n hb.lt hn)
theorem Fr.toBel {S : List Nat} {W0 w w' : World} (h : Fr S w w') (hb : Bel W0 w) (hS : ∀ n ∈ S, W0.heap.size ≤ n) : Bel W0 w' :=
  ⟨h.os.trans hb.os, h.tape.trans hb.tape, h.output.trans hb.output, Nat.le_trans hb.size h.size, fun k hk => (h.block k (Nat.lt_of_lt_of_le hk hb.size) (fun hs => by have := hS k hs; omega)).trans (hb.block k hk)⟩
theorem Fr.wider {S S' : List Nat} {w w' : World} (h : Fr S w w') (hS : ∀ n ∈ S, n ∈ S') : Fr S' w w' := ⟨h.os, h.tape, h.output, h.size, fun k hk hs => h.block k hk (fun hn => hs (hS k hn))⟩
theorem Fr.hangs {S : List Nat} {w w' : World} (h : Fr S w w') {N : Nat} {P : World → Prop} (hh : Hangs N none w P) (hS : ∀ n ∈ S, n < N) : Hangs N none w' P :=
  hh.to h.size (fun k h1 h2 _ => h.block k h2 (fun hs => by have := hS k hs; omega)) (fun _ _ e => by cases e)
def cacheC (most lk : Int) (bm : Nat) (bu asks : Int) : Array Value := #[.int .i64 most, .int .i32 lk, .int .u32 0, .map (some bm), .int .i64 bu, .int .i64 asks]
theorem new22 (n : Int) (w : World) (h : 1 ≤ n ∧ n ≤ 4096) :
    Calls Tryz.prog 22 #[.int .i64 n] w fun e w' => e = .returned (.tuple #[.pointer (some ⟨w.heap.size + 1, 0, none⟩), .int .i64 0]) ∧ Blk w' (w.heap.size + 1) (cacheC n 0 w.heap.size 0 0) 146 ∧ MapAt Value.string w' w.heap.size [] ∧ Bel w w' := by
  have hmm := @run_makeMap Tryz.prog
  obtain ⟨h0, h1⟩ := h
  have h2 : decide (n < 1) = false := by simp; omega
  have h3 : decide ((4096 : Int) < n) = false := by simp; omega
  have hm : MapAt Value.string (w.alloc (.map #[] 0)) w.heap.size [] := MapAt.made w
  have hq := Blk.new1 w (.map #[] 0) (cacheC n 0 w.heap.size 0 0) 146
  unfold cacheC at hq ⊢
  go_enter Tryz.func22, Tryz.ntmps22
  go_wp2_with fail
  go_ret2
  exact ⟨rfl, hq, hm.bel ((Bel.refl _).alloc _), ((Bel.refl w).alloc _).alloc _⟩
theorem new22_bad (n : Int) (w : World) (h : n < 1 ∨ 4096 < n) :
    Calls Tryz.prog 22 #[.int .i64 n] w fun e w' => e = .returned (.tuple #[.pointer none, .int .i64 3]) ∧ w' = w := by
  by_cases h1 : n < 1
  · have h2 : decide (n < 1) = true := by simpa using h1
    go_enter Tryz.func22, Tryz.ntmps22
    go_wp2_with fail
    go_ret2
    exact ⟨rfl, rfl⟩
  · have h2 : decide (n < 1) = false := by simpa using h1
    have h3 : decide ((4096 : Int) < n) = true := by simp; omega
    have h4 : ¬ n < 1 := h1
    go_enter Tryz.func22, Tryz.ntmps22
    go_wp2_with fail
    go_ret2
    exact ⟨rfl, rfl⟩
theorem und133 : Tryz.prog.underlying 133 = some (.map 9 149) := by kernel_rfl
theorem zero149 (w : World) : (zeroValue 149).run Tryz.prog w = .ok (.pointer none) w := by kernel_rfl
theorem len27_nil (w : World) : Calls Tryz.prog 27 #[.pointer none] w fun e w' => e = .returned (.int .i64 0) ∧ w' = w := by
  go_enter_defers Tryz.func27, Tryz.ntmps27
  go_wp2_with fail
  first
    | (go_ret; exact ⟨rfl, rfl⟩)
    | exact ⟨_, results_tmp rfl _ _ _, rfl, rfl⟩
theorem builds28_nil (w : World) : Calls Tryz.prog 28 #[.pointer none] w fun e w' => e = .returned (.int .i64 0) ∧ w' = w := by
  go_enter Tryz.func28, Tryz.ntmps28
  go_wp2_with fail
  go_ret
  exact ⟨rfl, rfl⟩
theorem lookups29_nil (w : World) : Calls Tryz.prog 29 #[.pointer none] w fun e w' => e = .returned (.int .i64 0) ∧ w' = w := by
  go_enter Tryz.func29, Tryz.ntmps29
  go_wp2_with fail
  go_ret
  exact ⟨rfl, rfl⟩
theorem builds28 (C : Nat) (most : Int) (bm : Nat) (bu asks : Int) (w : World) (hq : Blk w C (cacheC most 0 bm bu asks) 146) : Calls Tryz.prog 28 #[.pointer (some ⟨C, 0, none⟩)] w fun e w' => e = .returned (.int .i64 bu) ∧ w' = w := by
  have hl := load62 C 4 bu w (hq.cell 4 rfl)
  go_enter Tryz.func28, Tryz.ntmps28
  go_wp2_with fail
  refine hl.mono ?_
  rintro e w' ⟨rfl, rfl⟩
  go_wp2_with fail
  go_ret
  exact ⟨rfl, rfl⟩
theorem lookups29 (C : Nat) (most : Int) (bm : Nat) (bu asks : Int) (w : World) (hq : Blk w C (cacheC most 0 bm bu asks) 146) : Calls Tryz.prog 29 #[.pointer (some ⟨C, 0, none⟩)] w fun e w' => e = .returned (.int .i64 asks) ∧ w' = w := by
  have hl := load62 C 5 asks w (hq.cell 5 rfl)
  go_enter Tryz.func29, Tryz.ntmps29
  go_wp2_with fail
  refine hl.mono ?_
  rintro e w' ⟨rfl, rfl⟩
  go_wp2_with fail
  go_ret
  exact ⟨rfl, rfl⟩
/-- The lock is taken. -/
theorem Blk.lock {w : World} {C : Nat} {most : Int} {bm : Nat} {bu asks l : Int} (hq : Blk w C (cacheC most l bm bu asks) 146) (v : Int) : Blk (w.setCell ⟨C, 1, none⟩ (.int .i32 v)) C (cacheC most v bm bu asks) 146 := hq.set 1 _
theorem len27 (C : Nat) (most : Int) (bm : Nat) (bu asks : Int) (L : List (ByteArray × Value)) (w : World) (hq : Blk w C (cacheC most 0 bm bu asks) 146) (hm : MapAt Value.string w bm L) :
    Calls Tryz.prog 27 #[.pointer (some ⟨C, 0, none⟩)] w fun e w' => e = .returned (.int .i64 L.length) ∧ Blk w' C (cacheC most 0 bm bu asks) 146 ∧ Fr [C] w w' := by
  have hne := map_ne_blk hm hq
  have hlk := lock_free muLib ⟨C, 1, none⟩ w (hq.cell 1 rfl) (hq.frozen 1)
  have hq1 := hq.lock 1
  have hf1 : Fr [C] w (w.setCell ⟨C, 1, none⟩ (.int .i32 1)) := (Fr.refl _ _).set (by simp)
  have hm1 := hf1.map hm (by simp; exact fun e => hne e.symm)
  have hlen := run_lenMap (ty := 3) und133 hm1
  generalize (w.setCell ⟨C, 1, none⟩ (.int .i32 1)) = W at *
  have k3 : W.cell? ⟨C, 3, none⟩ = some (.map (some bm)) := hq1.cell 3 rfl
  have k1 : W.cell? ⟨C, 1, none⟩ = some (.int .i32 1) := hq1.cell 1 rfl
  have z1 := hq1.frozen 1
  go_enter_defers Tryz.func27, Tryz.ntmps27
  go_wp2_with fail
  refine hlk.mono ?_
  rintro e w' ⟨rfl, rfl⟩
  go_wp2_with fail
  refine leaves_cons (f := 61) (args := #[.pointer (some ⟨C, 1, none⟩)]) (by simp) (by simp [go_sem]) ?_
  refine (unlock_deferred muLib ⟨C, 1, none⟩ .returning _ k1 z1).mono ?_
  rintro e u' w'' ⟨rfl, rfl, rfl⟩
  exact ⟨_, results_tmp rfl _ _ _, rfl, hq1.lock 0, hf1.set (by simp)⟩
theorem find_hit (C : Nat) (most : Int) (bm : Nat) (bu asks : Int) (L : List (ByteArray × Value)) (t : ByteArray) (p : Addr) (w : World) (hq : Blk w C (cacheC most 0 bm bu asks) 146) (hm : MapAt Value.string w bm L) (hg : asGet L t = some (.pointer (some p))) :
    Calls Tryz.prog 55 #[.pointer (some ⟨C, 0, none⟩), .string t] w fun e w' => e = .returned (.tuple #[.pointer (some p), .int .i64 0]) ∧ Blk w' C (cacheC most 0 bm bu asks) 146 ∧ Fr [C] w w' := by
  have hne := map_ne_blk hm hq
  have hlk := lock_free muLib ⟨C, 1, none⟩ w (hq.cell 1 rfl) (hq.frozen 1)
  have hq1 := hq.lock 1
  have hf1 : Fr [C] w (w.setCell ⟨C, 1, none⟩ (.int .i32 1)) := (Fr.refl _ _).set (by simp)
  have hm1 := hf1.map hm (by simp; exact fun e => hne e.symm)
  have hll := run_look strKey und133 (zero149 _) hm1 t true
  rw [hg] at hll
  simp only [if_true, Option.getD_some, Option.isSome_some] at hll
  generalize (w.setCell ⟨C, 1, none⟩ (.int .i32 1)) = W at *
  have k3 : W.cell? ⟨C, 3, none⟩ = some (.map (some bm)) := hq1.cell 3 rfl
  have k1 : W.cell? ⟨C, 1, none⟩ = some (.int .i32 1) := hq1.cell 1 rfl
  have z1 := hq1.frozen 1
  clear hg
  go_enter_defers Tryz.func55, Tryz.ntmps55
  go_wp2_with fail
  refine hlk.mono ?_
  rintro e w' ⟨rfl, rfl⟩
  go_wp2_with fail
  refine leaves_cons (f := 61) (args := #[.pointer (some ⟨C, 1, none⟩)]) (by simp) (by simp [go_sem]) ?_
  refine (unlock_deferred muLib ⟨C, 1, none⟩ .returning _ k1 z1).mono ?_
  rintro e u' w'' ⟨rfl, rfl, rfl⟩
  exact ⟨_, results_tmp2 rfl _ _ _, rfl, hq1.lock 0, hf1.set (by simp)⟩
def entC (done lk : Int) (s : Size) (vc : Value) (line err : Int) : Array Value := #[.int .u32 done, .int .i32 lk, .int .u32 0, .int .i64 s.i, .int .i64 s.q, .int .i64 s.m, .int .i64 s.e, vc, .int .i64 line, .int .i64 err]
set_option maxRecDepth 100000 in
set_option maxHeartbeats 1000000 in
theorem find_new (C : Nat) (most : Int) (bm : Nat) (bu asks : Int) (L : List (ByteArray × Value)) (t : ByteArray) (w : World) (hq : Blk w C (cacheC most 0 bm bu asks) 146) (hm : MapAt Value.string w bm L) (hg : asGet L t = none) (hlt : (L.length : Int) < most) :
    Calls Tryz.prog 55 #[.pointer (some ⟨C, 0, none⟩), .string t] w fun e w' => ∃ E, e = .returned (.tuple #[.pointer (some ⟨E, 0, none⟩), .int .i64 0]) ∧ w.heap.size ≤ E ∧ Blk w' C (cacheC most 0 bm bu asks) 146 ∧ MapAt Value.string w' bm (L ++ [(t, .pointer (some ⟨E, 0, none⟩))]) ∧
      Blk w' E (entC 0 0 ⟨0, 0, 0, 0⟩ (.slice none 0 0) 0 0) 157 ∧ Fr [C, bm] w w' := by
  have hne := map_ne_blk hm hq
  have hlk := lock_free muLib ⟨C, 1, none⟩ w (hq.cell 1 rfl) (hq.frozen 1)
  have hq1 := hq.lock 1
  have hf1 : Fr [C, bm] w (w.setCell ⟨C, 1, none⟩ (.int .i32 1)) := (Fr.refl _ _).set (by simp)
  have hf0 : Fr [C] w (w.setCell ⟨C, 1, none⟩ (.int .i32 1)) := (Fr.refl _ _).set (by simp)
  have hm1 := hf0.map hm (by simp; exact fun e => hne e.symm)
  have hll := run_look strKey und133 (zero149 _) hm1 t true
  rw [hg] at hll
  simp only [if_true, Option.getD_none, Option.isSome_none] at hll
  have hsz : (w.setCell ⟨C, 1, none⟩ (.int .i32 1)).heap.size = w.heap.size := by simp [World.setCell]
  have HSZ := Lib.hid hsz
  clear hsz hf0
  generalize (w.setCell ⟨C, 1, none⟩ (.int .i32 1)) = W at *
  have k3 : W.cell? ⟨C, 3, none⟩ = some (.map (some bm)) := hq1.cell 3 rfl
  have k0 : W.cell? ⟨C, 0, none⟩ = some (.int .i64 most) := hq1.cell 0 rfl
  have hlen := fun (X : World) (hX : MapAt Value.string X bm L) => run_lenMap (ty := 3) und133 hX
  have hlen0 := hlen W.drew (hm1.bel (Bel.refl W).drew)
  have hlen1 := hlen W hm1
  have hge : decide (most ≤ (L.length : Int)) = false := by simp; omega
  have HG := Lib.hid hg
  clear hg hlen
  go_enter_defers Tryz.func55, Tryz.ntmps55
  go_wp2_with fail
  refine hlk.mono ?_
  rintro e w' ⟨rfl, rfl⟩
  go_wp2_with fail
  have k3a : ∀ o, (w'.alloc o).cell? ⟨C, 3, none⟩ = some (.map (some bm)) := fun o => (hq1.alloc o).cell 3 rfl
  have hbX : Bel w' (w'.alloc (.cells #[.int .u32 0, .int .i32 0, .int .u32 0, .int .i64 0, .int .i64 0, .int .i64 0, .int .i64 0, .slice none 0 0, .int .i64 0, .int .i64 0] 157)).drew := ((Bel.refl w').alloc _).drew
  obtain ⟨w9, hr9, hm9, hg9⟩ := run_put strKey und133 (hm1.bel hbX) t (.pointer (some ⟨w'.heap.size, 0, none⟩))
  have qE := (Blk.new w' #[.int .u32 0, .int .i32 0, .int .u32 0, .int .i64 0, .int .i64 0, .int .i64 0, .int .i64 0, .slice none 0 0, .int .i64 0, .int .i64 0] 157).bel (Bel.refl _).drew
  have qE9 := grown_blk qE hg9 (fun e => by injection e with e; have := hm1.lt; omega)
  have qC9 := grown_blk (hq1.bel hbX) hg9 (fun e => by injection e with e; exact hne e)
  have hf9 : Fr [C, bm] w w9 := (hf1.bel hbX).trans (Fr.of_grown hg9 (by simp))
  have hEs : w.heap.size ≤ w'.heap.size := hf1.size
  rw [asPut_new _ _ _ HG.out] at hm9
  have hm10 : MapAt Value.string (w9.setCell ⟨C, 1, none⟩ (.int .i32 0)) bm (L ++ [(t, .pointer (some ⟨w'.heap.size, 0, none⟩))]) := hm9.kept (by simp only [World.setCell, Array.getElem?_modify]; rw [if_neg hne])
  have qE10 : Blk (w9.setCell ⟨C, 1, none⟩ (.int .i32 0)) w'.heap.size (entC 0 0 ⟨0, 0, 0, 0⟩ (.slice none 0 0) 0 0) 157 := qE9.set_other (by have := hq1.lt; simp; omega) _
  have k1 : w9.cell? ⟨C, 1, none⟩ = some (.int .i32 1) := qC9.cell 1 rfl
  have z1 := qC9.frozen 1
  clear hm9 hbX hm1 hg9 qE qE9
  go_region
  all_goals go_wp2_with fail
  all_goals
    refine leaves_cons (f := 61) (args := #[.pointer (some ⟨C, 1, none⟩)]) (by simp) (by simp [go_sem]) ?_
    refine (unlock_deferred muLib ⟨C, 1, none⟩ .returning _ k1 z1).mono ?_
    rintro e u' w'' ⟨rfl, rfl, rfl⟩
    exact ⟨_, results_tmp2 rfl _ _ _, w'.heap.size, rfl, hEs, qC9.lock 0, hm10, qE10, hf9.set (by simp)⟩
end Go.Proofs.YtbgilebgdbgddaaGreatDoor
