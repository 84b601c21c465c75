/- Trees in memory; codegen.sees, codegen.lay -/
import Derived.Test.YtbgilebgdbgddaaGreatDoorPut
import Derived.Test.YtbgilebgdbgddaaGreatDoorPrc
set_option linter.unusedVariables false
set_option linter.unusedSimpArgs false
namespace Go.Proofs.YtbgilebgdbgddaaGreatDoor
open Go.RowKit
inductive Tr where
  | node (kind n : Int) (kids : List Tr)
def Tr.kind : Tr → Int | .node k _ _ => k
def Tr.n : Tr → Int | .node _ n _ => n
def Tr.kids : Tr → List Tr | .node _ _ l => l
theorem Tr.kind_node (k n : Int) (l : List Tr) : (Tr.node k n l).kind = k := rfl
theorem Tr.n_node (k n : Int) (l : List Tr) : (Tr.node k n l).n = n := rfl
theorem Tr.kids_node (k n : Int) (l : List Tr) : (Tr.node k n l).kids = l := rfl
def TreeE : Nat → Enc Tr
  | 0 => fun _ _ _ => False
  | d + 1 => fun w t cs => ∃ v, cs = [.int .i64 t.kind, .int .i64 t.n, v] ∧ SlAt (TreeE d) 3 w v t.kids
theorem TreeE.mono : ∀ d, (TreeE d).Mono
  | 0 => fun _ _ _ _ h _ => h
  | d + 1 => fun _ _ _ _ ⟨v, h, h1⟩ hb => ⟨v, h, h1.bel (TreeE.mono d) hb⟩
theorem SlAt.imp {α : Type} {E E' : Enc α} {sz : Nat} {w : World} {v : Value} {xs : List α} (h : SlAt E sz w v xs) (hE : ∀ x cs, x ∈ xs → E w x cs → E' w x cs) : SlAt E' sz w v xs := by
  obtain ⟨a, cap, hv, hl, hc, hx⟩ := h.ex
  refine ⟨a, cap, hv, hl, hc, fun i x hi => ?_⟩
  obtain ⟨b, off, cs, ha, he, hsz, hcs⟩ := hx i x hi
  exact ⟨b, off, cs, ha, hE _ _ (List.mem_of_getElem? hi) he, hsz, hcs⟩
theorem TreeE.succ : ∀ {d : Nat} {w : World} {t : Tr} {cs : List Value}, TreeE d w t cs → TreeE (d + 1) w t cs
  | d + 1, _, _, _, ⟨v, h, h1⟩ => ⟨v, h, h1.imp fun _ _ _ h => TreeE.succ h⟩
theorem TreeE.le {d d' : Nat} (h : d ≤ d') {w : World} {t : Tr} {cs : List Value} (ht : TreeE d w t cs) : TreeE d' w t cs := by
  induction h with
  | refl => exact ht
  | step _ ih => exact ih.succ
theorem SlAt.tree {w : World} {a : Option Addr} {n cap d : Nat} {xs : List Tr} (h : SlAt (TreeE d) 3 w (.slice a n cap) xs) {k : Nat} {t : Tr} (hk : xs[k]? = some t) :
    ∃ b off d' v, d = d' + 1 ∧ a = some ⟨b, off, none⟩ ∧ SlAt (TreeE d') 3 w v t.kids ∧ w.cell? ⟨b, off + k * 3, none⟩ = some (.int .i64 t.kind) ∧ w.cell? ⟨b, off + k * 3 + 1, none⟩ = some (.int .i64 t.n) ∧ w.cell? ⟨b, off + k * 3 + 2, none⟩ = some v := by
  obtain ⟨a', cap', hv, _, _, hx⟩ := h.ex
  obtain ⟨b, off, cs, ha, he, _, hcs⟩ := hx k t hk
  cases d with
  | zero => exact he.elim
  | succ d' =>
    obtain ⟨v, rfl, h2⟩ := he
    injection hv with h1 _ _
    exact ⟨b, off, d', v, rfl, h1.trans ha, h2, hcs 0 _ rfl, hcs 1 _ rfl, hcs 2 _ rfl⟩
theorem sees230 (k s n : Int) (f t : ByteArray) (w : World) :
    Calls Tryz.prog 230 #[.agg #[.int .i64 k, .int .i64 s, .int .i64 n, .string f, .string t]] w fun e w' => e = .returned (.bool (seesB k)) ∧ Bel w w' := by
  go_enter Tryz.func230, Tryz.ntmps230
  go_wp2
  all_goals go_ret
  all_goals exact ⟨by simp [seesB, *], (Bel.refl _).alloc _⟩

def loadI (k : Int) : Int := if k = 0 then 0 else if k = 1 then 1 else if k = 2 then 6 else 7
def joinI (t k : Int) : Int := if t = 1 then (if k = 0 then 2 else 3) else (if k = 0 then 4 else 5)
def popI (t : Int) : Int := if t = 1 then 9 else 10
structure Ctx where
  cons : List Contact
  slots : List Int
def Ctx.con (C : Ctx) (n : Int) : Contact := C.cons.getD n.toNat ⟨0, 0, 0, .empty, .empty⟩
/-- What lay appends. -/
def layF (C : Ctx) : Nat → Tr → List Ins
  | 0, _ => []
  | d + 1, t =>
    if t.kind = 0 then [⟨loadI (C.con t.n).kind, (C.con t.n).space, (C.con t.n).n, C.slots.getD t.n.toNat 0⟩]
    else (match t.kids with | [] => [] | k :: _ => layF C d k) ++ (t.kids.drop 1).flatMap fun k =>
      if k.kind = 0 ∧ seesB (C.con k.n).kind = false then [⟨joinI t.kind (C.con k.n).kind, (C.con k.n).space, (C.con k.n).n, 0⟩]
      else ⟨8, 0, 0, 0⟩ :: layF C d k ++ [⟨popI t.kind, 0, 0, 0⟩]
/-- The tree's leaves are contacts, its other nodes have kids. -/
def TrOk (N : Nat) : Nat → Tr → Prop
  | 0, _ => False
  | d + 1, t => (t.kind = 0 ∧ 0 ≤ t.n ∧ t.n < N) ∨ ((t.kind = 1 ∨ t.kind = 2) ∧ 1 < t.kids.length ∧ ∀ k ∈ t.kids, TrOk N d k)
structure MkAt (W0 w : World) (Bm : Nat) (c0 vc c2 c3 : Value) (sb : Nat) (C : Ctx) (code : List Ins) : Prop where
  bel : Bel W0 w
  base : W0.heap.size ≤ Bm
  slots : Blk w sb (C.slots.map (Value.int .i64)).toArray 3
  ex : ∃ v, Blk w Bm #[c0, vc, c2, c3, .slice (some ⟨sb, 0, none⟩) C.cons.length C.cons.length, v] 364 ∧ w.ownsRow W0.heap.size 54 4 v code.length (code.flatMap insC)
theorem put_mk {W0 w : World} {Bm : Nat} {c0 vc c2 c3 : Value} {sb : Nat} {C : Ctx} {code : List Ins} (h : MkAt W0 w Bm c0 vc c2 c3 sb C code) (x : Ins) (hn : code.length < 1000000000) :
    Calls Tryz.prog 280 #[.pointer (some ⟨Bm, 0, none⟩), .agg #[.int .i64 x.op, .int .i64 x.space, .int .i64 x.na, .int .i64 x.n]] w fun e w' => e = .returned (.tuple #[]) ∧ MkAt W0 w' Bm c0 vc c2 c3 sb C (code ++ [x]) ∧ TFr [364, 54] W0.heap.size w w' := by
  obtain ⟨v, h1, h2⟩ := h.ex
  refine (put_any Bm W0.heap.size code.length _ _ _ _ _ v _ x w h1 h2 h.bel.size h.base hn).mono ?_
  rintro e w' ⟨rfl, v', hb, ho, hf⟩
  exact ⟨rfl, ⟨hf.toBel h.bel, h.base, hf.blk h.slots (.inr (by decide)), v', hb, by simpa using ho⟩, hf⟩
theorem MkAt.to {W0 w w' : World} {Bm : Nat} {c0 vc c2 c3 : Value} {sb : Nat} {C : Ctx} {code : List Ins} (h : MkAt W0 w Bm c0 vc c2 c3 sb C code) (hb : Bel w w') : MkAt W0 w' Bm c0 vc c2 c3 sb C code :=
  ⟨h.bel.trans hb, h.base, h.slots.bel hb, let ⟨v, h1, h2⟩ := h.ex; ⟨v, h1.bel hb, own_bel h2 hb⟩⟩
theorem Env.join {w : World} (h : Env w) {t k : Nat} (ht : t = 1 ∨ t = 2) (hk : k < 2) : w.cell? ⟨11, t * 2 + k, none⟩ = some (.int .i64 (joinI t k)) := by
  rcases ht with rfl | rfl
  · match k, hk with
    | 0, _ => exact h.joins 2 _ rfl
    | 1, _ => exact h.joins 3 _ rfl
  · match k, hk with
    | 0, _ => exact h.joins 4 _ rfl
    | 1, _ => exact h.joins 5 _ rfl
theorem Env.pop {w : World} (h : Env w) {t : Nat} (ht : t = 1 ∨ t = 2) : w.cell? ⟨12, t, none⟩ = some (.int .i64 (popI t)) := by
  rcases ht with rfl | rfl
  · exact h.pops 1 _ rfl
  · exact h.pops 2 _ rfl
theorem Env.load {w : World} (h : Env w) {k : Nat} (hk : k < 4) : w.cell? ⟨10, k, none⟩ = some (.int .i64 (loadI k)) := by
  match k, hk with
  | 0, _ => exact h.loads 0 _ rfl
  | 1, _ => exact h.loads 1 _ rfl
  | 2, _ => exact h.loads 2 _ rfl
  | 3, _ => exact h.loads 3 _ rfl
set_option maxRecDepth 100000 in
set_option maxHeartbeats 4000000 in
theorem lay_any (W0 : World) (henv : Env W0) (Bm : Nat) (c0 c2 c3 vc : Value) (sb : Nat) (C : Ctx) (hcs : SlAt ContactE 5 W0 vc C.cons) (hck : ∀ c ∈ C.cons, 0 ≤ c.kind ∧ c.kind < 4) (hsl : C.slots.length = C.cons.length) :
    ∀ (d : Nat) (t : Tr) (cs : List Value) (code : List Ins) (w : World), TreeE d W0 t cs → TrOk C.cons.length d t → MkAt W0 w Bm c0 vc c2 c3 sb C code → code.length + (layF C d t).length < 1000000000 →
    Calls Tryz.prog 254 #[.pointer (some ⟨Bm, 0, none⟩), .agg cs.toArray] w fun e w' => e = .returned (.tuple #[]) ∧ MkAt W0 w' Bm c0 vc c2 c3 sb C (code ++ layF C d t) ∧ TFr [364, 54] W0.heap.size w w' := by
  intro d
  induction d with
  | zero => intro t cs code w ht; exact ht.elim
  | succ d ih =>
    intro t cs code w ht hok hm hlen
    obtain ⟨vk, rfl, hks⟩ := ht
    obtain ⟨ak, ck, rfl, hk1, hk2, _⟩ := hks.ex
    obtain ⟨kind, n, kids⟩ := t
    simp only [Tr.kind_node, Tr.n_node, Tr.kids_node] at *
    rcases hok with ⟨h0, hn0, hn1⟩ | ⟨hkd, hkl, hko⟩
    · simp only [Tr.kind_node, Tr.n_node, Tr.kids_node] at *
      subst h0
      obtain ⟨m, rfl⟩ := Int.eq_ofNat_of_zero_le hn0
      have hm1 : m < C.cons.length := by omega
      have hg := List.getElem?_eq_getElem hm1
      have hkk := hck _ (List.getElem_mem hm1)
      obtain ⟨ac, cc, rfl, hc1, hc2, _⟩ := hcs.ex
      obtain ⟨b, off, rfl, d0, d1, d2, d3, d4⟩ := hcs.contact hg
      have hF : layF C (d + 1) (.node 0 m kids) = [⟨loadI C.cons[m].kind, C.cons[m].space, C.cons[m].n, C.slots.getD m 0⟩] := by
        simp [layF, Tr.kind, Tr.n, Ctx.con, hg]
      rw [hF] at hlen ⊢
      generalize C.cons[m] = c at *
      obtain ⟨k, sp, na, cf, ct⟩ := c
      dsimp only at *
      obtain ⟨kn, rfl⟩ := Int.eq_ofNat_of_zero_le hkk.1
      have hs : (C.slots.map (Value.int .i64)).toArray[m]? = some (.int .i64 (C.slots.getD m 0)) := by
        simp [List.getElem?_eq_getElem (show m < C.slots.length by omega)]
      obtain ⟨L, hL⟩ : ∃ L, L = loadI kn := ⟨_, rfl⟩
      obtain ⟨sl, hsl'⟩ : ∃ sl, sl = C.slots.getD m 0 := ⟨_, rfl⟩
      have HL : ∀ w, Env w → w.cell? ⟨10, kn, none⟩ = some (.int .i64 L) := fun w h => by rw [hL]; exact h.load (by omega)
      have HE : ∀ w, Bel W0 w → Env w := fun w h => henv.bel h
      rw [← hL, ← hsl'] at hlen ⊢
      rw [← hsl'] at hs
      clear hL hsl' henv hck ih hks hcs hF
      go_enter Tryz.func254, Tryz.ntmps254
      go_wp2_with fail
      have hW : Bel w (w.alloc (.cells #[.int .i64 0, .int .i64 m, .slice ak kids.length ck] 332)) := (Bel.refl w).alloc _
      have qt : Blk (w.alloc (.cells #[.int .i64 0, .int .i64 m, .slice ak kids.length ck] 332)) w.heap.size #[.int .i64 0, .int .i64 m, .slice ak kids.length ck] 332 := Blk.new w _ _
      generalize (w.alloc (.cells #[.int .i64 0, .int .i64 m, .slice ak kids.length ck] 332)) = W at *
      replace hm := hm.to hW
      obtain ⟨v, hq, ho⟩ := hm.ex
      have hB := hm.bel
      have q1 : W.cell? ⟨Bm, 1, none⟩ = some (.slice (some ⟨b, off, none⟩) C.cons.length cc) := hq.cell 1 rfl
      have t1 : W.cell? ⟨w.heap.size, 1, none⟩ = some (.int .i64 m) := qt.cell 1 rfl
      have e0 := hB.cell d0; have e1 := hB.cell d1; have e2 := hB.cell d2; have e3 := hB.cell d3; have e4 := hB.cell d4
      clear d0 d1 d2 d3 d4
      have hS1 : (W.cell? ⟨Bm, 1, none⟩ = some (.slice (some ⟨b, off, none⟩) C.cons.length cc) ∧ W.cell? ⟨w.heap.size, 1, none⟩ = some (.int .i64 m) ∧ W.cell? ⟨b, off + m * 5, none⟩ = some (.int .i64 kn) ∧ W.cell? ⟨b, off + m * 5 + 1, none⟩ = some (.int .i64 sp) ∧ W.cell? ⟨b, off + m * 5 + 2, none⟩ = some (.int .i64 na) ∧ W.cell? ⟨b, off + m * 5 + 3, none⟩ = some (.string cf) ∧ W.cell? ⟨b, off + m * 5 + 4, none⟩ = some (.string ct)) ∧ Bel W W := by
        refine ⟨?_, Bel.refl _⟩
        repeat' apply And.intro
        all_goals assumption
      go_region_held3 (fun w' => (w'.cell? ⟨Bm, 1, none⟩ = some (.slice (some ⟨b, off, none⟩) C.cons.length cc) ∧ w'.cell? ⟨w.heap.size, 1, none⟩ = some (.int .i64 m) ∧ w'.cell? ⟨b, off + m * 5, none⟩ = some (.int .i64 kn) ∧ w'.cell? ⟨b, off + m * 5 + 1, none⟩ = some (.int .i64 sp) ∧ w'.cell? ⟨b, off + m * 5 + 2, none⟩ = some (.int .i64 na) ∧ w'.cell? ⟨b, off + m * 5 + 3, none⟩ = some (.string cf) ∧ w'.cell? ⟨b, off + m * 5 + 4, none⟩ = some (.string ct)) ∧ Bel W w') (exact keep7 hS1 (by (repeat (first | exact Bel.refl _ | exact And.right (by assumption) | refine Bel.trans ?_ (by assumption) | refine Bel.drew ?_ | refine Bel.alloc ?_ _ | refine Bel.setCell ?_ (by first | exact Nat.le_refl _ | (simp; done) | (simp; omega) | omega) _)))) (fail)
      go_wp2_with fail
      have hW2 : Bel W (W.alloc (Obj.cells #[.int .i64 kn, .int .i64 sp, .int .i64 na, .string cf, .string ct] 108)).drew := ((Bel.refl W).alloc _).drew
      have qc : Blk (W.alloc (Obj.cells #[.int .i64 kn, .int .i64 sp, .int .i64 na, .string cf, .string ct] 108)).drew W.heap.size #[.int .i64 kn, .int .i64 sp, .int .i64 na, .string cf, .string ct] 108 := (Blk.new W _ _).drewN 1
      generalize (W.alloc (Obj.cells #[.int .i64 kn, .int .i64 sp, .int .i64 na, .string cf, .string ct] 108)).drew = W2 at *
      replace hm := hm.to hW2
      replace qt := qt.bel hW2
      replace hq := hq.bel hW2
      have sm := hm.slots.cell m hs
      have hl := HL _ (HE _ hm.bel)
      have q4 : W2.cell? ⟨Bm, 4, none⟩ = some (.slice (some ⟨sb, 0, none⟩) C.cons.length C.cons.length) := hq.cell 4 rfl
      have r0 := qc.cell 0 rfl; have r1 := qc.cell 1 rfl; have r2 := qc.cell 2 rfl
      have t1 : W2.cell? ⟨w.heap.size, 1, none⟩ = some (.int .i64 m) := qt.cell 1 rfl
      have hmd := hm.to ((Bel.refl W2).drew)
      go_region_held3 (fun w' => (w'.cell? ⟨Bm, 4, none⟩ = some (.slice (some ⟨sb, 0, none⟩) C.cons.length C.cons.length) ∧ w'.cell? ⟨w.heap.size, 1, none⟩ = some (.int .i64 m) ∧ w'.cell? ⟨W.heap.size, 0, none⟩ = some (.int .i64 kn) ∧ w'.cell? ⟨W.heap.size, 1, none⟩ = some (.int .i64 sp) ∧ w'.cell? ⟨W.heap.size, 2, none⟩ = some (.int .i64 na) ∧ w'.cell? ⟨10, kn, none⟩ = some (.int .i64 L) ∧ w'.cell? ⟨sb, m, none⟩ = some (.int .i64 sl)) ∧ TFr [364, 54] W0.heap.size W2 w') (first | (obtain ⟨v1, hv1, _⟩ := hm1.ex; exact ⟨⟨hv1.cell 4 rfl, (ht.blk (qt.drewN 1) (.inr (by decide))).cell 1 rfl, (ht.blk (qc.drewN 1) (.inr (by decide))).cell 0 rfl, (ht.blk (qc.drewN 1) (.inr (by decide))).cell 1 rfl, (ht.blk (qc.drewN 1) (.inr (by decide))).cell 2 rfl, HL _ (HE _ hm1.bel), hm1.slots.cell m hs⟩, (TFr.of_bel _ _ (Bel.refl _).drew).trans ht⟩) | (refine ⟨?_, TFr.of_bel _ _ (Bel.refl _).drew⟩; go_keep)) (first | (go_at_call 280; refine (put_mk hmd ⟨L, sp, na, sl⟩ (by simp at hlen; omega)).mono ?_; rintro e w1 ⟨rfl, hm1, ht⟩))
      go_wp2_with fail
      exact bodyPost_ret (v := .tuple #[]) (by simp [results, Tryz.results254, go_sem]) rfl ⟨rfl, hm1, (((TFr.of_bel _ _ hW).bel hW2).bel (Bel.refl _).drew).trans ht⟩
    · have hk0 : (kind == 0) = false := by rcases hkd with h | h <;> simp [Tr.kind] at h <;> simp [h]
      simp only [Tr.kind_node, Tr.n_node, Tr.kids_node] at *
      obtain ⟨tk, rfl⟩ := Int.eq_ofNat_of_zero_le (by omega : 0 ≤ kind)
      have htk : tk = 1 ∨ tk = 2 := by omega
      obtain ⟨k0, ks, rfl⟩ : ∃ k0 ks, kids = k0 :: ks := by
        cases kids with
        | nil => simp at hkl
        | cons a l => exact ⟨a, l, rfl⟩
      obtain ⟨bk, ofk, d', v0, rfl, rfl, hv0, g0, g1, g2⟩ := hks.tree (k := 0) (t := k0) rfl
      have hE0 : TreeE (d' + 1) W0 k0 [.int .i64 k0.kind, .int .i64 k0.n, v0] := ⟨v0, rfl, hv0⟩
      have hok0 := hko k0 (by simp)
      have hsk := (hks.drop 1 (by simp))
      rw [Nat.one_mul] at hsk
      simp only [List.drop_succ_cons, List.drop_zero] at hsk
      obtain ⟨ac, cc, rfl, hc1, hc2, _⟩ := hcs.ex
      have HF := Lib.hid (show layF C (d' + 1 + 1) (.node tk n (k0 :: ks)) = layF C (d' + 1) k0 ++ ks.flatMap fun k =>
        if k.kind = 0 ∧ seesB (C.con k.n).kind = false then [⟨joinI tk (C.con k.n).kind, (C.con k.n).space, (C.con k.n).n, 0⟩]
        else ⟨8, 0, 0, 0⟩ :: layF C (d' + 1) k ++ [⟨popI tk, 0, 0, 0⟩] by
          have hz : ¬ (tk : Int) = 0 := by omega
          rw [layF]
          simp only [Tr.kind, Tr.kids, if_neg hz, List.drop_succ_cons, List.drop_zero])
      obtain ⟨f0, hf0⟩ : ∃ f, f = layF C (d' + 1) k0 := ⟨_, rfl⟩
      obtain ⟨fk, hfk⟩ : ∃ f : Tr → List Ins, f = fun k =>
        if k.kind = 0 ∧ seesB (C.con k.n).kind = false then [⟨joinI tk (C.con k.n).kind, (C.con k.n).space, (C.con k.n).n, 0⟩]
        else ⟨8, 0, 0, 0⟩ :: layF C (d' + 1) k ++ [⟨popI tk, 0, 0, 0⟩] := ⟨_, rfl⟩
      rw [HF.out, ← hf0, ← hfk] at hlen ⊢
      have hlen' : code.length + (f0.length + (ks.flatMap fk).length) < 1000000000 := by simpa using hlen
      clear hlen HF
      have ih0 := fun code' w' (hm' : MkAt W0 w' Bm c0 (.slice ac C.cons.length cc) c2 c3 sb C code') (hl : code'.length + f0.length < 1000000000) => (by
        have := ih k0 _ code' w' hE0 hok0 hm' (by rw [← hf0]; exact hl)
        rwa [← hf0] at this : Calls Tryz.prog 254 #[.pointer (some ⟨Bm, 0, none⟩), .agg #[.int .i64 k0.kind, .int .i64 k0.n, v0]] w' fun e w'' => e = .returned (.tuple #[]) ∧ MkAt W0 w'' Bm c0 (.slice ac C.cons.length cc) c2 c3 sb C (code' ++ f0) ∧ TFr [364, 54] W0.heap.size w' w'')
      simp only [Nat.zero_mul, Nat.add_zero] at g0 g1 g2
      have e0 := fun o => (hm.bel.alloc o).cell g0; have e1 := fun o => (hm.bel.alloc o).cell g1; have e2 := fun o => (hm.bel.alloc o).cell g2
      generalize k0.kind = kk0 at *
      generalize k0.n = kn0 at *
      obtain ⟨A0, c0', rfl, _, _⟩ := hv0.ex
      generalize k0.kids.length = N0 at *
      clear hf0 hok0 hE0 g0 g1 g2
      simp only [List.length_cons] at *
      generalize hN : ks.length = N at *
      have hck1 : ¬ ck = 1 := by omega
      go_enter Tryz.func254, Tryz.ntmps254
      go_wp2_with fail
      refine (ih0 code _ (hm.to ((Bel.refl w).alloc _)) (by omega)).mono ?_
      rintro e w1 ⟨rfl, hm1, ht1⟩
      have hW : TFr [364, 54] W0.heap.size w w1 := ((TFr.of_bel _ _ ((Bel.refl w).alloc _)).trans ht1)
      have qt := ht1.blk (Blk.new w #[.int .i64 tk, .int .i64 n, .slice (some ⟨bk, ofk, none⟩) (N + 1) ck] 332) (.inr (by decide))
      clear ih0 e0 e1 e2 ht1
      have t2 := qt.cell 2 rfl
      go_wp2_with fail
      clear t2
      go_loopw [47] (fun x wr => ∃ k : Nat, k ≤ N ∧ x = .int .i64 k ∧ TFr [364, 54] W0.heap.size w wr ∧ Blk wr w.heap.size #[.int .i64 tk, .int .i64 n, .slice (some ⟨bk, ofk, none⟩) (N + 1) ck] 332 ∧ MkAt W0 wr Bm c0 (.slice ac C.cons.length cc) c2 c3 sb C (code ++ f0 ++ (ks.take k).flatMap fk)) (fun x _ => N - (intOf x).toNat)
      case atStart => exact ⟨0, Nat.zero_le _, rfl, hW, qt, by simpa using hm1⟩
      case round =>
        clear qt hW hm1
        obtain ⟨k, hk, rfl, hW, qt, hm1⟩ := hrel
        by_cases hlt : k < N
        · have hlt' : k < ks.length := by rw [hN]; exact hlt
          have hg := List.getElem?_eq_getElem hlt'
          have hT := Lib.hid (show (ks.take (k + 1)).flatMap fk = (ks.take k).flatMap fk ++ fk ks[k] by
            rw [List.take_succ_eq_append_getElem hlt', List.flatMap_append]; simp)
          have hlen2 : ((ks.take k).flatMap fk).length + (fk ks[k]).length ≤ (ks.flatMap fk).length := by
            have h1 : ((ks.take (k + 1)).flatMap fk).length ≤ (ks.flatMap fk).length := by
              conv => rhs; rw [← List.take_append_drop (k + 1) ks]
              rw [List.flatMap_append, List.length_append]; omega
            rw [hT.out, List.length_append] at h1
            exact h1
          have hokk := hko ks[k] (by simp)
          obtain ⟨b', off', d'', vk, hd', ha', hvk, g0, g1, g2⟩ := hsk.tree hg
          obtain rfl : d' = d'' := by omega
          injection ha' with ha'
          injection ha' with ha1 ha2
          subst ha1; subst ha2
          have hEk : TreeE (d' + 1) W0 ks[k] [.int .i64 ks[k].kind, .int .i64 ks[k].n, vk] := ⟨vk, rfl, hvk⟩
          have ihk := fun w' => ih ks[k] _ (code ++ f0 ++ (ks.take k).flatMap fk ++ [⟨8, 0, 0, 0⟩]) w' hEk hokk
          have hfkk : fk ks[k] = if ks[k].kind = 0 ∧ seesB (C.con ks[k].n).kind = false then [⟨joinI tk (C.con ks[k].n).kind, (C.con ks[k].n).space, (C.con ks[k].n).n, 0⟩]
            else ⟨8, 0, 0, 0⟩ :: layF C (d' + 1) ks[k] ++ [⟨popI tk, 0, 0, 0⟩] := by rw [hfk]
          have hB := hm1.bel
          replace g0 := hB.cell g0; replace g1 := hB.cell g1; replace g2 := hB.cell g2
          obtain ⟨A1, c1', rfl, _, _⟩ := hvk.ex
          generalize ks[k] = kd at *
          obtain ⟨kk, kn, kks⟩ := kd
          simp only [Tr.kind_node, Tr.n_node, Tr.kids_node] at *
          generalize kks.length = N1 at *
          clear hvk hg hlt'
          obtain ⟨code1, hcode1⟩ : ∃ c, c = code ++ f0 ++ (ks.take k).flatMap fk := ⟨_, rfl⟩
          have hl1 : code1.length + (fk (.node kk kn kks)).length < 1000000000 := by
            rw [hcode1, List.length_append, List.length_append]; omega
          have hC1 := Lib.hid hcode1
          rw [← hcode1] at hm1 ihk
          clear hcode1 hlen2 ih hEk
          have hf := Lib.hid hfk
          clear hfk
          obtain ⟨ff, hff⟩ : ∃ f, f = fk (.node kk kn kks) := ⟨_, rfl⟩
          rw [← hff] at hfkk hl1 hT
          clear hff
          go_wp2_with fail
          have hW2 : Bel wr (wr.alloc (Obj.cells #[.int .i64 kk, .int .i64 kn, .slice A1 N1 c1'] 332)) := (Bel.refl wr).alloc _
          have qk : Blk (wr.alloc (Obj.cells #[.int .i64 kk, .int .i64 kn, .slice A1 N1 c1'] 332)) wr.heap.size #[.int .i64 kk, .int .i64 kn, .slice A1 N1 c1'] 332 := Blk.new wr _ _
          generalize (wr.alloc (Obj.cells #[.int .i64 kk, .int .i64 kn, .slice A1 N1 c1'] 332)) = W2 at *
          replace hm1 := hm1.to hW2
          replace qt := qt.bel hW2
          replace hW := hW.bel hW2
          obtain ⟨KB, hKB⟩ : ∃ KB, KB = wr.heap.size := ⟨_, rfl⟩
          rw [← hKB] at qk ⊢
          clear hKB hW2 g0 g1 g2 hB
          have x0 := qk.cell 0 rfl; have x1 := qk.cell 1 rfl; have x2 := qk.cell 2 rfl
          have y0 := qt.cell 0 rfl
          obtain ⟨v, hq, ho⟩ := hm1.ex
          have q1 := hq.cell 1 rfl
          clear ho
          by_cases hz : kk = 0
          case' pos =>
            subst hz
            rcases hokk with ⟨_, hn0, hn1⟩ | ⟨hh, _⟩
            case' inr => exact absurd hh (by simp [Tr.kind])
            simp only [Tr.kind_node, Tr.n_node, Tr.kids_node] at *
            obtain ⟨m, rfl⟩ := Int.eq_ofNat_of_zero_le hn0
            have hmL : m < C.cons.length := by omega
            have hg := List.getElem?_eq_getElem hmL
            have hkk := hck _ (List.getElem_mem hmL)
            obtain ⟨b, off, rfl, d0, d1, d2, d3, d4⟩ := hcs.contact hg
            have hcon : C.con m = C.cons[m] := by simp [Ctx.con, hg]
            rw [hcon] at hfkk
            generalize C.cons[m] = c at *
            obtain ⟨ck2, sp, na, cf, ct⟩ := c
            dsimp only at *
            obtain ⟨k2, rfl⟩ := Int.eq_ofNat_of_zero_le hkk.1
            have hB := hm1.bel
            replace d0 := hB.cell d0; replace d1 := hB.cell d1; replace d2 := hB.cell d2; replace d3 := hB.cell d3; replace d4 := hB.cell d4
            clear hcon hg
            obtain ⟨sq, hsq⟩ : ∃ q, q = seesB k2 := ⟨_, rfl⟩
            have Hq := Lib.hid hsq
            rw [← hsq] at hfkk
            clear hsq
            have hfkk := Lib.hid hfkk
            replace x0 : W2.cell? ⟨KB, 0, none⟩ = some (.int .i64 0) := x0
            replace x1 : W2.cell? ⟨KB, 1, none⟩ = some (.int .i64 m) := x1
            replace q1 : W2.cell? ⟨Bm, 1, none⟩ = some (.slice (some ⟨b, off, none⟩) C.cons.length cc) := q1
            have hS2 : (W2.cell? ⟨KB, 0, none⟩ = some (.int .i64 0) ∧ W2.cell? ⟨KB, 1, none⟩ = some (.int .i64 m) ∧ W2.cell? ⟨Bm, 1, none⟩ = some (.slice (some ⟨b, off, none⟩) C.cons.length cc) ∧ W2.cell? ⟨b, off + m * 5, none⟩ = some (.int .i64 k2) ∧ W2.cell? ⟨b, off + m * 5 + 1, none⟩ = some (.int .i64 sp) ∧ W2.cell? ⟨b, off + m * 5 + 2, none⟩ = some (.int .i64 na) ∧ W2.cell? ⟨b, off + m * 5 + 3, none⟩ = some (.string cf) ∧ W2.cell? ⟨b, off + m * 5 + 4, none⟩ = some (.string ct)) ∧ Bel W2 W2 := by
              refine ⟨?_, Bel.refl _⟩
              repeat' apply And.intro
              all_goals assumption
            go_region_held3 (fun w' => (w'.cell? ⟨KB, 0, none⟩ = some (.int .i64 0) ∧ w'.cell? ⟨KB, 1, none⟩ = some (.int .i64 m) ∧ w'.cell? ⟨Bm, 1, none⟩ = some (.slice (some ⟨b, off, none⟩) C.cons.length cc) ∧ w'.cell? ⟨b, off + m * 5, none⟩ = some (.int .i64 k2) ∧ w'.cell? ⟨b, off + m * 5 + 1, none⟩ = some (.int .i64 sp) ∧ w'.cell? ⟨b, off + m * 5 + 2, none⟩ = some (.int .i64 na) ∧ w'.cell? ⟨b, off + m * 5 + 3, none⟩ = some (.string cf) ∧ w'.cell? ⟨b, off + m * 5 + 4, none⟩ = some (.string ct)) ∧ Bel W2 w') (exact keep8 hS2 (by (repeat (first | exact Bel.refl _ | exact And.right (by assumption) | refine Bel.trans ?_ (by assumption) | refine Bel.drew ?_ | refine Bel.alloc ?_ _ | refine Bel.setCell ?_ (by first | exact Nat.le_refl _ | (simp; done) | (simp; omega) | omega) _)))) (first | (go_at_call 230; refine (sees230 k2 sp na cf ct _).mono ?_; rintro en w3 ⟨rfl, hb3⟩; rw [← Hq.out]))
            have hbb : Bel W2 _ := And.right (by assumption)
            cases sq
            case' false =>
              have hk2l : k2 < 2 := by have := Hq.out; simp [seesB] at this; omega
              have hff : ff = [⟨joinI tk k2, sp, na, 0⟩] := by rw [hfkk.out]; simp
              obtain ⟨L, hL⟩ : ∃ L, L = joinI tk k2 := ⟨_, rfl⟩
              have HL : ∀ w, Env w → w.cell? ⟨11, tk * 2 + k2, none⟩ = some (.int .i64 L) := fun w h => by rw [hL]; exact h.join htk hk2l
              have HE : ∀ w, Bel W0 w → Env w := fun w h => henv.bel h
              rw [← hL] at hff
              clear hL
              replace d0 := hbb.cell d0; replace d1 := hbb.cell d1; replace d2 := hbb.cell d2; replace d3 := hbb.cell d3; replace d4 := hbb.cell d4
              replace hm1 := hm1.to hbb
              replace qt := qt.bel hbb
              replace hW := hW.bel hbb
              replace q1 := hbb.cell q1
              replace x1 := hbb.cell x1
              rename_i hdel _
              clear hdel hfkk Hq ihk x0 x2 y0 hq hbb
              clear hS2
              go_wp2_with fail
              have hS3 : (w3.cell? ⟨KB, 1, none⟩ = some (.int .i64 m) ∧ w3.cell? ⟨Bm, 1, none⟩ = some (.slice (some ⟨b, off, none⟩) C.cons.length cc) ∧ w3.cell? ⟨b, off + m * 5, none⟩ = some (.int .i64 k2) ∧ w3.cell? ⟨b, off + m * 5 + 1, none⟩ = some (.int .i64 sp) ∧ w3.cell? ⟨b, off + m * 5 + 2, none⟩ = some (.int .i64 na) ∧ w3.cell? ⟨b, off + m * 5 + 3, none⟩ = some (.string cf) ∧ w3.cell? ⟨b, off + m * 5 + 4, none⟩ = some (.string ct)) ∧ Bel w3 w3 := by
                refine ⟨?_, Bel.refl _⟩
                repeat' apply And.intro
                all_goals assumption
              go_region_held3 (fun w' => (w'.cell? ⟨KB, 1, none⟩ = some (.int .i64 m) ∧ w'.cell? ⟨Bm, 1, none⟩ = some (.slice (some ⟨b, off, none⟩) C.cons.length cc) ∧ w'.cell? ⟨b, off + m * 5, none⟩ = some (.int .i64 k2) ∧ w'.cell? ⟨b, off + m * 5 + 1, none⟩ = some (.int .i64 sp) ∧ w'.cell? ⟨b, off + m * 5 + 2, none⟩ = some (.int .i64 na) ∧ w'.cell? ⟨b, off + m * 5 + 3, none⟩ = some (.string cf) ∧ w'.cell? ⟨b, off + m * 5 + 4, none⟩ = some (.string ct)) ∧ Bel w3 w') (exact keep7 hS3 (by (repeat (first | exact Bel.refl _ | exact And.right (by assumption) | refine Bel.trans ?_ (by assumption) | refine Bel.drew ?_ | refine Bel.alloc ?_ _ | refine Bel.setCell ?_ (by first | exact Nat.le_refl _ | (simp; done) | (simp; omega) | omega) _)))) (fail)
              go_wp2_with fail
              have hW2 : Bel w3 (w3.alloc (Obj.cells #[.int .i64 k2, .int .i64 sp, .int .i64 na, .string cf, .string ct] 108)).drew := ((Bel.refl w3).alloc _).drew
              have qc : Blk (w3.alloc (Obj.cells #[.int .i64 k2, .int .i64 sp, .int .i64 na, .string cf, .string ct] 108)).drew w3.heap.size #[.int .i64 k2, .int .i64 sp, .int .i64 na, .string cf, .string ct] 108 := (Blk.new w3 _ _).drewN 1
              generalize (w3.alloc (Obj.cells #[.int .i64 k2, .int .i64 sp, .int .i64 na, .string cf, .string ct] 108)).drew = W4 at *
              obtain ⟨CB, hCB⟩ : ∃ CB, CB = w3.heap.size := ⟨_, rfl⟩
              rw [← hCB] at qc ⊢
              replace hm1 := hm1.to hW2
              replace qt := qt.bel hW2
              replace hW := hW.bel hW2
              clear hCB d0 d1 d2 d3 d4 q1 x1
              have hl := HL _ (HE _ hm1.bel)
              have r0 := qc.cell 0 rfl; have r1 := qc.cell 1 rfl; have r2 := qc.cell 2 rfl
              have y0 := qt.cell 0 rfl
              have hmd := hm1.to ((Bel.refl W4).drew)
              have ix1 : (0 : Int) ≤ (tk : Int) := by omega
              have ix2 : (tk : Int) < 3 := by omega
              have ix3 : (0 : Int) ≤ (k2 : Int) := by omega
              have ix4 : (k2 : Int) < 2 := by omega
              go_region_held3 (fun w' => (w'.cell? ⟨w.heap.size, 0, none⟩ = some (.int .i64 tk) ∧ w'.cell? ⟨CB, 0, none⟩ = some (.int .i64 k2) ∧ w'.cell? ⟨CB, 1, none⟩ = some (.int .i64 sp) ∧ w'.cell? ⟨CB, 2, none⟩ = some (.int .i64 na) ∧ w'.cell? ⟨11, tk * 2 + k2, none⟩ = some (.int .i64 L)) ∧ TFr [364, 54] W0.heap.size W4 w') (first | (exact ⟨⟨(ht.blk (qt.drewN 1) (.inr (by decide))).cell 0 rfl, (ht.blk (qc.drewN 1) (.inr (by decide))).cell 0 rfl, (ht.blk (qc.drewN 1) (.inr (by decide))).cell 1 rfl, (ht.blk (qc.drewN 1) (.inr (by decide))).cell 2 rfl, HL _ (HE _ hm5.bel)⟩, (TFr.of_bel _ _ (Bel.refl _).drew).trans ht⟩) | (refine ⟨?_, TFr.of_bel _ _ (Bel.refl _).drew⟩; go_keep)) (first | (go_at_call 280; refine (put_mk hmd ⟨L, sp, na, 0⟩ (by have := congrArg List.length hff; simp at this; omega)).mono ?_; rintro e w5 ⟨rfl, hm5, ht⟩))
              replace qt := ht.blk (qt.drewN 1) (.inr (by decide))
              replace hW := (hW.bel (Bel.refl _).drew).trans ht
              clear hm1 y0 hl r0 r1 r2 hmd qc
              go_wp2_with fail
              go_roundw
              case rel =>
                refine ⟨k + 1, by omega, by go_num, hW, qt, ?_⟩
                rw [hT.out, ← List.append_assoc, ← hC1.out, hff]
                exact hm5
              case measure => simp [intOf]; omega
            case' true =>
              have hff : ff = ⟨8, 0, 0, 0⟩ :: layF C (d' + 1) (.node 0 m kks) ++ [⟨popI tk, 0, 0, 0⟩] := by rw [hfkk.out]; simp
              clear d0 d1 d2 d3 d4 hS2
              replace hm1 := hm1.to hbb
              replace qt := qt.bel hbb
              replace qk := qk.bel hbb
              replace hW := hW.bel hbb
              clear hq x0 x1 x2 y0 q1 hbb
              go_wp2_with fail
              refine (put_mk hm1 ⟨8, 0, 0, 0⟩ (by have := congrArg List.length hff; simp at this; omega)).mono ?_
              rintro en w5 ⟨rfl, hm5, ht5⟩
              replace qt := ht5.blk qt (.inr (by decide))
              replace qk := ht5.blk qk (.inr (by decide))
              replace hW := hW.trans ht5
              have x0 := qk.cell 0 rfl; have x1 := qk.cell 1 rfl; have x2 := qk.cell 2 rfl
              clear hm1
              go_wp2_with fail
              refine (ihk _ hm5 (by have := congrArg List.length hff; simp at this; simp; omega)).mono ?_
              rintro en w6 ⟨rfl, hm6, ht6⟩
              replace qt := ht6.blk qt (.inr (by decide))
              replace hW := hW.trans ht6
              have y0 := qt.cell 0 rfl
              clear hm5 x0 x1 x2 qk ihk
              obtain ⟨P, hP⟩ : ∃ P, P = popI tk := ⟨_, rfl⟩
              have hp : w6.cell? ⟨12, tk, none⟩ = some (.int .i64 P) := by rw [hP]; exact (henv.bel hm6.bel).pop htk
              rw [← hP] at hff
              clear hP
              go_wp2_with fail
              refine (put_mk hm6 ⟨P, 0, 0, 0⟩ (by have := congrArg List.length hff; simp at this; simp; omega)).mono ?_
              rintro en w7 ⟨rfl, hm7, ht7⟩
              replace qt := ht7.blk qt (.inr (by decide))
              replace hW := hW.trans ht7
              clear hm6 y0 hp
              go_wp2_with fail
              go_roundw
              case rel =>
                refine ⟨k + 1, by omega, by go_num, hW, qt, ?_⟩
                rw [hT.out, ← List.append_assoc, ← hC1.out, hff]
                simpa using hm7
              case measure => simp [intOf]; omega
          case' neg =>
            have hzb : (kk == 0) = false := by simpa using hz
            have hff : ff = ⟨8, 0, 0, 0⟩ :: layF C (d' + 1) (.node kk kn kks) ++ [⟨popI tk, 0, 0, 0⟩] := by rw [hfkk]; simp [hz]
            replace x0 : W2.cell? ⟨KB, 0, none⟩ = some (.int .i64 kk) := x0
            have hzd : decide (kk = 0) = false := by simpa using hz
            clear hfkk hokk
            go_region
            have hbb : Bel W2 W2.drew := (Bel.refl W2).drew
            replace hm1 := hm1.to hbb
            replace qt := qt.bel hbb
            replace qk := qk.bel hbb
            replace hW := hW.bel hbb
            clear hq x0 x1 x2 y0 q1 hbb
            go_wp2_with fail
            refine (put_mk hm1 ⟨8, 0, 0, 0⟩ (by have := congrArg List.length hff; simp at this; omega)).mono ?_
            rintro en w5 ⟨rfl, hm5, ht5⟩
            replace qt := ht5.blk qt (.inr (by decide))
            replace qk := ht5.blk qk (.inr (by decide))
            replace hW := hW.trans ht5
            have x0 := qk.cell 0 rfl; have x1 := qk.cell 1 rfl; have x2 := qk.cell 2 rfl
            clear hm1
            go_wp2_with fail
            refine (ihk _ hm5 (by have := congrArg List.length hff; simp at this; simp; omega)).mono ?_
            rintro en w6 ⟨rfl, hm6, ht6⟩
            replace qt := ht6.blk qt (.inr (by decide))
            replace hW := hW.trans ht6
            have y0 := qt.cell 0 rfl
            clear hm5 x0 x1 x2 qk ihk
            obtain ⟨P, hP⟩ : ∃ P, P = popI tk := ⟨_, rfl⟩
            have hp : w6.cell? ⟨12, tk, none⟩ = some (.int .i64 P) := by rw [hP]; exact (henv.bel hm6.bel).pop htk
            rw [← hP] at hff
            clear hP
            go_wp2_with fail
            refine (put_mk hm6 ⟨P, 0, 0, 0⟩ (by have := congrArg List.length hff; simp at this; simp; omega)).mono ?_
            rintro en w7 ⟨rfl, hm7, ht7⟩
            replace qt := ht7.blk qt (.inr (by decide))
            replace hW := hW.trans ht7
            clear hm6 y0 hp
            go_wp2_with fail
            go_roundw
            case rel =>
              refine ⟨k + 1, by omega, by go_num, hW, qt, ?_⟩
              rw [hT.out, ← List.append_assoc, ← hC1.out, hff]
              simpa using hm7
            case measure => simp [intOf]; omega
        · go_wp2_with fail
          go_end0
          refine ⟨rfl, ?_, hW⟩
          rw [List.take_of_length_le (by omega)] at hm1
          simpa using hm1
end Go.Proofs.YtbgilebgdbgddaaGreatDoor
