/- The lines of a text as an iterator gives them: their numbers, their text without the comment. No condition but on the size. -/
import Derived.Test.YtbgilebgdbgddaaGreatDoorSmp
import Derived.Test.YtbgilebgdbgddaaGreatDoorShelf
import Derived.Test.YtbgilebgdbgddaaGreatDoorLex
import Derived.RangeFuncNested
import Derived.RangeFuncBound
import Derived.RangeFuncCalls
import Derived.RangeFuncLeaves
import Derived.Shelf.Abstract
import Derived.Shelf.RegionOpen
import Derived.WalkKit
import Derived.OwnWalkIn
import Derived.TacticsInMore
import Derived.LoopNIn
import Derived.LoopIn
set_option linter.unusedVariables false
set_option linter.unusedSimpArgs false
namespace Go.Proofs.YtbgilebgdbgddaaGreatDoor
open Go.RowKit Go.Shelf
attribute [local go_sem] Oper.semAt_some

/-- Whatever is cells stands. -/
structure CK (W W' : World) : Prop where
  size : W.heap.size ≤ W'.heap.size
  block : ∀ (k : Nat) (cs : Array Value) (t : TypeId) (fr : Nat × Nat), W.heap[k]? = some (.cells cs t fr) → W'.heap[k]? = some (.cells cs t fr)
theorem CK.of_grown {W W' : World} {row : Option Nat} (hg : W.grownBy W' row) (hr : ∀ r, row = some r → ∃ o : Obj, W.heap[r]? = some o ∧ o.isCells = false) : CK W W' :=
  ⟨hg.size, fun k cs t fr hk => (hg.block k (Array.getElem?_eq_some_iff.1 hk).1 (fun e => by
    obtain ⟨o, ho, h2⟩ := hr k e.symm
    rw [hk] at ho; injection ho with ho; subst ho; cases h2)).trans hk⟩
theorem Blk.ck {W W' : World} {n : Nat} {cs : Array Value} {t : TypeId} (h : Blk W n cs t) (k : CK W W') : Blk W' n cs t := k.block _ _ _ _ h
theorem cell_ck {W W' : World} {a : Addr} {v : Value} (k : CK W W') (h : W.cell? a = some v) : W'.cell? a = some v := by
  have h0 := h
  unfold World.cell? at h ⊢
  split at h
  · rename_i cs t fr hk
    rw [k.block _ _ _ _ hk]
    exact h
  · cases h
theorem own_ck {B : Nat} {W W' : World} {e : TypeId} {sz n : Nat} {v : Value} {xs : List Value} (ho : W.ownsRow B e sz v n xs) (k : CK W W') : W'.ownsRow B e sz v n xs := by
  refine ⟨ho.1, ?_⟩
  rcases ho.2 with h1 | ⟨g, cap, cur, hv, hb, hh, r⟩
  · exact .inl h1
  · exact .inr ⟨g, cap, cur, hv, hb, k.block _ _ _ _ hh, r⟩
theorem Env.ck {W W' : World} (h : Env W) (k : CK W W') : Env W' where
  maxLen := let ⟨m, hm⟩ := h.maxLen; ⟨m, cell_ck k hm⟩
  letter := fun j u hu => cell_ck k (h.letter j u hu)
  contacts := fun j u hu => cell_ck k (h.contacts j u hu)
  coils := fun j u hu => cell_ck k (h.coils j u hu)
  writes := fun j u hu => cell_ck k (h.writes j u hu)
  loads := fun j u hu => cell_ck k (h.loads j u hu)
  joins := fun j u hu => cell_ck k (h.joins j u hu)
  pops := fun j u hu => cell_ck k (h.pops j u hu)
  errRange := let ⟨t, p, hm⟩ := h.errRange; ⟨t, p, cell_ck k hm⟩
  space := by
    have hs := h.space
    unfold Lib.TabIs World.var? at hs ⊢
    rw [g5] at hs ⊢
    simp only [Option.bind_some] at hs ⊢
    cases hk : W.heap[5]? with
    | none => rw [hk] at hs; simp at hs
    | some o =>
      cases o with
      | cells cs t fr => rw [k.block _ _ _ _ hk]; rw [hk] at hs; exact hs
      | _ => rw [hk] at hs; simp at hs
  size := Nat.le_trans h.size k.size
/-- Blocks of strings stand, and the tables. -/
def KpS (W W' : World) : Prop := (∀ n cs, Blk W n cs 9 → Blk W' n cs 9) ∧ (Env W → Env W')
theorem KpS.trans {A B C : World} (h : KpS A B) (k : KpS B C) : KpS A C := ⟨fun n cs hb => k.1 n cs (h.1 n cs hb), fun he => k.2 (h.2 he)⟩
theorem CK.putObj {W : World} {l : Nat} {o : Obj} (h : W.heap[l]? = some o) (ho : o.isCells = false) (o' : Obj) : CK W (W.putObj l o') :=
  CK.of_grown (grownBy_putObj' W l o') (fun r e => by injection e with e; subst e; exact ⟨o, h, ho⟩)
theorem KpS.of_ck {W W' : World} (h : CK W W') : KpS W W' := ⟨fun _ _ hb => hb.ck h, fun he => he.ck h⟩

def linesOf (text : ByteArray) : List ByteArray := Lib.splitB ⟨#[10]⟩ 0 (Lib.countB text ⟨#[10]⟩) text
def cutC (s : ByteArray) : ByteArray := ⟨(Lib.cut s.data.toList [59]).1.toArray⟩
theorem splitB_small (sep : ByteArray) (save : Nat) : ∀ (k : Nat) (s : ByteArray), ∀ x ∈ Lib.splitB sep save k s, x.size ≤ s.size := by
  intro k
  induction k with
  | zero => intro s x hx; simp [Lib.splitB] at hx; subst hx; exact Nat.le_refl _
  | succ k ih =>
    intro s x hx
    unfold Lib.splitB at hx
    split at hx
    · simp at hx; subst hx; exact Nat.le_refl _
    · rcases List.mem_cons.1 hx with rfl | hx
      · simp only [ByteArray.size_extract]; omega
      · refine Nat.le_trans (ih _ x hx) ?_
        simp only [ByteArray.size_extract]; omega
theorem cut_len (l sep : List UInt8) : (Lib.cut l sep).1.length ≤ l.length := by
  unfold Lib.cut
  split
  · simp; omega
  · simp
theorem cutC_size (s : ByteArray) : (cutC s).size ≤ s.size := by
  have := cut_len s.data.toList [59]
  show (Lib.cut s.data.toList [59]).1.toArray.size ≤ s.data.size
  simpa using this
theorem lines_len (text : ByteArray) : (linesOf text).length = Lib.countB text ⟨#[10]⟩ + 1 := Lib.splitB_all _ (by decide) 0 _ _ rfl
/-- What the body of a loop over the lines knows of what it is handed. -/
abbrev LX := { x : Nat × ByteArray // x.1 ≤ 1000000 ∧ x.2.size ≤ 65536 }
def encX (x : LX) : Array Value := #[.int .i64 (x.1.1 : Int), .string x.1.2]
def lineAt (L : List ByteArray) (hL : ∀ x ∈ L, x.size ≤ 65536) (j : Nat) : LX := ⟨(min (j + 1) 1000000, cutC (L.getD j .empty)), by
  refine ⟨Nat.min_le_right _ _, Nat.le_trans (cutC_size _) ?_⟩
  rw [List.getD_eq_getElem?_getD]
  cases h : L[j]? with
  | none => show ByteArray.empty.size ≤ 65536; decide
  | some x => exact hL x (List.mem_of_getElem? h)⟩
def uptoN {α : Type} (f : Nat → α) (k : Nat) : List α := (List.range k).map f
theorem uptoN_succ {α : Type} (f : Nat → α) (k : Nat) : uptoN f (k + 1) = uptoN f k ++ [f k] := by simp [uptoN, List.range_succ]
theorem uptoN_length {α : Type} (f : Nat → α) (k : Nat) : (uptoN f k).length = k := by simp [uptoN]
theorem count_small (s sep : ByteArray) : Lib.countB s sep ≤ s.size + 1 := by
  have := Lib.count_le s.data.toList sep.data.toList
  simpa [Lib.countB] using this
theorem cut221 (s : ByteArray) (w : World) (hs : s.size ≤ 65536) (hE : Env w) : Calls Tryz.prog 221 #[.string s, .string ⟨#[59]⟩] w fun e w' => ∃ r b n, e = .returned (.tuple #[.string (cutC s), .string r, .bool b]) ∧ w' = w.drewN n := by
  obtain ⟨m, hm⟩ := hE.maxLen
  refine (Tryz.strings_Cut s ⟨#[59]⟩ m w (by omega) hm).mono ?_
  rintro e w' ⟨rfl, n, rfl⟩
  exact ⟨_, _, n, rfl, rfl⟩
set_option maxRecDepth 100000 in
set_option maxHeartbeats 2000000 in
theorem counts219 (n : Nat) (hn : 1 ≤ n) (l Bt : Nat) (text : ByteArray) (hsz : text.size ≤ 65536) (hL : ∀ x ∈ linesOf text, x.size ≤ 65536) (J Jx : List LX → World → Prop)
    (hJ : ∀ s W o, J s W → J s (W.alloc o)) (hJd : ∀ s W n, J s W → J s (W.drewN n))
    (hY : ∀ pre x W, J pre W → pre.length < (linesOf text).length → YieldAt Fence.wide (n - 1) Tryz.prog l (encX x) W fun e W' =>
      (e = .returned (.bool true) ∧ J (pre ++ [x]) W' ∧ KpS W W') ∨ (e = .returned (.bool false) ∧ Jx (pre ++ [x]) W'))
    (W : World) (hBt : W.cell? ⟨Bt, 0, none⟩ = some (.string text)) (hE : Env W) (h0 : J [] W) :
    CallsIn Fence.wide n Tryz.prog 219 #[.func (.yield l) #[] #[], .pointer (some ⟨Bt, 0, none⟩)] W fun e W' => (∃ v, e = .returned v) ∧
      ((∃ ys, ys = uptoN (lineAt (linesOf text) hL) (linesOf text).length ∧ J ys W') ∨ (∃ pre, (∃ k, k ≤ (linesOf text).length ∧ pre = uptoN (lineAt (linesOf text) hL) k) ∧ Jx pre W')) := by
  obtain ⟨m, hm⟩ := hE.maxLen
  have hll := lines_len text
  have hcs := count_small text ⟨#[10]⟩
  have hb : Blk (W.alloc (.cells ((linesOf text).map Value.string).toArray 9 (0, 0))) W.heap.size ((linesOf text).map Value.string).toArray 9 := Blk.new W _ _
  have hE1 : Env (W.alloc (.cells ((linesOf text).map Value.string).toArray 9 (0, 0))) := hE.bel ((Bel.refl W).alloc _)
  have hJ1 := hJ [] W (.cells ((linesOf text).map Value.string).toArray 9 (0, 0)) h0
  have hsp := Tryz.strings_Split text ⟨#[10]⟩ m W (by omega) hm (by decide)
  rw [← hll, show Lib.splitB ⟨#[10]⟩ 0 (Lib.countB text ⟨#[10]⟩) text = linesOf text from rfl] at hsp
  generalize hW1 : (W.alloc (.cells ((linesOf text).map Value.string).toArray 9 (0, 0))) = W1 at *
  clear hm m
  have HL : (linesOf text).length ≤ 70000 := by omega
  clear hll hcs hE h0 hW1
  have HW := hb.lt
  generalize hLe : linesOf text = L at *
  clear hLe
  refine callsIn_of_wp Tryz.func219 rfl trivial ?_ rfl
  simp only [Tryz.ntmps219, List.size_toArray, List.length_cons, List.length_nil, Nat.reduceAdd, Nat.reduceSub, Array.replicate_succ, Array.replicate_zero, List.push_toArray, List.append_toArray, List.nil_append, List.cons_append]
  gi_wp2_with (refine ⟨trivial, ?_⟩; gi_at_call 220; refine (callsIn_wide.2 hsp).mono ?_; rintro e w' ⟨rfl, rfl⟩)
  gi_loopw [8] (fun i wr => ∃ k : Nat, k ≤ L.length ∧ i = .int .i64 k ∧ J (uptoN (lineAt L hL) k) wr ∧ Blk wr W.heap.size (L.map Value.string).toArray 9 ∧ Env wr)
    (fun i _ => L.length - (intOf i).toNat)
  case atStart => exact ⟨0, Nat.zero_le _, rfl, hJ1, hb, hE1⟩
  case round =>
    obtain ⟨k, hk, rfl, hJs, hbk, hEk⟩ := hrel
    by_cases hlt : k < L.length
    · obtain ⟨s, hs⟩ : ∃ s, L[k]? = some s := ⟨_, List.getElem?_eq_getElem hlt⟩
      have hss := hL s (List.mem_of_getElem? hs)
      have hcl : wr.cell? ⟨W.heap.size, k, none⟩ = some (.string s) := hbk.cell k (by simp [hs])
      have hcut := cut221 s wr hss hEk
      have hx : encX (lineAt L hL k) = #[.int .i64 ((k : Int) + 1), .string (cutC s)] := by
        simp only [encX, lineAt, List.getD_eq_getElem?_getD, hs, Option.getD_some]
        rw [Nat.min_eq_left (by omega)]
        simp
      have hYk := fun q => hY (uptoN (lineAt L hL) k) (lineAt L hL k) (wr.drewN q) (hJd _ _ q hJs) (by rw [uptoN_length]; exact hlt)
      rw [hx, ← uptoN_succ] at hYk
      have hbd := fun q => hbk.drewN q
      have hEd := fun q => hEk.bel ((Bel.refl wr).drewN q)
      clear hY hsp hx hs
      gi_wp2_with (refine ⟨trivial, ?_⟩; gi_at_call 221; refine (callsIn_wide.2 hcut).mono ?_; rintro e w1 ⟨r, b, q, rfl, rfl⟩)
      obtain ⟨fn, tmps, assign, body, hy, hR⟩ := hYk q
      gi_wp2
      rw [hy]
      clear hcut hYk hbk hE1 hb
      gi_wp2
      refine hR.mono ?_
      rintro e W3 (⟨rfl, hJ3, hk3⟩ | ⟨rfl, hJx3⟩)
      · gi_wp2
        go_roundw
        case rel => exact ⟨k + 1, by omega, by simp, hJ3, hk3.1 _ _ (hbd q), hk3.2 (hEd q)⟩
        case measure => simp [intOf]; omega
      · gi_wp2
        refine bodyPost_ret (results_none rfl _ _ _) rfl ?_
        exact ⟨⟨_, rfl⟩, .inr ⟨_, ⟨k + 1, by omega, rfl⟩, hJx3⟩⟩
    · obtain rfl : k = L.length := by omega
      gi_wp2
      go_end0
      exact ⟨⟨_, rfl⟩, .inl ⟨_, rfl, hJs⟩⟩
end Go.Proofs.YtbgilebgdbgddaaGreatDoor
