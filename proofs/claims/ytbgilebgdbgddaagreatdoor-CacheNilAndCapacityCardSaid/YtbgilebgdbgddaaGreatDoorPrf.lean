/- The parser as a function: lines to a ladder or the first error; what it keeps. -/
import Derived.Test.YtbgilebgdbgddaaGreatDoorLns
import Derived.Test.YtbgilebgdbgddaaGreatDoorLin
import Derived.Test.YtbgilebgdbgddaaGreatDoorBeg
import Derived.RegionTactic
import Derived.BigRegion
set_option linter.unusedVariables false
set_option linter.unusedSimpArgs false
namespace Go.Proofs.YtbgilebgdbgddaaGreatDoor
open Go.RowKit
def curR (p : PS) : Rung := (p.rungs[p.rungs.length - 1]?).getD ⟨.empty, [], [], .empty⟩
def doF (p : PS) (l : Line) (f : Nat) : Int × PS :=
  if f = 203 then sizeF p l else if f = 204 then beginF p l else if f = 205 then jumpF p (curR p) l else if f = 206 then contactF p (curR p) l else coilLF p (curR p) l
def stepF (p : PS) (l : Line) : Int × PS := lineF (doF p l) p l
def ps0 : PS := ⟨0, 0, 0, [], false, [], []⟩
/-- The first error's line number and number, or none; and where the parser stands. -/
def runF : PS → List Line → Option (Int × Int) × PS
  | p, [] => (none, p)
  | p, l :: r => if (stepF p l).1 ≠ 0 then (some (l.n, (stepF p l).1), p) else runF (stepF p l).2 r
def badJ (rs : List Rung) (i : Nat) : Bool := match rs[i]? with
  | none => false
  | some r => (r.jump.size != 0) && !((rs.drop (i + 1)).any fun x => decide (x.label = r.jump))
structure PRes where
  lad : Ladder
  lines : List Int
  at_ : Int
  err : Int
def lad0 : Ladder := ⟨0, 0, 0, []⟩
def finJ (p : PS) : Option Nat → PRes
  | some i => ⟨lad0, [], p.jumps.getD i 0, 15⟩
  | none => ⟨⟨p.i, p.q, p.m, p.rungs⟩, p.lines, 0, 0⟩
def finF (p : PS) : PRes :=
  if p.sized = false then ⟨lad0, [], 0, 5⟩ else finJ p ((List.range p.rungs.length).find? (badJ p.rungs))
def parseF (text : ByteArray) : PRes :=
  if (linesF text).2.2 ≠ 0 then ⟨lad0, [], (linesF text).2.1, (linesF text).2.2⟩ else
  match runF ps0 (linesF text).1 with
  | (some (n, e), _) => ⟨lad0, [], n, e⟩
  | (none, p) => finF p

/-- What a line of words is. -/
structure LineOk (l : Line) : Prop where
  pos : 0 < l.words.length
  len : l.words.length ≤ 100000
  size : ∀ s ∈ l.words, s.size ≤ 65536
theorem lines_fine (text : ByteArray) (l : Line) (h : l ∈ (linesF text).1) : LineOk l := by
  unfold linesF at h
  split at h
  · cases h
  · rename_i hs
    split at h
    · cases h
    · obtain ⟨x, hx, hl⟩ := List.mem_filterMap.1 h
      unfold pairsF at hx
      obtain ⟨j, hj, rfl⟩ := List.mem_map.1 hx
      have hsz : (cutC ((linesOf text).getD j .empty)).size ≤ 65536 := by
        refine Nat.le_trans (cutC_size _) ?_
        rw [List.getD_eq_getElem?_getD]
        cases hg : (linesOf text)[j]? with
        | none => show ByteArray.empty.size ≤ 65536; decide
        | some y => exact Nat.le_trans (splitB_small _ _ _ _ y (List.mem_of_getElem? hg)) (by omega)
      unfold lineOf at hl
      split at hl
      · cases hl
      · rename_i hne
        injection hl with hl
        subst hl
        refine ⟨?_, ?_, fun s hs => ?_⟩
        · show 0 < (wordsOf _).length
          cases hw : wordsOf (cutC ((linesOf text).getD j .empty)) with
          | nil => simp only [hw] at hne; exact absurd rfl hne
          | cons a l => simp
        · have := words_len (cutC ((linesOf text).getD j .empty))
          exact Nat.le_trans this (by omega)
        · exact Nat.le_trans (words_small _ s hs) hsz
/-- What the parser keeps. -/
structure PsIn (p : PS) : Prop where
  ok : PsOk p
  lin : p.lines.length = p.rungs.length
  jmp : p.jumps.length = p.rungs.length
theorem ps0_in : PsIn ps0 := ⟨⟨by simp [ps0], fun r h => by simp [ps0] at h, fun r h => by simp [ps0] at h⟩, rfl, rfl⟩
theorem PsIn.set {p : PS} (h : PsIn p) (r : Rung) (js : List Int) (hc : r.contacts.length ≤ 256) (ho : r.coils.length ≤ 16) (hj : js.length = p.jumps.length) (i : Nat) : PsIn { p with rungs := p.rungs.set i r, jumps := js } := by
  refine ⟨⟨by simpa using h.ok.rungs, fun x hx => ?_, fun x hx => ?_⟩, by simpa using h.lin, by simp [hj, h.jmp]⟩
  · rcases List.mem_or_eq_of_mem_set hx with hx | rfl
    · exact h.ok.con x hx
    · exact hc
  · rcases List.mem_or_eq_of_mem_set hx with hx | rfl
    · exact h.ok.coi x hx
    · exact ho
theorem curR_bounds {p : PS} (h : PsIn p) : (curR p).contacts.length ≤ 256 ∧ (curR p).coils.length ≤ 16 := by
  unfold curR
  cases hg : p.rungs[p.rungs.length - 1]? with
  | none => simp
  | some r => exact ⟨h.ok.con r (List.mem_of_getElem? hg), h.ok.coi r (List.mem_of_getElem? hg)⟩
theorem doF_in {p : PS} {l : Line} {f : Nat} (h : PsIn p) (h0 : (doF p l f).1 = 0) : PsIn (doF p l f).2 := by
  obtain ⟨hc, ho⟩ := curR_bounds h
  unfold doF at h0 ⊢
  split
  · unfold sizeF
    repeat' split
    all_goals first | exact h | exact ⟨⟨h.ok.rungs, h.ok.con, h.ok.coi⟩, h.lin, h.jmp⟩
  rename_i h3; rw [if_neg h3] at h0
  split
  · rename_i h4
    rw [if_pos h4] at h0
    unfold beginF at h0 ⊢
    split
    · exact h
    rename_i g1; rw [if_neg g1] at h0
    split
    · exact h
    rename_i g2; rw [if_neg g2] at h0
    split
    · exact h
    rename_i g3
    have := h.ok.rungs
    refine ⟨⟨by simp; omega, fun x hx => ?_, fun x hx => ?_⟩, by simp [h.lin], by simp [h.jmp]⟩
    · rcases List.mem_append.1 hx with hx | hx
      · exact h.ok.con x hx
      · rw [List.mem_singleton.1 hx]; simp
    · rcases List.mem_append.1 hx with hx | hx
      · exact h.ok.coi x hx
      · rw [List.mem_singleton.1 hx]; simp
  rename_i h4; rw [if_neg h4] at h0
  split
  · unfold jumpF
    split
    · exact h
    split
    · exact h
    · exact PsIn.set h { curR p with jump := wrd l 1 } (p.jumps.set (p.jumps.length - 1) l.n) hc ho List.length_set _
  rename_i h5; rw [if_neg h5] at h0
  split
  · unfold contactF
    split
    · exact h
    split
    · exact h
    split
    · exact h
    split
    · exact h
    · rename_i g2 _ _
      refine PsIn.set h { curR p with contacts := (curR p).contacts ++ [_] } p.jumps ?_ ho rfl _
      show ((curR p).contacts ++ [_]).length ≤ 256
      rw [List.length_append, List.length_singleton]
      omega
  · unfold coilLF
    split
    · exact h
    split
    · exact h
    split
    · exact h
    split
    · exact h
    · rename_i g2 _ _
      refine PsIn.set h { curR p with coils := (curR p).coils ++ [_] } p.jumps hc ?_ rfl _
      show ((curR p).coils ++ [_]).length ≤ 16
      rw [List.length_append, List.length_singleton]
      omega
theorem stepF_in {p : PS} {l : Line} (h : PsIn p) (h0 : (stepF p l).1 = 0) : PsIn (stepF p l).2 := by
  unfold stepF lineF at h0 ⊢
  split
  · exact h
  · rename_i k hk
    rw [hk] at h0
    dsimp only at h0
    split
    · exact h
    rename_i g1; rw [if_neg g1] at h0
    split
    · exact h
    rename_i g2; rw [if_neg g2] at h0
    exact doF_in h h0
theorem runF_snoc (ls : List Line) : ∀ (p q : PS) (l : Line), runF p ls = (none, q) → runF p (ls ++ [l]) = if (stepF q l).1 ≠ 0 then (some (l.n, (stepF q l).1), q) else (none, (stepF q l).2) := by
  induction ls with
  | nil =>
    intro p q l h
    simp only [runF] at h
    injection h with _ h
    subst h
    simp [runF]
  | cons a r ih =>
    intro p q l h
    simp only [runF, List.cons_append] at h ⊢
    split at h
    · cases h
    · rename_i g
      rw [if_neg g]
      exact ih _ _ _ h
theorem runF_stop (ls : List Line) : ∀ (p q : PS) (x : Int × Int) (r : List Line), runF p ls = (some x, q) → runF p (ls ++ r) = (some x, q) := by
  induction ls with
  | nil => intro p q x r h; simp [runF] at h
  | cons a l ih =>
    intro p q x r h
    simp only [runF, List.cons_append] at h ⊢
    split at h
    · rename_i g; rw [if_pos g]; exact h
    · rename_i g; rw [if_neg g]; exact ih _ _ _ _ h
theorem kw_cases {s : ByteArray} {k : Kw} (h : kwFind kwTab s = some k) : k = ⟨4, 4, false, false, 203⟩ ∨ k = ⟨1, 2, true, false, 204⟩ ∨ k = ⟨2, 2, true, true, 205⟩ ∨ k = ⟨4, 4, true, true, 206⟩ ∨ k = ⟨2, 2, true, true, 207⟩ := by
  simp only [kwTab, kwFind] at h
  repeat' split at h
  all_goals first | (injection h with h; subst h; simp) | cases h
/-- One line, whatever it is. -/
theorem line_any (Wk W0 W1 w : World) (Bp bm : Nat) (p : PS) (l : Line) (cl : List Value) (henv : Env W0) (hp : PsAt Wk W0 W1 w Bp p) (hin : PsIn p) (hm : MapAt Value.string W1 bm (wordL Bp)) (hl : LineE W0 l cl) (hk : LineOk l) :
    Calls Tryz.prog 173 #[.pointer (some ⟨Bp, 0, none⟩), .map (some bm), .agg cl.toArray] w (Answers Wk W0 W1 Bp (stepF p l)) := by
  refine line173 Wk W0 W1 w Bp bm p l cl (doF p l) hp hm hl hk.pos hk.len (fun k w' hf hlo hhi hrn hp' => ?_)
  have hcur : p.rungs.length ≠ 0 → p.rungs[p.rungs.length - 1]? = some (curR p) := fun h => by
    unfold curR
    rw [List.getElem?_eq_getElem (by omega)]
    rfl
  have hlen := hin.lin
  have hlj := hin.jmp
  have h64 := hin.ok.rungs
  rcases kw_cases hf with rfl | rfl | rfl | rfl | rfl
  · dsimp only at hlo hhi ⊢
    have : doF p l 203 = sizeF p l := rfl
    rw [this]
    exact size203 Wk W0 W1 w' Bp p l cl henv hp' hl (by omega) hk.size
  · dsimp only at hlo hhi ⊢
    have : doF p l 204 = beginF p l := rfl
    rw [this]
    exact begin204 Wk W0 W1 w' Bp p l cl hp' hin.ok (by omega) (by omega) hl (by omega) hk.size
  · dsimp only at hlo hhi hrn ⊢
    have hn := hrn rfl
    have : doF p l 205 = jumpF p (curR p) l := rfl
    rw [this]
    exact jump205 Wk W0 W1 w' Bp p l cl (curR p) hp' hin.ok hlj (hcur hn) (by omega) hl (by omega) hk.size
  · dsimp only at hlo hhi hrn ⊢
    have hn := hrn rfl
    have : doF p l 206 = contactF p (curR p) l := rfl
    rw [this]
    exact contact206 Wk W0 W1 w' Bp p l cl (curR p) henv hp' hin.ok (hcur hn) (by omega) hl (by omega) hk.size
  · dsimp only at hlo hhi hrn ⊢
    have hn := hrn rfl
    have : doF p l 207 = coilLF p (curR p) l := rfl
    rw [this]
    exact coil207 Wk W0 W1 w' Bp p l cl (curR p) henv hp' hin.ok (hcur hn) (by omega) hl (by omega) hk.size
end Go.Proofs.YtbgilebgdbgddaaGreatDoor
/- parse.Parse at whatever text of at most 2^30 bytes: parseF. -/
namespace Go.Proofs.YtbgilebgdbgddaaGreatDoor
open Go.RowKit
def ParPost (w : World) (r : PRes) (e : Ending) (w' : World) : Prop := ∃ vr vl, e = .returned (.tuple #[.agg #[.int .i64 r.lad.i, .int .i64 r.lad.q, .int .i64 r.lad.m, vr], vl, .int .i64 r.at_, .int .i64 r.err]) ∧ Hangs w.heap.size none w' (fun w'' => SlAt RungE 4 w'' vr r.lad.rungs ∧ SlAt IntE 1 w'' vl r.lines) ∧ Bel w w'
theorem ParPost.bad {w w' : World} {r : PRes} {n e : Int} (h : r = ⟨lad0, [], n, e⟩) (hb : Bel w w') : ParPost w r (.returned (.tuple #[.agg #[.int .i64 0, .int .i64 0, .int .i64 0, .slice none 0 0], .slice none 0 0, .int .i64 n, .int .i64 e])) w' := by
  subst h
  exact ⟨_, _, rfl, fun _ _ => ⟨SlAt.nil _ _ _, SlAt.nil _ _ _⟩, hb⟩
theorem own_hang {B B' : Nat} {w w' : World} {e : TypeId} {sz n : Nat} {v : Value} {xs : List Value} (ho : w.ownsRow B' e sz v n xs) (hB : B ≤ B') (h : ∀ k, B ≤ k → k < w.heap.size → some k ≠ none → w'.heap[k]? = w.heap[k]?) : w'.ownsRow B' e sz v n xs :=
  own_far ho fun g hg hlt => h g (Nat.le_of_not_lt fun h1 => own_ge ho g (by omega) hg.symm) hlt (by simp)
theorem RungO.hang {B B' : Nat} {w w' : World} {r : Rung} {c : List Value} (h : RungO B' w r c) (hB : B ≤ B') (hk : ∀ k, B ≤ k → k < w.heap.size → some k ≠ none → w'.heap[k]? = w.heap[k]?) : RungO B' w' r c := by
  obtain ⟨vc, vo, e, hc, ho⟩ := h
  exact ⟨vc, vo, e, own_hang hc hB hk, own_hang ho hB hk⟩
/-- Between two lines. -/
def LinAt (W0 : World) (Bp bm : Nat) (ls : List Line) (x : Value) (wr : World) : Prop :=
  ∃ (k : Nat) (Wk W1 : World) (p : PS), k ≤ ls.length ∧ x = .int .i64 k ∧ runF ps0 (ls.take k) = (none, p) ∧ PsIn p ∧ MapAt Value.string W1 bm (wordL Bp) ∧ PsAt Wk W0 W1 wr Bp p
/-- Between two rungs' jumps. -/
def JmpAt (W : World) (rs : List Rung) (x : Value) (wr : World) : Prop := ∃ k : Nat, k ≤ rs.length ∧ x = .int .i64 k ∧ (∀ j, j < k → badJ rs j = false) ∧ Bel W wr
theorem SlAt.line {w : World} {v : Value} {ls : List Line} (h : SlAt LineE 2 w v ls) : ∃ a c, v = .slice a ls.length c ∧ ls.length ≤ c ∧ c ≤ 9223372036854775807 ∧ ∀ k l, ls[k]? = some l → ∃ b off au cu, a = some ⟨b, off, none⟩ ∧ w.cell? ⟨b, off + k * 2, none⟩ = some (.int .i64 l.n) ∧ w.cell? ⟨b, off + k * 2 + 1, none⟩ = some (.slice au l.words.length cu) ∧ LineE w l [.int .i64 l.n, .slice au l.words.length cu] := by
  obtain ⟨a, c, hv, h1, h2, hx⟩ := h.ex
  refine ⟨a, c, hv, h1, h2, fun k l hl => ?_⟩
  obtain ⟨b, off, cs, ha, he, _, hcs⟩ := hx k l hl
  obtain ⟨u, rfl, hu⟩ := he
  obtain ⟨au, cu, rfl, _⟩ := hu.ex
  exact ⟨b, off, au, cu, ha, hcs 0 _ rfl, hcs 1 _ rfl, _, rfl, hu⟩
theorem res4 {w w1 : World} {N : Nat} {x0 x1 x2 x3 : Value} {t : TypeId} (q : Blk w1 N #[x0, x1, x2, x3] t) (hB : Bel w w1) (hN : w.heap.size ≤ N) (a b c d : Value) :
    Blk ((((w1.setCell ⟨N, 0, none⟩ a).setCell ⟨N, 1, none⟩ b).setCell ⟨N, 2, none⟩ c).setCell ⟨N, 3, none⟩ d) N #[a, b, c, d] t ∧ Bel w ((((w1.setCell ⟨N, 0, none⟩ a).setCell ⟨N, 1, none⟩ b).setCell ⟨N, 2, none⟩ c).setCell ⟨N, 3, none⟩ d) ∧
    TFr [t] 0 w1 ((((w1.setCell ⟨N, 0, none⟩ a).setCell ⟨N, 1, none⟩ b).setCell ⟨N, 2, none⟩ c).setCell ⟨N, 3, none⟩ d) := by
  have q1 := q.set 0 a
  have q2 := q1.set 1 b
  have q3 := q2.set 2 c
  exact ⟨q3.set 3 d, (((hB.setCell hN _).setCell hN _).setCell hN _).setCell hN _, (((TFr.setC q (by simp) (Nat.zero_le _) _ _).trans (TFr.setC q1 (by simp) (Nat.zero_le _) _ _)).trans (TFr.setC q2 (by simp) (Nat.zero_le _) _ _)).trans (TFr.setC q3 (by simp) (Nat.zero_le _) _ _)⟩
theorem take_line {ls : List Line} {k : Nat} {l : Line} (h : ls[k]? = some l) : ls.take (k + 1) = ls.take k ++ [l] := by
  obtain ⟨hk, he⟩ := List.getElem?_eq_some_iff.1 h
  rw [List.take_succ_eq_append_getElem hk, he]
theorem find_first {f : Nat → Bool} {n k : Nat} (h : k < n) (h0 : ∀ j, j < k → f j = false) (h1 : f k = true) : (List.range n).find? f = some k := by
  rw [List.find?_range_eq_some]
  exact ⟨h1, List.mem_range.2 h, fun j hj => by simp [h0 j hj]⟩
set_option maxRecDepth 100000 in
set_option maxHeartbeats 8000000 in
theorem parse141 (text : ByteArray) (w : World) (hs : text.size ≤ 1073741824) (hE : Env w) :
    Calls Tryz.prog 141 #[.string text] w (ParPost w (parseF text)) := by
  have hfine := lines_fine text
  have hll := fun W (hb : Bel w W) => lines171 text W hs (hE.bel hb)
  have hPF := Lib.hid (show parseF text = if (linesF text).2.2 ≠ 0 then ⟨lad0, [], (linesF text).2.1, (linesF text).2.2⟩ else match runF ps0 (linesF text).1 with
    | (some (n, e), _) => ⟨lad0, [], n, e⟩
    | (none, p) => finF p from rfl)
  generalize parseF text = PF at *
  generalize linesF text = LF at *
  obtain ⟨ls, at_, er⟩ := LF
  dsimp only at *
  have q2 := Blk.new w #[.int .i64 0, .int .i64 0, .int .i64 0, .slice none 0 0] 26
  have hb1 : Bel w (w.alloc (.cells #[.int .i64 0, .int .i64 0, .int .i64 0, .slice none 0 0] 26)) := (Bel.refl w).alloc _
  have HLL := Lib.hid (hll _ hb1)
  clear hll
  go_enter Tryz.func141, Tryz.ntmps141
  go_wp2_with fail
  generalize (w.alloc (.cells #[.int .i64 0, .int .i64 0, .int .i64 0, .slice none 0 0] 26)) = wA at *
  refine HLL.out.mono ?_
  rintro e w1 ⟨v, rfl, hsl, hb2⟩
  replace q2 := q2.bel hb2
  have hB := hb1.trans hb2
  clear HLL hb1 hb2
  by_cases her : er = 0
  · subst her
    have hP1 := hPF.out
    rw [if_neg (fun h => h rfl)] at hP1
    have HP1 := Lib.hid hP1
    clear hPF hP1
    have hE1 := hE.bel hB
    have hqp := Blk.new w1 #[.int .i64 0, .int .i64 0, .int .i64 0, .slice none 0 0, .bool false, .slice none 0 0, .slice none 0 0] 275
    have hbp : Bel w1 (w1.alloc (.cells #[.int .i64 0, .int .i64 0, .int .i64 0, .slice none 0 0, .bool false, .slice none 0 0, .slice none 0 0] 275)) := (Bel.refl w1).alloc _
    have hwd := words172 w1.heap.size (w1.alloc (.cells #[.int .i64 0, .int .i64 0, .int .i64 0, .slice none 0 0, .bool false, .slice none 0 0, .slice none 0 0] 275)) (hE1.bel hbp)
    obtain ⟨a, c, rfl, hc1, hc2, hline⟩ := hsl.line
    go_wp2_with fail
    refine hwd.mono ?_
    rintro e w2 ⟨bm, rfl, hbm, hmap, hb3⟩
    replace hqp := hqp.bel hb3
    have hbw2 := hbp.trans hb3
    clear hwd hbp hb3
    have hP0 : PsAt w2 w1 w2 w2 w1.heap.size ps0 := ⟨⟨hbw2, fun _ _ h => h⟩, Nat.le_refl _, TFr.refl _ _ _, hbw2, .slice none 0 0, .slice none 0 0, .slice none 0 0, [], hqp, World.ownsRow_nil _ _ _ _, fun k r hk => by simp [ps0] at hk, fun k r hk => by simp [ps0] at hk, World.ownsRow_nil _ _ _ _, World.ownsRow_nil _ _ _ _, fun g h => by simp [Value.ownBlock] at h⟩
    have HL := Lib.hid hline
    have HF := Lib.hid hfine
    have hlm : ls.length ≤ 9223372036854775807 := by omega
    generalize hBp : w1.heap.size = Bp at *
    clear hline hfine hqp
    go_wp2_with fail
    go_loopw [33] (LinAt w1 Bp bm ls) (fun x _ => ls.length - (intOf x).toNat)
    case atStart => exact ⟨0, w2, w2, ps0, Nat.zero_le _, rfl, rfl, ps0_in, hmap, hP0⟩
    case round =>
      clear hP0 hmap hbw2
      obtain ⟨k, Wk, W1, p, hk, rfl, hrun, hin, hmap, hP⟩ := hrel
      by_cases hlt : k < ls.length
      · have hg := List.getElem?_eq_getElem hlt
        obtain ⟨b, off, au, cu, rfl, d0, d1, hLE⟩ := HL.out k _ hg
        have hfk := HF.out _ (List.mem_of_getElem? hg)
        have htk := take_line hg
        have hdrop : ls = ls.take (k + 1) ++ ls.drop (k + 1) := (List.take_append_drop _ _).symm
        generalize ls[k] = l at *
        have hsn := runF_snoc (ls.take k) ps0 p l hrun
        rw [← htk] at hsn
        have k0 := hP.bel.cell d0
        have k1 := hP.bel.cell d1
        have hbl : Bel wr (wr.alloc (.cells #[.int .i64 l.n, .slice au l.words.length cu] 278)) := (Bel.refl wr).alloc _
        have hP2 := (hP.to hbl).now
        have hca := line_any _ w1 W1 (wr.alloc (.cells #[.int .i64 l.n, .slice au l.words.length cu] 278)) Bp bm p l _ hE1 hP2 hin hmap hLE hfk
        have qln : Blk (wr.alloc (.cells #[.int .i64 l.n, .slice au l.words.length cu] 278)) wr.heap.size #[.int .i64 l.n, .slice au l.words.length cu] 278 := Blk.new wr _ _
        have hsin := fun h => stepF_in (l := l) hin h
        obtain ⟨ST, hST⟩ : ∃ ST, ST = stepF p l := ⟨_, rfl⟩
        rw [← hST] at hca hsn hsin
        obtain ⟨er, p'⟩ := ST
        dsimp only at hsn hsin
        have hkc : (k : Int) ≤ (c : Int) := by omega
        have HSN := Lib.hid hsn
        have HDR := Lib.hid hdrop
        have HTK := Lib.hid htk
        have HRN := Lib.hid hrun
        have HIN := Lib.hid hsin
        have HG := Lib.hid hg
        have hbr := hP.bel
        clear hST hsn hdrop hrun hsin hg htk hP2 d0 d1 hfk hLE
        go_wp2_with fail
        refine hca.mono ?_
        rintro e w3 ⟨rfl, hb3, hgo⟩
        dsimp only at hgo
        clear hca k0 k1
        by_cases her : er = 0
        · subst her
          obtain ⟨W2, hmk, hP3⟩ := hgo rfl
          clear hgo
          go_wp2_with fail
          go_roundw
          case rel => exact ⟨k + 1, _, W2, p', by omega, by go_num, by rw [HSN.out]; simp, HIN.out (by first | exact trivial | rfl), hmk.at hmap, hP3⟩
          case measure => simp [intOf]; omega
        · have hz1 : (er == 0) = false := by simpa using her
          have hz2 : (er != 0) = true := by simpa using her
          have hbad : PF = ⟨lad0, [], l.n, er⟩ := by
            have := HSN.out
            rw [if_pos her] at this
            rw [HP1.out, HDR.out, runF_stop _ _ _ _ _ this]
          have HP := Lib.hid hbad
          have Her := Lib.hid her
          have hBw := hB.trans hb3.bel
          have ql3 := hb3.kp _ _ qln
          have hlt0 := q2.lt
          have hls := hbr.size
          have hne0 : w.heap.size ≠ wr.heap.size := by omega
          have hne1 : ¬ wr.heap.size = w.heap.size := by omega
          have hne2 : ¬ w.heap.size = wr.heap.size := by omega
          have q23 := q2.bel hb3.bel
          have k0 := ql3.cell 0 rfl
          have c0 := q23.cell 0 rfl; have c1 := q23.cell 1 rfl; have c2 := q23.cell 2 rfl; have c3 := q23.cell 3 rfl
          have f0 := q23.frozen 0; have f1 := q23.frozen 1; have f2 := q23.frozen 2; have f3 := q23.frozen 3
          obtain ⟨z, hz, _⟩ := res4 q23 hBw (Nat.le_refl _) (.int .i64 0) (.int .i64 0) (.int .i64 0) (.slice none 0 0)
          clear hbad her hgo hb3 hmap hP qln hbl hbr
          go_wp2_with fail
          go_region
          all_goals go_wp2_with fail
          all_goals
            have z1 := z.bel (Bel.refl _).drew
            have y0 := z1.cell 0 rfl; have y1 := z1.cell 1 rfl; have y2 := z1.cell 2 rfl; have y3 := z1.cell 3 rfl
            exact bodyPost_ret (v := .tuple #[.agg #[.int .i64 0, .int .i64 0, .int .i64 0, .slice none 0 0], .slice none 0 0, .int .i64 l.n, .int .i64 er]) (by simp [results, Tryz.results141, go_sem, y0, y1, y2, y3]) rfl (ParPost.bad HP.out hz.drew)
      · obtain rfl : k = ls.length := by omega
        rw [List.take_length] at hrun
        have hF := HP1.out
        rw [hrun] at hF
        dsimp only at hF
        have HPF := Lib.hid hF
        clear hF hrun HP1
        obtain ⟨vr, vl, vj, cs, q, ho, h1, h2, hlin, hjmp, hsep⟩ := hP.ex
        have hold := PsAt.read hP.fr hP.bel1 ho h1 h2
        have hSl := rungs_read ho hold
        have hBw := hB.trans hP.bel.bel
        have hw1r := hP.bel.size
        have q2r := q2.bel hP.bel.bel
        have hinj := hin.jmp
        have h64 := hin.ok.rungs
        have HPI := Lib.hid hinj
        have hlt0 := q2.lt
        have hBpb := hP.base
        clear h1 h2 hP hmap hsep hinj hin q2
        obtain ⟨Ar, cr, rfl, hcr1, hcr2⟩ := own_slice ho
        obtain ⟨Al, cll, rfl, _⟩ := own_slice hlin
        obtain ⟨Aj, cj, rfl, _⟩ := own_slice hjmp
        have hne0 : w.heap.size ≠ Bp := by omega
        have hne1 : ¬ Bp = w.heap.size := by omega
        have hne2 : ¬ w.heap.size = Bp := by omega
        obtain ⟨WA, rfl⟩ : ∃ WA : World, WA = wr := ⟨_, rfl⟩
        cases hsz : p.sized with
        | false =>
          have HP := Lib.hid (show PF = ⟨lad0, [], 0, 5⟩ by rw [HPF.out]; unfold finF; rw [if_pos hsz])
          rw [hsz] at q
          have p4 := q.cell 4 rfl
          have c0 := q2r.cell 0 rfl; have c1 := q2r.cell 1 rfl; have c2 := q2r.cell 2 rfl; have c3 := q2r.cell 3 rfl
          have f0 := q2r.frozen 0; have f1 := q2r.frozen 1; have f2 := q2r.frozen 2; have f3 := q2r.frozen 3
          obtain ⟨z, hz, _⟩ := res4 q2r hBw (Nat.le_refl _) (.int .i64 0) (.int .i64 0) (.int .i64 0) (.slice none 0 0)
          clear hsz HPF
          go_wp2_with fail
          have y0 := z.cell 0 rfl; have y1 := z.cell 1 rfl; have y2 := z.cell 2 rfl; have y3 := z.cell 3 rfl
          exact bodyPost_ret (v := .tuple #[.agg #[.int .i64 0, .int .i64 0, .int .i64 0, .slice none 0 0], .slice none 0 0, .int .i64 0, .int .i64 5]) (by simp [results, Tryz.results141, go_sem, y0, y1, y2, y3]) rfl (ParPost.bad HP.out hz)
        | true =>
          have HP := Lib.hid (show PF = finJ p ((List.range p.rungs.length).find? (badJ p.rungs)) by rw [HPF.out]; unfold finF; rw [if_neg (by rw [hsz]; simp)])
          rw [hsz] at q
          have p4 := q.cell 4 rfl
          have p3 := q.cell 3 rfl
          have hcr3 : (p.rungs.length : Int) ≤ (cr : Int) := by omega
          clear hsz HPF
          go_wp2_with fail
          go_loopw [60] (JmpAt WA p.rungs) (fun x _ => p.rungs.length - (intOf x).toNat)
          case atStart => exact ⟨0, Nat.zero_le _, rfl, fun j h => absurd h (Nat.not_lt_zero _), Bel.refl _⟩
          case round =>
            obtain ⟨k, hk, rfl, hall, hbA⟩ := hrel
            have HALL := Lib.hid hall
            clear hall p3 p4
            by_cases hlt : k < p.rungs.length
            · have hg := List.getElem?_eq_getElem hlt
              have hSb := hSl.bel RungE.mono hbA
              obtain ⟨b, off, vc, vo, rfl, hvc, hvo, c0, c1, c2, c3⟩ := hSb.rung hg
              obtain ⟨ac, cc, rfl, _⟩ := hvc.ex
              obtain ⟨ao, co, rfl, _⟩ := hvo.ex
              have hbad : badJ p.rungs k = ((p.rungs[k].jump.size != 0) && !((p.rungs.drop (k + 1)).any fun x => decide (x.label = p.rungs[k].jump))) := by unfold badJ; rw [hg]
              have hjx : p.jumps.getD k 0 = p.jumps[k]'(by have := HPI.out; omega) := by rw [List.getD_eq_getElem?_getD, List.getElem?_eq_getElem]; rfl
              obtain ⟨gj, rfl⟩ : ∃ gj, Aj = some ⟨gj, 0, none⟩ := by
                have := HPI.out
                rcases hjmp.2 with ⟨_, h0⟩ | ⟨g, cap, cur, e, _⟩
                · omega
                · injection e with e1; exact ⟨g, e1⟩
              have hjc := (own_cell hjmp k (ints_at (by have := HPI.out; omega))).1
              rw [← hjx] at hjc
              generalize hjv : p.jumps.getD k 0 = jv at *
              generalize p.rungs[k] = r at *
              obtain ⟨lb, ct, os, jp⟩ := r
              dsimp only at *
              have HBAD := Lib.hid hbad
              have HJV := Lib.hid hjv
              clear hvc hvo hg hbad hjx hjv
              generalize ct.length = nc at *
              generalize os.length = no at *
              have hnext : badJ p.rungs k = false → ∀ j, j < k + 1 → badJ p.rungs j = false := fun h j hj => by
                rcases Nat.lt_or_ge j k with h1 | h1
                · exact HALL.out j h1
                · obtain rfl : j = k := by omega
                  exact h
              have HNX := Lib.hid hnext
              clear hnext
              by_cases hjz : jp.size = 0
              · have hb0 : badJ p.rungs k = false := by rw [HBAD.out]; simp [hjz]
                have hall2 := HNX.out hb0
                obtain ⟨n0, n1⟩ := strZ hjz
                have HA2 := Lib.hid hall2
                clear hall2 hb0 hjz
                go_wp2_with fail
                go_roundw
                case rel => exact ⟨k + 1, by omega, by go_num, HA2.out, hbA.alloc _⟩
                case measure => simp [intOf]; omega
              · obtain ⟨n0, n1⟩ := strNe hjz
                have hbn : badJ p.rungs k = !((p.rungs.drop (k + 1)).any fun x => decide (x.label = jp)) := by rw [HBAD.out]; simp [hjz]
                have HBN := Lib.hid hbn
                have hp3 : ∀ o, (wr.alloc o).cell? ⟨Bp, 3, none⟩ = some (.slice (some ⟨b, off, none⟩) p.rungs.length cr) := fun o => ((q.bel hbA).alloc o).cell 3 rfl
                have hcl : ∀ v, SlAt RungE 4 wr v (p.rungs.drop (k + 1)) → Calls Tryz.prog 97 #[v, .func (.func 174) #[] #[.pointer (some ⟨wr.heap.size, 0, none⟩)]] (wr.alloc (.cells #[.string lb, .slice ac nc cc, .slice ao no co, .string jp] 33)) fun e w' => e = .returned (.bool ((p.rungs.drop (k + 1)).any fun x => decide (x.label = jp))) ∧ Bel (wr.alloc (.cells #[.string lb, .slice ac nc cc, .slice ao no co, .string jp] 33)) w' := fun v hv =>
                  cont_174 wr.heap.size jp (p.rungs.drop (k + 1)) v _ (hv.bel RungE.mono ((Bel.refl wr).alloc _)) ((Blk.new wr #[.string lb, .slice ac nc cc, .slice ao no co, .string jp] 33).cell 3 rfl)
                have hmf : ∀ (fn : Fn) (first cap : Array Value) (w : World), (Instr.makeFunc fn first cap).run Tryz.prog w = .ok (.func fn first cap) w := fun _ _ _ _ => rfl
                have hbal : Bel WA (wr.alloc (.cells #[.string lb, .slice ac nc cc, .slice ao no co, .string jp] 33)) := hbA.alloc _
                clear hbn hjz
                by_cases hkc : k + 1 < cr
                · have hcall := hcl _ (hSb.drop (k + 1) (by omega))
                  clear hcl
                  have hkc1 : (k : Int) + 1 ≤ (cr : Int) := by omega
                  have hkc2 : (k : Int) + 1 < (cr : Int) := by omega
                  go_wp2_with fail
                  refine hcall.mono ?_
                  rintro e w3 ⟨rfl, hb3⟩
                  have hbA3 := hbal.trans hb3
                  have qb := q.bel hbA3
                  have q2b := q2r.bel hbA3
                  clear hcall hp3
                  cases hany : (p.rungs.drop (k + 1)).any fun x => decide (x.label = jp) with
                  | true =>
                    have hb0 : badJ p.rungs k = false := by rw [HBN.out, hany]; rfl
                    have hall2 := HNX.out hb0
                    have HA2 := Lib.hid hall2
                    clear hall2 hb0 hany
                    go_wp2_with fail
                    go_roundw
                    case rel => exact ⟨k + 1, by omega, by go_num, HA2.out, hbA3⟩
                    case measure => simp [intOf]; omega
                  | false =>
                    have hb1 : badJ p.rungs k = true := by rw [HBN.out, hany]; rfl
                    have hfin : PF = ⟨lad0, [], jv, 15⟩ := by
                      rw [HP.out]
                      have : (List.range p.rungs.length).find? (badJ p.rungs) = some k := find_first hlt (fun j hj => HALL.out j hj) hb1
                      rw [this]
                      show (⟨lad0, [], p.jumps.getD k 0, 15⟩ : PRes) = _
                      rw [HJV.out]
                    have HFI := Lib.hid hfin
                    have d6 := qb.cell 6 rfl
                    have dj := hbA3.cell hjc
                    have c0 := q2b.cell 0 rfl; have c1 := q2b.cell 1 rfl; have c2 := q2b.cell 2 rfl; have c3 := q2b.cell 3 rfl
                    have f0 := q2b.frozen 0; have f1 := q2b.frozen 1; have f2 := q2b.frozen 2; have f3 := q2b.frozen 3
                    have hgj : ¬ w.heap.size = gj := fun e => by
                      rcases hjmp.2 with ⟨e1, _⟩ | ⟨_, _, _, e1, hb, _⟩
                      · cases e1
                      · injection e1 with e1; injection e1 with e1; injection e1 with e1; omega
                    have hgj2 : ¬ gj = w.heap.size := fun e => hgj e.symm
                    have hkj : k < p.jumps.length := by have := HPI.out; omega
                    have hkj2 : (k : Int) < (p.jumps.length : Int) := by omega
                    obtain ⟨z, hz, _⟩ := res4 q2b (hBw.trans hbA3) (Nat.le_refl _) (.int .i64 0) (.int .i64 0) (.int .i64 0) (.slice none 0 0)
                    clear hany hfin hb1 hjc
                    go_wp2_with fail
                    go_region
                    all_goals go_wp2_with fail
                    all_goals
                      have z1 := z.bel (Bel.refl _).drew
                      have y0 := z1.cell 0 rfl; have y1 := z1.cell 1 rfl; have y2 := z1.cell 2 rfl; have y3 := z1.cell 3 rfl
                      exact bodyPost_ret (v := .tuple #[.agg #[.int .i64 0, .int .i64 0, .int .i64 0, .slice none 0 0], .slice none 0 0, .int .i64 jv, .int .i64 15]) (by simp [results, Tryz.results141, go_sem, y0, y1, y2, y3]) rfl (ParPost.bad HFI.out hz.drew)
                · have hcall := hcl (.slice (some ⟨b, off, none⟩) 0 0) ⟨_, 0, by rw [List.drop_eq_nil_of_le (by omega)]; rfl, by rw [List.drop_eq_nil_of_le (by omega)]; simp, by omega, fun i x hi => by rw [List.drop_eq_nil_of_le (by omega)] at hi; cases hi⟩
                  obtain rfl : cr = k + 1 := by omega
                  have hkl : p.rungs.length = k + 1 := by omega
                  clear hcl
                  have hkc1 : (k : Int) + 1 ≤ ((k + 1 : Nat) : Int) := by omega
                  clear hkl
                  go_wp2_with fail
                  refine hcall.mono ?_
                  rintro e w3 ⟨rfl, hb3⟩
                  have hbA3 := hbal.trans hb3
                  have qb := q.bel hbA3
                  have q2b := q2r.bel hbA3
                  clear hcall hp3
                  cases hany : (p.rungs.drop (k + 1)).any fun x => decide (x.label = jp) with
                  | true =>
                    have hb0 : badJ p.rungs k = false := by rw [HBN.out, hany]; rfl
                    have hall2 := HNX.out hb0
                    have HA2 := Lib.hid hall2
                    clear hall2 hb0 hany
                    go_wp2_with fail
                    go_roundw
                    case rel => exact ⟨k + 1, by omega, by go_num, HA2.out, hbA3⟩
                    case measure => simp [intOf]; omega
                  | false =>
                    have hb1 : badJ p.rungs k = true := by rw [HBN.out, hany]; rfl
                    have hfin : PF = ⟨lad0, [], jv, 15⟩ := by
                      rw [HP.out]
                      have : (List.range p.rungs.length).find? (badJ p.rungs) = some k := find_first hlt (fun j hj => HALL.out j hj) hb1
                      rw [this]
                      show (⟨lad0, [], p.jumps.getD k 0, 15⟩ : PRes) = _
                      rw [HJV.out]
                    have HFI := Lib.hid hfin
                    have d6 := qb.cell 6 rfl
                    have dj := hbA3.cell hjc
                    have c0 := q2b.cell 0 rfl; have c1 := q2b.cell 1 rfl; have c2 := q2b.cell 2 rfl; have c3 := q2b.cell 3 rfl
                    have f0 := q2b.frozen 0; have f1 := q2b.frozen 1; have f2 := q2b.frozen 2; have f3 := q2b.frozen 3
                    have hgj : ¬ w.heap.size = gj := fun e => by
                      rcases hjmp.2 with ⟨e1, _⟩ | ⟨_, _, _, e1, hb, _⟩
                      · cases e1
                      · injection e1 with e1; injection e1 with e1; injection e1 with e1; omega
                    have hgj2 : ¬ gj = w.heap.size := fun e => hgj e.symm
                    have hkj : k < p.jumps.length := by have := HPI.out; omega
                    have hkj2 : (k : Int) < (p.jumps.length : Int) := by omega
                    obtain ⟨z, hz, _⟩ := res4 q2b (hBw.trans hbA3) (Nat.le_refl _) (.int .i64 0) (.int .i64 0) (.int .i64 0) (.slice none 0 0)
                    clear hany hfin hb1 hjc
                    go_wp2_with fail
                    go_region
                    all_goals go_wp2_with fail
                    all_goals
                      have z1 := z.bel (Bel.refl _).drew
                      have y0 := z1.cell 0 rfl; have y1 := z1.cell 1 rfl; have y2 := z1.cell 2 rfl; have y3 := z1.cell 3 rfl
                      exact bodyPost_ret (v := .tuple #[.agg #[.int .i64 0, .int .i64 0, .int .i64 0, .slice none 0 0], .slice none 0 0, .int .i64 jv, .int .i64 15]) (by simp [results, Tryz.results141, go_sem, y0, y1, y2, y3]) rfl (ParPost.bad HFI.out hz.drew)
            · obtain rfl : k = p.rungs.length := by omega
              have hfin : PF = ⟨⟨p.i, p.q, p.m, p.rungs⟩, p.lines, 0, 0⟩ := by
                rw [HP.out]
                have : (List.range p.rungs.length).find? (badJ p.rungs) = none := by
                  rw [List.find?_eq_none]
                  intro j hj
                  rw [HALL.out j (List.mem_range.1 hj)]
                  simp
                rw [this]
                rfl
              have HFI := Lib.hid hfin
              have qb := q.bel hbA
              have q2b := q2r.bel hbA
              have d0 := qb.cell 0 rfl; have d1 := qb.cell 1 rfl; have d2 := qb.cell 2 rfl; have d3 := qb.cell 3 rfl; have d5 := qb.cell 5 rfl
              have c0 := q2b.cell 0 rfl; have c1 := q2b.cell 1 rfl; have c2 := q2b.cell 2 rfl; have c3 := q2b.cell 3 rfl
              have f0 := q2b.frozen 0; have f1 := q2b.frozen 1; have f2 := q2b.frozen 2; have f3 := q2b.frozen 3
              obtain ⟨z, hz, tz⟩ := res4 q2b (hBw.trans hbA) (Nat.le_refl _) (.int .i64 p.i) (.int .i64 p.q) (.int .i64 p.m) (.slice Ar p.rungs.length cr)
              clear hfin HALL HP
              go_wp2_with fail
              go_region
              all_goals go_wp2_with fail
              all_goals
                have z1 := z.bel (Bel.refl _).drew
                have y0 := z1.cell 0 rfl; have y1 := z1.cell 1 rfl; have y2 := z1.cell 2 rfl; have y3 := z1.cell 3 rfl
                have tz1 := tz.bel (Bel.refl _).drew
                refine bodyPost_ret (v := .tuple #[.agg #[.int .i64 p.i, .int .i64 p.q, .int .i64 p.m, .slice Ar p.rungs.length cr], .slice Al p.lines.length cll, .int .i64 0, .int .i64 0]) (by simp [results, Tryz.results141, go_sem, y0, y1, y2, y3]) rfl ?_
                rw [HFI.out]
                refine ⟨_, _, rfl, fun w'' hw'' => ⟨?_, ?_⟩, hz.drew⟩
                · exact rungs_read (own_hang (own_tfr (own_bel ho hbA) tz1 (by decide)) hB.size hw'') fun i r hr => let ⟨c4, h1, h2⟩ := hold i r hr; ⟨c4, ((h1.bel hbA).tfr tz1 (by decide) (by decide)).hang hB.size hw'', h2⟩
                · exact own_read (f := intC) (fun _ => rfl) (own_hang (own_tfr (own_bel hlin hbA) tz1 (by decide)) hB.size hw'') rfl _ (fun _ _ => rfl)
  · have HP := Lib.hid (show PF = ⟨lad0, [], at_, er⟩ by rw [hPF.out, if_pos her])
    have hz2 : (er != 0) = true := by simpa using her
    have hz1 : (er == 0) = false := by simpa using her
    have c0 := q2.cell 0 rfl; have c1 := q2.cell 1 rfl; have c2 := q2.cell 2 rfl; have c3 := q2.cell 3 rfl
    have f0 := q2.frozen 0; have f1 := q2.frozen 1; have f2 := q2.frozen 2; have f3 := q2.frozen 3
    have Her := Lib.hid her
    clear hPF her
    go_wp2_with fail
    obtain ⟨z, hz, _⟩ := res4 q2 hB (Nat.le_refl _) (.int .i64 0) (.int .i64 0) (.int .i64 0) (.slice none 0 0)
    have y0 := z.cell 0 rfl; have y1 := z.cell 1 rfl; have y2 := z.cell 2 rfl; have y3 := z.cell 3 rfl
    exact bodyPost_ret (v := .tuple #[.agg #[.int .i64 0, .int .i64 0, .int .i64 0, .slice none 0 0], .slice none 0 0, .int .i64 at_, .int .i64 er]) (by simp [results, Tryz.results141, go_sem, y0, y1, y2, y3]) rfl (ParPost.bad HP.out hz)
end Go.Proofs.YtbgilebgdbgddaaGreatDoor
