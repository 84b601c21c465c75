/- The lexer: a text's lines of words, or its first line with a bad byte. Condition: the text's size at most 2^30. -/
import Derived.Test.YtbgilebgdbgddaaGreatDoorLit
import Derived.Maps.AppendAt
set_option linter.unusedVariables false
set_option linter.unusedSimpArgs false
namespace Go.Proofs.YtbgilebgdbgddaaGreatDoor
open Go.RowKit Go.Shelf
attribute [local go_sem] Oper.semAt_some

def wordsOf (s : ByteArray) : List ByteArray := (Lib.fields s.data.toList).map fun l => ⟨l.toArray⟩
def lineOf (x : Nat × ByteArray) : Option Line := if (wordsOf x.2).isEmpty then none else some ⟨x.1, wordsOf x.2⟩
def pairsF (text : ByteArray) : List (Nat × ByteArray) := (List.range (linesOf text).length).map fun j => (j + 1, cutC ((linesOf text).getD j .empty))
def linesF (text : ByteArray) : List Line × Int × Int :=
  if 65536 < text.size then ([], 0, 7) else
  match (pairsF text).find? fun x => !plainB x.2 with
  | some x => ([], x.1, 6)
  | none => ((pairsF text).filterMap lineOf, 0, 0)
def colX (pre : List LX) : List Line := (pre.map Subtype.val).filterMap lineOf
theorem colX_hit (pre : List LX) (x : LX) (h : wordsOf x.1.2 ≠ []) : colX (pre ++ [x]) = colX pre ++ [⟨x.1.1, wordsOf x.1.2⟩] := by
  simp [colX, lineOf, h, List.filterMap_append]
theorem colX_miss (pre : List LX) (x : LX) (h : wordsOf x.1.2 = []) : colX (pre ++ [x]) = colX pre := by
  simp [colX, lineOf, h, List.filterMap_append]
theorem colX_le (pre : List LX) : (colX pre).length ≤ pre.length := by
  have := List.length_filterMap_le lineOf (pre.map Subtype.val)
  simpa [colX] using this
def WordsAt (W : World) (v : Value) (ws : List ByteArray) : Prop := ∃ b, v = .slice (some ⟨b, 0, none⟩) ws.length ws.length ∧ Blk W b (ws.map Value.string).toArray 9
theorem WordsAt.ck {W W' : World} {v : Value} {ws : List ByteArray} (h : WordsAt W v ws) (k : CK W W') : WordsAt W' v ws := let ⟨b, e, hb⟩ := h; ⟨b, e, hb.ck k⟩
theorem WordsAt.kp {W W' : World} {v : Value} {ws : List ByteArray} (h : WordsAt W v ws) (k : KpS W W') : WordsAt W' v ws := let ⟨b, e, hb⟩ := h; ⟨b, e, k.1 _ _ hb⟩
theorem WordsAt.read {W : World} {v : Value} {ws : List ByteArray} (h : WordsAt W v ws) (hl : ws.length ≤ 9223372036854775807) : SlAt StrE 1 W v ws := by
  obtain ⟨b, rfl, hb⟩ := h
  refine ⟨_, _, rfl, Nat.le_refl _, hl, fun i x hi => ⟨b, 0, _, rfl, rfl, rfl, fun j u hu => ?_⟩⟩
  have hj : j = 0 := by
    have := (List.getElem?_eq_some_iff.1 hu).1
    simp at this; omega
  subst hj
  simp at hu
  subst hu
  exact hb.cell _ (by simp [hi])
def LinesCs (W : World) (ls : List Line) (cs : List Value) : Prop := ∀ (k : Nat) (l : Line), ls[k]? = some l → ∃ v, cs[k * 2]? = some (.int .i64 l.n) ∧ cs[k * 2 + 1]? = some v ∧ WordsAt W v l.words
theorem LinesCs.kp {W W' : World} {ls : List Line} {cs : List Value} (h : LinesCs W ls cs) (k : KpS W W') : LinesCs W' ls cs := fun i l hl => let ⟨v, h1, h2, h3⟩ := h i l hl; ⟨v, h1, h2, h3.kp k⟩
theorem LinesCs.snoc {W : World} {ls : List Line} {cs : List Value} (h : LinesCs W ls cs) (hc : cs.length = ls.length * 2) {n : Int} {v : Value} {ws : List ByteArray} (hv : WordsAt W v ws) : LinesCs W (ls ++ [⟨n, ws⟩]) (cs ++ [.int .i64 n, v]) := by
  intro k l hl
  rcases Nat.lt_or_ge k ls.length with hk | hk
  · rw [List.getElem?_append_left hk] at hl
    obtain ⟨u, h1, h2, h3⟩ := h k l hl
    exact ⟨u, by rw [List.getElem?_append_left (by omega)]; exact h1, by rw [List.getElem?_append_left (by omega)]; exact h2, h3⟩
  · rw [List.getElem?_append_right hk] at hl
    obtain ⟨h0, hl0⟩ := List.getElem?_eq_some_iff.1 hl
    simp at h0
    obtain rfl : k = ls.length := by omega
    simp at hl0
    subst hl0
    refine ⟨v, ?_, ?_, hv⟩
    · rw [List.getElem?_append_right (by omega), hc]; simp
    · rw [List.getElem?_append_right (by omega), hc]; simp
/-- Between two rounds. -/
structure LnsAt (w0 : World) (pre : List LX) (W : World) : Prop where
  bel : Bel w0 W
  plain : ∀ x ∈ pre, plainB x.1.2 = true
  box : ∃ v cs, Blk W (w0.heap.size + 3) #[v] 270 ∧ W.ownsRow w0.heap.size 278 2 v (colX pre).length cs ∧ LinesCs W (colX pre) cs
  r2 : Blk W w0.heap.size #[.slice none 0 0] 270
  r3 : Blk W (w0.heap.size + 1) #[.int .i64 0] 3
  r4 : Blk W (w0.heap.size + 2) #[.int .i64 0] 45
/-- A round has left. -/
structure LnsBad (w0 : World) (c : Code) (pre : List LX) (W : World) : Prop where
  ret : c = .ret
  bel : Bel w0 W
  bad : ∃ q x, pre = q ++ [x] ∧ (∀ y ∈ q, plainB y.1.2 = true) ∧ plainB x.1.2 = false ∧ Blk W (w0.heap.size + 1) #[.int .i64 (x.1.1 : Int)] 3
  r2 : Blk W w0.heap.size #[.slice none 0 0] 270
  r4 : Blk W (w0.heap.size + 2) #[.int .i64 6] 45
theorem Bel.turn {w0 W W' : World} {row : Option Nat} (h : Bel w0 W) (hg : W.grownBy W' row) (hr : ∀ r, row = some r → w0.heap.size ≤ r) : Bel w0 W' :=
  ⟨hg.os.trans h.os, hg.tape.trans h.tape, hg.output.trans h.output, Nat.le_trans h.size hg.size, fun k hk => (hg.block k (Nat.lt_of_lt_of_le hk h.size) (fun e => by have := hr k e.symm; omega)).trans (h.block k hk)⟩
theorem LnsAt.own (w0 : World) (B : Nat) (hB : w0.heap.size ≤ B) : OwnFrom B (LnsAt w0) := fun s W W' row h hg hr => by
  have ck := CK.of_grown hg (fun r e => (hr r e).2)
  obtain ⟨v, cs, hb, ho, hl⟩ := h.box
  exact ⟨h.bel.turn hg (fun r e => Nat.le_trans hB (hr r e).1), h.plain, ⟨v, cs, hb.ck ck, own_ck ho ck, hl.kp (KpS.of_ck ck)⟩, h.r2.ck ck, h.r3.ck ck, h.r4.ck ck⟩
theorem LnsBad.own (w0 : World) (B : Nat) (hB : w0.heap.size ≤ B) (c : Code) : OwnFrom B (LnsBad w0 c) := fun s W W' row h hg hr => by
  have ck := CK.of_grown hg (fun r e => (hr r e).2)
  obtain ⟨q, x, e, h1, h2, h3⟩ := h.bad
  exact ⟨h.ret, h.bel.turn hg (fun r e => Nat.le_trans hB (hr r e).1), ⟨q, x, e, h1, h2, h3.ck ck⟩, h.r2.ck ck, h.r4.ck ck⟩
/-- What a round owes, out of the frame by types. -/
theorem tfr_from {T : List TypeId} {W W' : World} (h : TFr T 0 W W') (B : Nat) : KeepsFrom B W W' :=
  ⟨h.size, fun k o _ hk ho => (h.block k (Array.getElem?_eq_some_iff.1 hk).1 (.inr (by rw [hk]; intro hy; cases o <;> first | exact hy | (simp [Obj.isCells] at ho)))).trans hk⟩
theorem tfr_kp {T : List TypeId} {W W' : World} (h : TFr T 0 W W') (h9 : 9 ∉ T) (hE : Env W') : KpS W W' := ⟨fun n cs hb => h.blk hb (.inr h9), fun _ => hE⟩
theorem counts_stops (n : Nat) (hn : 1 ≤ n) (Bt : Nat) (text : ByteArray) (hsz : text.size ≤ 65536) (hL : ∀ x ∈ linesOf text, x.size ≤ 65536) (w : World) (hBt : w.cell? ⟨Bt, 0, none⟩ = some (.string text)) (hE : Env w) :
    SeqStopsK Fence.wide n Tryz.prog 219 #[.pointer (some ⟨Bt, 0, none⟩)] encX KpS (fun ys => ys = uptoN (lineAt (linesOf text) hL) (linesOf text).length) (fun pre => ∃ k, k ≤ (linesOf text).length ∧ pre = uptoN (lineAt (linesOf text) hL) k) (linesOf text).length w := fun l J Jx W hW hJ _ hY h0 =>
  counts219 n hn l Bt text hsz hL J Jx (fun s W o h => hJ s W _ none h (World.grownBy_alloc W o none) (fun r e => by cases e)) (fun s W k h => hJ s W _ none h ⟨rfl, rfl, rfl, Nat.le_refl _, fun _ _ _ => rfl⟩ (fun r e => by cases e)) hY W (Bel.cell hW hBt) (hE.bel hW) h0
theorem counts200 (text : ByteArray) (w : World) : Calls Tryz.prog 200 #[.string text] w fun e w' => e = .returned (.func (.func 219) #[] #[.pointer (some ⟨w.heap.size, 0, none⟩)]) ∧ w' = w.alloc (.cells #[.string text] 9) := by
  refine (callsIn_wide (n := 3)).1 ?_
  refine callsIn_of_wp Tryz.func200 rfl trivial ?_ rfl
  simp only [Tryz.ntmps200, List.size_toArray, List.length_cons, List.length_nil, Nat.reduceAdd, Nat.reduceSub, Array.replicate_succ, Array.replicate_zero, List.push_toArray, List.append_toArray, List.nil_append, List.cons_append]
  gi_wp2
  go_ret
  exact ⟨rfl, rfl⟩
theorem plain_ascii {s : ByteArray} (h : plainB s = true) (j : Nat) (b : UInt8) (hj : s.data.toList[j]? = some b) : b.toNat < 128 := by
  unfold plainB at h
  rw [List.all_eq_true] at h
  have := h b (List.mem_of_getElem? hj)
  simp [plainC] at this
  omega
theorem fields202 (s : ByteArray) (w : World) (hs : s.size ≤ 65536) (hp : plainB s = true) (hE : Env w) : Calls Tryz.prog 202 #[.string s] w fun e w' => ∃ v, e = .returned v ∧ v = .slice (some ⟨w.heap.size, 0, none⟩) (wordsOf s).length (wordsOf s).length ∧ w' = w.alloc (.cells ((wordsOf s).map Value.string).toArray 9) := by
  refine (Tryz.strings_Fields s w (by omega) (plain_ascii hp) hE.space).mono ?_
  rintro e w' ⟨rfl, rfl⟩
  exact ⟨_, rfl, by simp [wordsOf], by simp [wordsOf, Function.comp_def]⟩
theorem fieldsGo_len : ∀ (l acc : List UInt8), (Lib.fieldsGo acc l).length ≤ l.length + 1 ∧ ∀ x ∈ Lib.fieldsGo acc l, x.length ≤ acc.length + l.length
  | [], acc => by
    unfold Lib.fieldsGo
    split <;> simp
  | b :: l, acc => by
    unfold Lib.fieldsGo
    have h0 := fieldsGo_len l []
    have h1 := fieldsGo_len l (acc ++ [b])
    split
    · split
      · refine ⟨by simp; omega, fun x hx => ?_⟩
        have := h0.2 x hx
        simp at this ⊢; omega
      · refine ⟨by simp; omega, fun x hx => ?_⟩
        rcases List.mem_cons.1 hx with rfl | hx
        · simp
        · have := h0.2 x hx
          simp at this ⊢; omega
    · refine ⟨by simp; omega, fun x hx => ?_⟩
      have := h1.2 x hx
      simp at this ⊢; omega
theorem words_small (s : ByteArray) (x : ByteArray) (h : x ∈ wordsOf s) : x.size ≤ s.size := by
  unfold wordsOf Lib.fields at h
  obtain ⟨l, hl, rfl⟩ := List.mem_map.1 h
  have := (fieldsGo_len s.data.toList []).2 l hl
  show l.toArray.size ≤ s.data.size
  simpa using this
theorem words_len (s : ByteArray) : (wordsOf s).length ≤ s.size + 1 := by
  have := (fieldsGo_len s.data.toList []).1
  simpa [wordsOf, Lib.fields] using this
theorem colX_words (pre : List LX) (l : Line) (h : l ∈ colX pre) : l.words.length ≤ 70000 := by
  unfold colX at h
  obtain ⟨y, hy, hl⟩ := List.mem_filterMap.1 h
  obtain ⟨x, hx, rfl⟩ := List.mem_map.1 hy
  unfold lineOf at hl
  split at hl
  · cases hl
  · injection hl with hl
    subst hl
    have := words_len x.1.2
    have := x.2.2
    show (wordsOf x.1.2).length ≤ 70000
    omega
theorem pairs_eq (text : ByteArray) (hs : text.size ≤ 65536) (hL : ∀ x ∈ linesOf text, x.size ≤ 65536) : (uptoN (lineAt (linesOf text) hL) (linesOf text).length).map Subtype.val = pairsF text := by
  have hll := lines_len text
  have hcs := count_small text ⟨#[10]⟩
  unfold uptoN pairsF
  rw [List.map_map]
  apply List.map_congr_left
  intro j hj
  have := List.mem_range.1 hj
  simp only [Function.comp, lineAt]
  rw [Nat.min_eq_left (by omega)]
theorem lines_ok (text : ByteArray) (hs : text.size ≤ 65536) (hL : ∀ x ∈ linesOf text, x.size ≤ 65536) (h : ∀ x ∈ uptoN (lineAt (linesOf text) hL) (linesOf text).length, plainB x.1.2 = true) : linesF text = (colX (uptoN (lineAt (linesOf text) hL) (linesOf text).length), 0, 0) := by
  have hp := pairs_eq text hs hL
  have hf : (pairsF text).find? (fun x => !plainB x.2) = none := by
    rw [List.find?_eq_none]
    intro y hy
    rw [← hp] at hy
    obtain ⟨x, hx, rfl⟩ := List.mem_map.1 hy
    simp [h x hx]
  unfold linesF colX
  rw [if_neg (by omega), hf, hp]
theorem lines_bad (text : ByteArray) (hs : text.size ≤ 65536) (hL : ∀ x ∈ linesOf text, x.size ≤ 65536) {k : Nat} (hk : k ≤ (linesOf text).length) {q : List LX} {x : LX} (hq : q ++ [x] = uptoN (lineAt (linesOf text) hL) k) (h : ∀ y ∈ q, plainB y.1.2 = true) (hx : plainB x.1.2 = false) : linesF text = ([], (x.1.1 : Int), 6) := by
  have hp := pairs_eq text hs hL
  have hspl : ∃ r, uptoN (lineAt (linesOf text) hL) (linesOf text).length = uptoN (lineAt (linesOf text) hL) k ++ r := by
    refine ⟨(uptoN (lineAt (linesOf text) hL) (linesOf text).length).drop k, ?_⟩
    have : uptoN (lineAt (linesOf text) hL) k = (uptoN (lineAt (linesOf text) hL) (linesOf text).length).take k := by
      unfold uptoN
      rw [← List.map_take, List.take_range, Nat.min_eq_left hk]
    rw [this, List.take_append_drop]
  obtain ⟨r, hr⟩ := hspl
  have hf : (pairsF text).find? (fun x => !plainB x.2) = some x.1 := by
    rw [← hp, hr, ← hq, List.map_append, List.map_append, List.find?_append, List.find?_append]
    have h1 : (q.map Subtype.val).find? (fun x => !plainB x.2) = none := by
      rw [List.find?_eq_none]
      intro y hy
      obtain ⟨z, hz, rfl⟩ := List.mem_map.1 hy
      simp [h z hz]
    rw [h1]
    simp [hx]
  unfold linesF
  rw [if_neg (by omega), hf]
theorem lines_read {W : World} {B : Nat} {v : Value} {ls : List Line} {cs : List Value} (ho : W.ownsRow B 278 2 v ls.length cs) (h : LinesCs W ls cs) (hw : ∀ l ∈ ls, l.words.length ≤ 70000) : SlAt LineE 2 W v ls := by
  rcases ho.2 with ⟨rfl, h0⟩ | ⟨g, cap, cur, rfl, hbg, hh, h1, h2, h3, h4⟩
  · have : ls = [] := List.eq_nil_of_length_eq_zero h0
    subst this
    exact SlAt.nil _ _ _
  · refine ⟨_, cap, rfl, h1, h2, fun i l hi => ?_⟩
    obtain ⟨u, hu1, hu2, hu3⟩ := h i l hi
    have hq : Blk W g cur 278 := hh
    have get : ∀ j x, cs[j]? = some x → W.cell? ⟨g, j, none⟩ = some x := fun j x hj => by
      rw [← h4, List.getElem?_take] at hj
      split at hj
      · exact hq.cell _ (by simpa using hj)
      · cases hj
    refine ⟨g, 0, [.int .i64 l.n, u], rfl, ⟨u, rfl, hu3.read (by have := hw l (List.mem_of_getElem? hi); omega)⟩, rfl, fun j x hx => ?_⟩
    rw [Nat.zero_add]
    have hj := (List.getElem?_eq_some_iff.1 hx).1
    simp at hj
    rcases (show j = 0 ∨ j = 1 by omega) with rfl | rfl
    · simp at hx; subst hx; exact get _ _ hu1
    · simp at hx; subst hx; exact get _ _ hu2
set_option maxRecDepth 100000 in
set_option maxHeartbeats 4000000 in
theorem lines171 (text : ByteArray) (w : World) (hs : text.size ≤ 1073741824) (hE : Env w) :
    Calls Tryz.prog 171 #[.string text] w fun e w' => ∃ v, e = .returned (.tuple #[v, .int .i64 (linesF text).2.1, .int .i64 (linesF text).2.2]) ∧ SlAt LineE 2 w' v (linesF text).1 ∧ Bel w w' := by
  by_cases hlong : 65536 < text.size
  · have hF : linesF text = ([], 0, 7) := by unfold linesF; rw [if_pos hlong]
    have HF := Lib.hid hF
    have hx : decide ((65536 : Int) < (text.size : Int)) = true := by simp; omega
    have hb : Bel w (((w.alloc (.cells #[.slice none 0 0] 270)).alloc (.cells #[.int .i64 0] 3)).alloc (.cells #[.int .i64 7] 45)) := (((Bel.refl w).alloc _).alloc _).alloc _
    clear hF hlong
    go_enter Tryz.func171, Tryz.ntmps171
    go_wp2_with fail
    exact bodyPost_ret (v := .tuple #[.slice none 0 0, .int .i64 0, .int .i64 7]) (by simp [results, Tryz.results171, go_sem]) rfl ⟨.slice none 0 0, by rw [HF.out], by rw [HF.out]; exact SlAt.nil _ _ _, hb⟩
  · have hx : decide ((65536 : Int) < (text.size : Int)) = false := by simp; omega
    have hl2 : text.size ≤ 65536 := by omega
    have HL := Lib.hid hlong
    clear hlong hs
    refine (callsIn_wide (n := 3)).1 ?_
    refine callsIn_of_wp_marks Tryz.func171 rfl trivial ?_ rfl
    simp only [Tryz.ntmps171, List.size_toArray, List.length_cons, List.length_nil, Nat.reduceAdd, Nat.reduceSub, Array.replicate_succ, Array.replicate_zero, List.push_toArray, List.append_toArray, List.nil_append, List.cons_append]
    gi_wp2
    have q2 : Blk ((((w.alloc (.cells #[.slice none 0 0] 270)).alloc (.cells #[.int .i64 0] 3)).alloc (.cells #[.int .i64 0] 45)).alloc (.cells #[.slice none 0 0] 270)) w.heap.size #[.slice none 0 0] 270 := (((Blk.new w _ _).alloc _).alloc _).alloc _
    have q3 : Blk ((((w.alloc (.cells #[.slice none 0 0] 270)).alloc (.cells #[.int .i64 0] 3)).alloc (.cells #[.int .i64 0] 45)).alloc (.cells #[.slice none 0 0] 270)) (w.heap.size + 1) #[.int .i64 0] 3 := ((Blk.new1 w _ _ _).alloc _).alloc _
    have q4 : Blk ((((w.alloc (.cells #[.slice none 0 0] 270)).alloc (.cells #[.int .i64 0] 3)).alloc (.cells #[.int .i64 0] 45)).alloc (.cells #[.slice none 0 0] 270)) (w.heap.size + 2) #[.int .i64 0] 45 := (Blk.new2 w _ _ _ _).alloc _
    have q5 : Blk ((((w.alloc (.cells #[.slice none 0 0] 270)).alloc (.cells #[.int .i64 0] 3)).alloc (.cells #[.int .i64 0] 45)).alloc (.cells #[.slice none 0 0] 270)) (w.heap.size + 3) #[.slice none 0 0] 270 := by
      have := Blk.new2 (w.alloc (.cells #[.slice none 0 0] 270)) (.cells #[.int .i64 0] 3) (.cells #[.int .i64 0] 45) #[.slice none 0 0] 270
      rwa [World.size_alloc] at this
    have hb4 : Bel w ((((w.alloc (.cells #[.slice none 0 0] 270)).alloc (.cells #[.int .i64 0] 3)).alloc (.cells #[.int .i64 0] 45)).alloc (.cells #[.slice none 0 0] 270)) := ((((Bel.refl w).alloc _).alloc _).alloc _).alloc _
    generalize ((((w.alloc (.cells #[.slice none 0 0] 270)).alloc (.cells #[.int .i64 0] 3)).alloc (.cells #[.int .i64 0] 45)).alloc (.cells #[.slice none 0 0] 270)) = W4 at *
    refine ⟨trivial, ?_⟩
    refine (callsIn_wide.2 (counts200 text _)).mono ?_
    rintro e w1 ⟨rfl, rfl⟩
    gi_wp2
    have qt : Blk (W4.alloc (.cells #[.string text] 9)) W4.heap.size #[.string text] 9 := Blk.new W4 _ _
    have hb5 : Bel w (W4.alloc (.cells #[.string text] 9)) := hb4.alloc _
    have hI0 : LnsAt w [] (W4.alloc (.cells #[.string text] 9)) := ⟨hb5, fun x h => (by cases h), ⟨_, [], q5.alloc _, World.ownsRow_nil _ _ _ _, fun k l h => by cases h⟩, q2.alloc _, q3.alloc _, q4.alloc _⟩
    have hE5 : Env (W4.alloc (.cells #[.string text] 9)) := hE.bel hb5
    have hLs : ∀ x ∈ linesOf text, x.size ≤ 65536 := fun x hx => Nat.le_trans (splitB_small _ _ _ _ x hx) hl2
    generalize hBt : W4.heap.size = Bt at *
    generalize (W4.alloc (.cells #[.string text] 9)) = W5 at *
    clear q2 q3 q4 q5 hb4 hBt
    refine wpIn_rangeFunc_ownG rfl (by omega) (gf := 219) (lb := #[.pointer (some ⟨Bt, 0, none⟩)]) rfl trivial (enters_of Tryz.func219 (by kernel_rfl) rfl)
      (counts_stops 2 (by omega) Bt text hl2 hLs W5 (qt.cell 0 rfl) hE5) (fun h k => h.trans k) (fun W l o o' _ h ho _ => KpS.of_ck (CK.putObj h ho o')) (Below.refl _ _) (fun _ => rfl)
      (LnsAt w) (LnsBad w) (LnsAt.own w _ hb5.size) (LnsBad.own w _ hb5.size) hI0
      (fun x => { tmps := #[.string text, undef, .pointer (some ⟨w.heap.size, 0, none⟩), .pointer (some ⟨w.heap.size + 1, 0, none⟩), .pointer (some ⟨w.heap.size + 1 + 1, 0, none⟩), .pointer (some ⟨w.heap.size + 1 + 1 + 1, 0, none⟩), .int .i64 (x.1.1 : Int), .string x.1.2, undef, .string text, .int .i64 text.size, .bool false, .string text, .func (.func 219) #[] #[.pointer (some ⟨Bt, 0, none⟩)], .int .i64 (x.1.1 : Int), .string x.1.2, undef, undef, undef, undef, undef, undef, undef, undef, undef, undef, undef, undef, undef, undef, undef, undef], defers := [] }) ?assign ?body ?done ?stop
    case assign =>
      intro l x W K hK
      dsimp only [encX]
      gi_wp2
      exact hK
    case body =>
      intro l pre x W hI hlt
      have hxn := x.2.1
      have hxs := x.2.2
      have hpl := plain_any x.1.2 W (by omega)
      have hEW := hE.bel hI.bel
      have hcn : colX (pre ++ [x]) = if wordsOf x.1.2 = [] then colX pre else colX pre ++ [⟨x.1.1, wordsOf x.1.2⟩] := by
        split
        · exact colX_miss _ _ (by assumption)
        · exact colX_hit _ _ (by assumption)
      have hcl := colX_le pre
      obtain ⟨hb, hp, ⟨v, cs, bx, ho, hl⟩, r2, r3, r4⟩ := hI
      have HX := Lib.hid (show x = x from rfl)
      generalize hxe : x.1.1 = xn at *
      generalize hxw : x.1.2 = xs at *
      have HXE := Lib.hid hxe
      have HXW := Lib.hid hxw
      have HCN := Lib.hid hcn
      clear hxe hxw hcn
      cases hpb : plainB xs with
      | false =>
        rw [hpb] at hpl
        gi_wp2
        refine ⟨trivial, ?_⟩
        refine (CallsIn.inRound l (callsIn_wide.2 hpl)).mono ?_
        rintro e w1 ⟨rfl, hb1⟩
        replace r2 := r2.bel hb1
        replace r3 := r3.bel hb1
        replace r4 : Blk w1 (w.heap.size + 1 + 1) #[.int .i64 0] 45 := r4.bel hb1
        have c2 := r2.cell 0 rfl; have c3 := r3.cell 0 rfl; have c4 := r4.cell 0 rfl
        have f2 := r2.frozen 0; have f3 := r3.frozen 0; have f4 := r4.frozen 0
        have hB1 : Bel w w1 := hb.trans hb1
        clear hpl
        gi_wp2
        have t1 : TFr [270, 3, 45] 0 w1 (w1.setCell ⟨w.heap.size, 0, none⟩ (.slice none 0 0)) := TFr.setC r2 (by simp) (Nat.zero_le _) _ _
        have r31 : Blk (w1.setCell ⟨w.heap.size, 0, none⟩ (.slice none 0 0)) (w.heap.size + 1) #[.int .i64 0] 3 := r3.set_other (by simp) _
        have r41 : Blk (w1.setCell ⟨w.heap.size, 0, none⟩ (.slice none 0 0)) (w.heap.size + 1 + 1) #[.int .i64 0] 45 := r4.set_other (by simp; omega) _
        have t2 := t1.trans (TFr.setC r31 (by simp) (Nat.zero_le _) 0 (.int .i64 (xn : Int)))
        have r42 : Blk _ (w.heap.size + 1 + 1) #[.int .i64 0] 45 := r41.set_other (a := ⟨w.heap.size + 1, 0, none⟩) (by simp) (.int .i64 (xn : Int))
        have t3 := t2.trans (TFr.setC r42 (by simp) (Nat.zero_le _) 0 (.int .i64 6))
        refine ⟨tfr_from ((TFr.of_bel _ _ hb1).trans t3) _, rfl, ?_, ⟨pre, x, rfl, hp, by rw [HXW.out]; exact hpb, ?_⟩, ?_, ?_⟩
        · exact ((hB1.setCell (Nat.le_refl _) _).setCell (by simp) _).setCell (by simp; omega) _
        · rw [HXE.out]
          exact (r31.set 0 (.int .i64 (xn : Int))).set_other (by simp) _
        · exact ((r2.set 0 (.slice none 0 0)).set_other (by simp) _).set_other (by simp; omega) _
        · exact r42.set 0 (.int .i64 6)
      | true =>
        rw [hpb] at hpl
        by_cases hw0 : wordsOf xs = []
        · have HC2 := Lib.hid (show colX (pre ++ [x]) = colX pre by rw [HCN.out, if_pos hw0])
          have hfl := fun W (he : Env W) => fields202 xs W hxs hpb he
          have hlen : (wordsOf xs).length = 0 := by rw [hw0]; rfl
          rw [hlen] at hfl
          clear HCN
          gi_wp2
          refine ⟨trivial, ?_⟩
          refine (CallsIn.inRound l (callsIn_wide.2 hpl)).mono ?_
          rintro e w1 ⟨rfl, hb1⟩
          have hE1 := hEW.bel hb1
          clear hpl
          have hfl1 := hfl w1 hE1
          clear hfl
          gi_wp2
          refine ⟨trivial, ?_⟩
          refine (CallsIn.inRound l (callsIn_wide.2 hfl1)).mono ?_
          rintro e w2 ⟨_, rfl, rfl, rfl⟩
          have hb2 : Bel W (w1.alloc (.cells ((wordsOf xs).map Value.string).toArray 9)) := hb1.alloc _
          generalize (w1.alloc (.cells ((wordsOf xs).map Value.string).toArray 9)) = w2 at *
          clear hfl1
          gi_wp2
          have hT := TFr.of_bel [] 0 hb2
          have kp := tfr_kp hT (by simp) (hEW.bel hb2)
          exact ⟨tfr_from hT _, kp, hb.trans hb2, fun y hy => (by rcases List.mem_append.1 hy with h | h; exact hp y h; (rw [List.mem_singleton.1 h, HXW.out]; exact hpb)), (by rw [HC2.out]; exact ⟨v, cs, bx.bel hb2, own_bel ho hb2, hl.kp kp⟩), r2.bel hb2, r3.bel hb2, r4.bel hb2⟩
        · have HC2 := Lib.hid (show colX (pre ++ [x]) = colX pre ++ [⟨xn, wordsOf xs⟩] by rw [HCN.out, if_neg hw0])
          have hfl := fun W (he : Env W) => fields202 xs W hxs hpb he
          have hlen : 0 < (wordsOf xs).length := by
            cases h : wordsOf xs with
            | nil => exact absurd h hw0
            | cons a l => simp
          have hlm := words_len xs
          have hxx : decide ((0 : Int) < ((wordsOf xs).length : Int)) = true := by simpa using hlen
          have HW0 := Lib.hid hw0
          obtain ⟨A, c, rfl, _⟩ := own_slice ho
          clear HCN hw0
          generalize hws : wordsOf xs = ws at *
          clear hws
          gi_wp2
          refine ⟨trivial, ?_⟩
          refine (CallsIn.inRound l (callsIn_wide.2 hpl)).mono ?_
          rintro e w1 ⟨rfl, hb1⟩
          have hE1 := hEW.bel hb1
          clear hpl
          have hfl1 := hfl w1 hE1
          clear hfl
          gi_wp2
          refine ⟨trivial, ?_⟩
          refine (CallsIn.inRound l (callsIn_wide.2 hfl1)).mono ?_
          rintro e w2 ⟨_, rfl, rfl, rfl⟩
          have hb2 : Bel W (w1.alloc (.cells (ws.map Value.string).toArray 9)) := hb1.alloc _
          have qw : Blk (w1.alloc (.cells (ws.map Value.string).toArray 9)) w1.heap.size (ws.map Value.string).toArray 9 := Blk.new w1 _ _
          generalize (w1.alloc (.cells (ws.map Value.string).toArray 9)) = w2 at *
          generalize w1.heap.size = bw at *
          have c5 : w2.cell? ⟨w.heap.size + 1 + 1 + 1, 0, none⟩ = some (.slice A (colX pre).length c) := (bx.bel hb2).cell 0 rfl
          have hb3 : Bel W (w2.alloc (.cells #[.int .i64 (xn : Int), .slice (some ⟨bw, 0, none⟩) ws.length ws.length] 278)) := hb2.alloc _
          have qn : Blk (w2.alloc (.cells #[.int .i64 (xn : Int), .slice (some ⟨bw, 0, none⟩) ws.length ws.length] 278)) w2.heap.size #[.int .i64 (xn : Int), .slice (some ⟨bw, 0, none⟩) ws.length ws.length] 278 := Blk.new w2 _ _
          have ho3 := own_bel ho hb3
          have hone : ∀ u ∈ [Value.int .i64 (xn : Int), .slice (some ⟨bw, 0, none⟩) ws.length ws.length], u.oneCell' = true := by intro u hu; simp at hu; rcases hu with rfl | rfl <;> rfl
          have hll := lines_len text
          have hcs := count_small text ⟨#[10]⟩
          have hpl : (colX pre).length ≤ 70000 := by omega
          have hbase : w.heap.size ≤ (w2.alloc (.cells #[.int .i64 (xn : Int), .slice (some ⟨bw, 0, none⟩) ws.length ws.length] 278)).heap.size := (hb.trans hb3).size
          have hcsl : cs.length = (colX pre).length * 2 := ho.1
          obtain ⟨i0, hi, hz0, hz1, hz2⟩ := info_parts info278
          have HPL := Lib.hid hpl
          have HCL := Lib.hid hcsl
          clear hfl1 hll hcs hcl hcsl hlt hpl
          gi_wp2_with (gi_at_builtin; refine wpListIn_append_own _ rfl _ _ 270 rfl w.heap.size 278 i0 (.agg #[.int .i64 0, .slice none 0 0]) 2 32 und270 hi hz0 hz1 hz2 rfl (by decide) _ _ _ rfl ho3 ⟨w2.heap.size, 0, none⟩ 1 1 [.int .i64 (xn : Int), .slice (some ⟨bw, 0, none⟩) ws.length ws.length] rfl rfl qn.news hone (by have := HPL.out; unfold maxLen; omega) (by have := HPL.out; omega) hbase ?_; intro v' w3 hown' hgrow _; obtain ⟨g', cap', rfl⟩ := ownsRow_succ hown'; have hT1 := TFr.grown (T := [278]) ho3 hgrow (by simp); have c51 := (hT1.blk (bx.bel hb3) (.inr (by decide))).cell 0 rfl; have f51 := (hT1.blk (bx.bel hb3) (.inr (by decide))).frozen 0)
          have b5 : Blk w3 (w.heap.size + 1 + 1 + 1) #[.slice A (colX pre).length c] 270 := hT1.blk (bx.bel hb3) (.inr (by decide))
          have hT : TFr [278, 270] 0 W w3 := (TFr.of_bel _ _ hb3).trans ((hT1.mono (Nat.zero_le _)).wider (by simp))
          have hS : TFr [270] 0 w3 (w3.setCell ⟨w.heap.size + 1 + 1 + 1, 0, none⟩ (.slice (some ⟨g', 0, none⟩) ((colX pre).length + 1) cap')) := TFr.setC b5 (by simp) (Nat.zero_le _) _ _
          have hT2 := hT.trans (hS.wider (by simp))
          have hBf : Bel w (w3.setCell ⟨w.heap.size + 1 + 1 + 1, 0, none⟩ (.slice (some ⟨g', 0, none⟩) ((colX pre).length + 1) cap')) := (hT1.toBel (hb.trans hb3)).setCell (by simp; omega) _
          have kp := tfr_kp hT2 (by decide) (hE.bel hBf)
          have qw2 := hS.blk (hT1.blk (qw.alloc _) (.inr (by decide))) (.inr (by decide))
          have r2' : Blk (w3.setCell ⟨w.heap.size + 1 + 1 + 1, 0, none⟩ (.slice (some ⟨g', 0, none⟩) ((colX pre).length + 1) cap')) w.heap.size #[.slice none 0 0] 270 := (hT1.blk (r2.bel hb3) (.inr (by decide))).set_other (by simp; omega) _
          exact ⟨tfr_from hT2 _, kp, hBf, fun y hy => (by rcases List.mem_append.1 hy with h | h; exact hp y h; (rw [List.mem_singleton.1 h, HXW.out]; exact hpb)), (by
            rw [HC2.out, List.length_append]
            exact ⟨_, _, b5.set 0 _, own_set hown' b5 (by decide) 0 _, (hl.kp kp).snoc HCL.out ⟨bw, rfl, qw2⟩⟩), r2', hT2.blk r3 (.inr (by decide)), hT2.blk r4 (.inr (by decide))⟩
    case done =>
      intro D ys W hD hys hI hK
      obtain ⟨hb, hp, ⟨v, cs, bx, ho, hl⟩, r2, r3, r4⟩ := hI
      replace r4 : Blk W (w.heap.size + 1 + 1) #[.int .i64 0] 45 := r4
      replace bx : Blk W (w.heap.size + 1 + 1 + 1) #[v] 270 := bx
      have c2 := r2.cell 0 rfl; have c3 := r3.cell 0 rfl; have c4 := r4.cell 0 rfl; have c5 := bx.cell 0 rfl
      have f2 := r2.frozen 0; have f3 := r3.frozen 0; have f4 := r4.frozen 0
      obtain ⟨A, c, rfl, _⟩ := own_slice ho
      have HY := Lib.hid hys
      clear hys
      gi_wp2
      have hF := lines_ok text hl2 hLs (by rw [← HY.out]; exact hp)
      rw [← HY.out] at hF
      have HF := Lib.hid hF
      clear hF
      have t1 : TFr [270, 3, 45] 0 W (W.setCell ⟨w.heap.size, 0, none⟩ (.slice A (colX ys).length c)) := TFr.setC r2 (by simp) (Nat.zero_le _) _ _
      have r31 : Blk (W.setCell ⟨w.heap.size, 0, none⟩ (.slice A (colX ys).length c)) (w.heap.size + 1) #[.int .i64 0] 3 := r3.set_other (by simp) _
      have r41 : Blk (W.setCell ⟨w.heap.size, 0, none⟩ (.slice A (colX ys).length c)) (w.heap.size + 1 + 1) #[.int .i64 0] 45 := r4.set_other (by simp; omega) _
      have t2 := t1.trans (TFr.setC r31 (by simp) (Nat.zero_le _) 0 (.int .i64 0))
      have r42 : Blk _ (w.heap.size + 1 + 1) #[.int .i64 0] 45 := r41.set_other (a := ⟨w.heap.size + 1, 0, none⟩) (by simp) (.int .i64 0)
      have t3 := t2.trans (TFr.setC r42 (by simp) (Nat.zero_le _) 0 (.int .i64 0))
      have u2 := ((r2.set 0 (.slice A (colX ys).length c)).set_other (a := ⟨w.heap.size + 1, 0, none⟩) (by simp) (.int .i64 0)).set_other (a := ⟨w.heap.size + 1 + 1, 0, none⟩) (by simp; omega) (.int .i64 0)
      have u3 := (r31.set 0 (.int .i64 0)).set_other (a := ⟨w.heap.size + 1 + 1, 0, none⟩) (by simp) (.int .i64 0)
      have u4 := r42.set 0 (.int .i64 0)
      have hBf : Bel w (((W.setCell ⟨w.heap.size, 0, none⟩ (.slice A (colX ys).length c)).setCell ⟨w.heap.size + 1, 0, none⟩ (.int .i64 0)).setCell ⟨w.heap.size + 1 + 1, 0, none⟩ (.int .i64 0)) := ((hb.setCell (Nat.le_refl _) _).setCell (by simp) _).setCell (by simp; omega) _
      have hKf := (tfr_from t3 0).same D _ (Nat.zero_le _) hK rfl
      have ho1 := own_tfr ho t3 (by decide)
      have hl1 : LinesCs (((W.setCell ⟨w.heap.size, 0, none⟩ (.slice A (colX ys).length c)).setCell ⟨w.heap.size + 1, 0, none⟩ (.int .i64 0)).setCell ⟨w.heap.size + 1 + 1, 0, none⟩ (.int .i64 0)) (colX ys) cs := hl.kp (tfr_kp t3 (by decide) (hE.bel hBf))
      generalize (((W.setCell ⟨w.heap.size, 0, none⟩ (.slice A (colX ys).length c)).setCell ⟨w.heap.size + 1, 0, none⟩ (.int .i64 0)).setCell ⟨w.heap.size + 1 + 1, 0, none⟩ (.int .i64 0)) = Wf at *
      refine ⟨by simp, .inl ⟨_, _, rfl, run_takeDeferred hKf, ?_⟩⟩
      have ck := CK.putObj hKf rfl (.deferred none)
      have hBl : Bel w (Wf.putObj D (.deferred none)) := hBf.turn (grownBy_putObj' Wf D (.deferred none)) (fun r e => by injection e with e; subst e; exact Nat.le_trans hb5.size hD)
      generalize Wf.putObj D (.deferred none) = Wl at *
      have y2 := (u2.ck ck).cell 0 rfl; have y3 := (u3.ck ck).cell 0 rfl; have y4 := (u4.ck ck).cell 0 rfl
      refine ⟨.tuple #[.slice A (colX ys).length c, .int .i64 0, .int .i64 0], by simp [results, Tryz.results171, go_sem, y2, y3, y4], .slice A (colX ys).length c, by rw [HF.out], ?_, hBl⟩
      rw [HF.out]
      exact lines_read (own_ck ho1 ck) (hl1.kp (KpS.of_ck ck)) (colX_words ys)
    case stop =>
      intro D c pre W hD hpre hI hK
      obtain ⟨rfl, hb, ⟨q, x, rfl, hp, hpb, r3⟩, r2, r4⟩ := hI
      replace r4 : Blk W (w.heap.size + 1 + 1) #[.int .i64 6] 45 := r4
      obtain ⟨k, hk, hpk⟩ := hpre
      have hF := lines_bad text hl2 hLs hk hpk hp hpb
      have HF := Lib.hid hF
      clear hF
      gi_wp2
      refine ⟨by simp, .inl ⟨_, _, rfl, run_takeDeferred hK, ?_⟩⟩
      have ck := CK.putObj hK rfl (.deferred none)
      have hBl : Bel w (W.putObj D (.deferred none)) := hb.turn (grownBy_putObj' W D (.deferred none)) (fun r e => by injection e with e; subst e; exact Nat.le_trans hb5.size hD)
      generalize W.putObj D (.deferred none) = Wl at *
      have y2 := (r2.ck ck).cell 0 rfl; have y3 := (r3.ck ck).cell 0 rfl; have y4 := (r4.ck ck).cell 0 rfl
      refine ⟨.tuple #[.slice none 0 0, .int .i64 (x.1.1 : Int), .int .i64 6], by simp [results, Tryz.results171, go_sem, y2, y3, y4], .slice none 0 0, by rw [HF.out], ?_, hBl⟩
      rw [HF.out]
      exact SlAt.nil _ _ _
end Go.Proofs.YtbgilebgdbgddaaGreatDoor
