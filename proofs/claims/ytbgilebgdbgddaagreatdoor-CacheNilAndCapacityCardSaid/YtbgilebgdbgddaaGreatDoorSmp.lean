/- Maps with plain keys (string, int) and any elements, as lists of pairs: look-up, update, len. -/
import Derived.Test.YtbgilebgdbgddaaGreatDoorBas
import Derived.MapKept
import Derived.ChangeMaps4
import Derived.Maps.OwnOps
import Derived.Carry
set_option linter.unusedVariables false
set_option linter.unusedSimpArgs false
namespace Go.Proofs.YtbgilebgdbgddaaGreatDoor
open Go.RowKit
open Go.MapKept
set_option linter.unusedSectionVars false

def asIdx {κ : Type} [DecidableEq κ] : List (κ × Value) → κ → Nat → Option (Nat × Value)
  | [], _, _ => none
  | p :: l, k, i => if k = p.1 then some (i, p.2) else asIdx l k (i + 1)
def asGet {κ : Type} [DecidableEq κ] : List (κ × Value) → κ → Option Value
  | [], _ => none
  | p :: l, k => if k = p.1 then some p.2 else asGet l k
def asPut {κ : Type} [DecidableEq κ] : List (κ × Value) → κ → Value → List (κ × Value)
  | [], k, v => [(k, v)]
  | p :: l, k, v => if k = p.1 then (k, v) :: l else p :: asPut l k v
instance decMem (n : ByteArray) (l : List ByteArray) : Decidable (n ∈ l) := decidable_of_iff (l.any (fun x => decide (x = n)) = true) (by simp)
section
variable {κ : Type} [DecidableEq κ]
theorem asGet_idx (l : List (κ × Value)) (k : κ) : ∀ i, (asIdx l k i).map (·.2) = asGet l k := by
  induction l with
  | nil => intro i; rfl
  | cons p l ih =>
    intro i
    simp only [asIdx, asGet]
    split
    · rfl
    · exact ih _
theorem asGet_put (l : List (κ × Value)) (k k' : κ) (v : Value) : asGet (asPut l k v) k' = if k' = k then some v else asGet l k' := by
  induction l with
  | nil => simp [asPut, asGet]
  | cons p l ih =>
    simp only [asPut]
    by_cases h : k = p.1
    · rw [if_pos h]
      simp only [asGet]
      by_cases h2 : k' = k
      · simp [h2]
      · rw [if_neg h2, if_neg h2, if_neg (by rw [← h]; exact h2)]
    · rw [if_neg h]
      simp only [asGet, ih]
      by_cases h2 : k' = p.1
      · rw [if_pos h2, if_pos h2, if_neg (by rw [h2]; exact fun e => h e.symm)]
      · rw [if_neg h2, if_neg h2]
theorem asPut_new (l : List (κ × Value)) (k : κ) (v : Value) (h : asGet l k = none) : asPut l k v = l ++ [(k, v)] := by
  induction l with
  | nil => rfl
  | cons p l ih =>
    simp only [asGet] at h
    split at h
    · cases h
    · rename_i hne
      simp only [asPut, if_neg hne, ih h, List.cons_append]
theorem asPut_len (l : List (κ × Value)) (k : κ) (v : Value) : (asPut l k v).length = if (asGet l k).isSome then l.length else l.length + 1 := by
  induction l with
  | nil => simp [asPut, asGet]
  | cons p l ih =>
    simp only [asPut, asGet]
    by_cases h : k = p.1
    · simp [if_pos h]
    · simp only [if_neg h, List.length_cons, ih]
      split <;> rfl
/-- How keys of a kind lie. -/
structure KeyKind (kv : κ → Value) (kt : TypeId) (d : TypeDesc) : Prop where
  und : Tryz.prog.underlying kt = some d
  key : ∀ k, IsKey d (kv k)
  same : ∀ a b, Instr.sameNow d (kv a) (kv b) = some (decide (a = b))
structure MapAt (kv : κ → Value) (w : World) (b : Nat) (L : List (κ × Value)) : Prop where
  ex : ∃ es clock, w.heap[b]? = some (.map es clock) ∧ es.toList.map (fun e => (e.key, e.val)) = L.map fun p => (kv p.1, p.2)
theorem findNow_as {kv : κ → Value} {kt : TypeId} {d : TypeDesc} (K : KeyKind kv kt d) (k : κ) : ∀ (es : List MapEntry) (L : List (κ × Value)) (i : Nat), es.map (fun e => (e.key, e.val)) = (L.map fun p => (kv p.1, p.2)) → Instr.findNow d (kv k) es i = some (asIdx L k i) := by
  intro es
  induction es with
  | nil =>
    intro L i h
    cases L with
    | nil => rfl
    | cons p l => cases h
  | cons e es ih =>
    intro L i h
    cases L with
    | nil => cases h
    | cons p l =>
      simp only [List.map_cons, List.cons.injEq, Prod.mk.injEq] at h
      obtain ⟨⟨h1, h2⟩, h3⟩ := h
      simp only [Instr.findNow, asIdx, h1, K.same]
      by_cases hk : k = p.1
      · simp [hk, h2]
      · simp only [hk, decide_false, if_false]
        exact ih l (i + 1) h3
variable {kv : κ → Value} {kt e t : TypeId} {d : TypeDesc}
theorem run_look (K : KeyKind kv kt d) (ht : Tryz.prog.underlying t = some (.map kt e)) {z : Value} {w : World} (hz : (zeroValue e).run Tryz.prog w = .ok z w) {b : Nat} {L : List (κ × Value)} (h : MapAt kv w b L) (k : κ) (ok : Bool) :
    (Instr.lookup t (.map (some b)) (kv k) ok).run Tryz.prog w = .ok (if ok then .tuple #[(asGet L k).getD z, .bool (asGet L k).isSome] else (asGet L k).getD z) w := by
  obtain ⟨es, clock, hb, hes⟩ := h.ex
  have hf := findNow_as K k es.toList L 0 hes
  have hg := asGet_idx L k 0
  cases hx : asIdx L k 0 with
  | none =>
    rw [hx] at hf hg
    simp only [Option.map_none] at hg
    rw [← hg]
    simp [Instr.lookup, run_underlying ht, Go.MapKept.run_getObj_map hb, Go.MapKept.run_checkKey K.und (K.key k), Go.MapKept.run_findKey K.und hf, Result.andThen, hz]
  | some p =>
    rw [hx] at hf hg
    simp only [Option.map_some] at hg
    rw [← hg]
    simp [Instr.lookup, run_underlying ht, Go.MapKept.run_getObj_map hb, Go.MapKept.run_checkKey K.und (K.key k), Go.MapKept.run_findKey K.und hf, Result.andThen]
theorem asIdx_spec (L : List (κ × Value)) (k : κ) : ∀ (i j : Nat) (v : Value), asIdx L k i = some (j, v) → i ≤ j ∧ L[j - i]? = some (k, v) ∧ ∀ v', asPut L k v' = L.set (j - i) (k, v') := by
  induction L with
  | nil => intro i j v h; cases h
  | cons p l ih =>
    intro i j v h
    simp only [asIdx] at h
    split at h
    · rename_i hk
      injection h with h
      injection h with h1 h2
      subst h1; subst h2
      refine ⟨Nat.le_refl _, ?_, fun v' => ?_⟩
      · simp [hk]
      · simp [asPut, hk]
    · rename_i hk
      obtain ⟨h1, h2, h3⟩ := ih (i + 1) j v h
      have e : j - i = (j - (i + 1)) + 1 := by omega
      refine ⟨by omega, ?_, fun v' => ?_⟩
      · rw [e]; simpa using h2
      · rw [e]; simp only [asPut, if_neg hk, List.set_cons_succ, h3]
theorem asIdx_none (L : List (κ × Value)) (k : κ) : ∀ i, asIdx L k i = none → ∀ v', asPut L k v' = L ++ [(k, v')] := by
  intro i h v'
  apply asPut_new
  rw [← asGet_idx L k i, h]; rfl
theorem run_put (K : KeyKind kv kt d) (ht : Tryz.prog.underlying t = some (.map kt e)) {w : World} {b : Nat} {L : List (κ × Value)} (h : MapAt kv w b L) (k : κ) (v : Value) :
    ∃ w', (Instr.mapUpdate t (.map (some b)) (kv k) v).run Tryz.prog w = .ok () w' ∧ MapAt kv w' b (asPut L k v) ∧ w.grownBy w' (some b) := by
  obtain ⟨es, clock, hb, hes⟩ := h.ex
  have hf := findNow_as K k es.toList L 0 hes
  have hgr : ∀ o, w.grownBy { w with heap := w.heap.setIfInBounds b o } (some b) := fun o => ⟨rfl, rfl, rfl, by simp, fun i hi hne => (heap_set hb).2 i (fun e => hne (by rw [e]))⟩
  cases hx : asIdx L k 0 with
  | none =>
    rw [hx] at hf
    refine ⟨{ w with heap := w.heap.setIfInBounds b (.map (es.push { key := kv k, val := v, born := clock }) (clock + 1)) }, ?_, ⟨⟨_, _, (heap_set hb).1, ?_⟩⟩, hgr _⟩
    · simp [Instr.mapUpdate, run_underlying ht, Go.MapKept.run_getObj_map hb, Go.MapKept.run_checkKey K.und (K.key k), Go.MapKept.run_findKey K.und hf, Go.MapKept.run_setObj_map _ hb, Result.andThen]
    · rw [asIdx_none L k 0 hx v]
      simp [hes]
  | some p =>
    obtain ⟨j, v0⟩ := p
    rw [hx] at hf
    obtain ⟨_, h2, h3⟩ := asIdx_spec L k 0 j v0 hx
    rw [Nat.sub_zero] at h2 h3
    have hj : ∃ e0, es[j]? = some e0 ∧ e0.key = kv k := by
      have h4 : (es.toList.map fun e => (e.key, e.val))[j]? = some (kv k, v0) := by rw [hes, List.getElem?_map, h2]; rfl
      rw [List.getElem?_map] at h4
      cases h5 : es.toList[j]? with
      | none => rw [h5] at h4; cases h4
      | some e0 =>
        rw [h5] at h4
        simp at h4
        exact ⟨e0, by simpa using h5, h4.1⟩
    obtain ⟨e0, hj, hk0⟩ := hj
    refine ⟨{ w with heap := w.heap.setIfInBounds b (.map (es.modify j fun e => { e with key := kv k, val := v }) clock) }, ?_, ⟨⟨_, _, (heap_set hb).1, ?_⟩⟩, hgr _⟩
    · simp [Instr.mapUpdate, run_underlying ht, Go.MapKept.run_getObj_map hb, Go.MapKept.run_checkKey K.und (K.key k), Go.MapKept.run_findKey K.und hf, hj, hk0, run_keyThatStays (K.key k), Go.MapKept.run_setObj_map _ hb, Result.andThen]
    · rw [h3 v, List.map_set, ← hes]
      apply List.ext_getElem?
      intro i
      simp only [List.getElem?_map, Array.toList_modify, List.getElem?_modify, List.getElem?_set, List.length_map]
      by_cases hij : j = i
      · subst hij
        have hlt : j < es.toList.length := by simpa using (Array.getElem?_eq_some_iff.1 hj).1
        have hlt' : j < es.size := by simpa using hlt
        simp [hj, hlt']
      · simp [hij]
theorem list_look (K : KeyKind kv kt d) (ht : Tryz.prog.underlying t = some (.map kt e)) {z : Value} {w : World} (hz : ∀ w, (zeroValue e).run Tryz.prog w = .ok z w) {b : Nat} {L : List (κ × Value)} (hown : MapAt kv w b L)
    {ops : Array Oper} {rest : List Oper} {o : Oper} {a : Act} {Q : Exit → Act → World → Prop} (hg : o.guard = none) (m x : Operand) (ok : Bool) (hop : o.op = Op.lookup t m x ok) (hm : a.eval m = .map (some b)) (k : κ) (hx : a.eval x = kv k)
    (hK : wpList Tryz.prog ops Q rest (a.put o.dst (if ok then .tuple #[(asGet L k).getD z, .bool (asGet L k).isSome] else (asGet L k).getD z)) w) : wpList Tryz.prog ops Q (o :: rest) a w := by
  refine wpList_plain hg fun K' hK' => ?_
  have hrun := run_look K ht (hz w) hown k ok
  unfold Oper.wp
  simp [execOp, hop, hm, hx, hrun, Result.andThen]
  exact hK' _ _ hK
theorem list_mapPut (K : KeyKind kv kt d) (ht : Tryz.prog.underlying t = some (.map kt e)) {w : World} {b : Nat} {L : List (κ × Value)} (hown : MapAt kv w b L)
    {ops : Array Oper} {rest : List Oper} {o : Oper} {a : Act} {Q : Exit → Act → World → Prop} (hg : o.guard = none) (m x v : Operand) (hop : o.op = Op.mapUpdate t m x v) (hm : a.eval m = .map (some b)) (k : κ) (hx : a.eval x = kv k) (val : Value) (hv : a.eval v = val)
    (hK : ∀ w', MapAt kv w' b (asPut L k val) → w.grownBy w' (some b) → wpList Tryz.prog ops Q rest (a.put o.dst undef) w') : wpList Tryz.prog ops Q (o :: rest) a w := by
  refine wpList_plain hg fun K' hK' => ?_
  obtain ⟨w', hrun, h1, h2⟩ := run_put K ht hown k val
  unfold Oper.wp
  simp [execOp, hop, hm, hx, hv, hrun, Result.andThen]
  exact hK' _ _ (hK w' h1 h2)
theorem list_ins (K : KeyKind kv kt d) (ht : Tryz.prog.underlying t = some (.map kt e)) {w : World} {b : Nat} {L : List (κ × Value)} (hown : MapAt kv w b L)
    {ops : Array Oper} {rest : List Oper} {o : Oper} {a : Act} {Q : Exit → Act → World → Prop} (hg : o.guard = none) (m x v : Operand) (hop : o.op = Op.insert t m x v) (hm : a.eval m = .map (some b)) (k : κ) (hx : a.eval x = kv k) (val : Value) (hv : a.eval v = val)
    (hK : ∀ w', MapAt kv w' b (asPut L k val) → w.grownBy w' (some b) → wpList Tryz.prog ops Q rest (a.put o.dst undef) w') : wpList Tryz.prog ops Q (o :: rest) a w := by
  refine wpList_plain hg fun K' hK' => ?_
  obtain ⟨w', hrun, h1, h2⟩ := run_put K ht hown k val
  unfold Oper.wp
  simp [execOp, hop, hm, hx, hv, hrun, Result.andThen]
  exact hK' _ _ (hK w' h1 h2)
theorem MapAt.made (w : World) : MapAt kv (w.alloc (.map #[] 0)) w.heap.size [] := ⟨⟨#[], 0, (MapKept.heap_alloc w _).1, rfl⟩⟩
theorem MapAt.lt {w : World} {b : Nat} {L : List (κ × Value)} (h : MapAt kv w b L) : b < w.heap.size := by
  obtain ⟨es, clock, hb, _⟩ := h.ex
  exact (Array.getElem?_eq_some_iff.1 hb).1
theorem MapAt.kept {w w' : World} {b : Nat} {L : List (κ × Value)} (h : MapAt kv w b L) (hb : w'.heap[b]? = w.heap[b]?) : MapAt kv w' b L := by
  obtain ⟨es, clock, h1, h2⟩ := h.ex
  exact ⟨⟨es, clock, hb.trans h1, h2⟩⟩
theorem MapAt.bel {w w' : World} {b : Nat} {L : List (κ × Value)} (h : MapAt kv w b L) (hb : Bel w w') : MapAt kv w' b L := h.kept (hb.block b h.lt)
theorem MapAt.tfr {w w' : World} {b B : Nat} {T : List TypeId} {L : List (κ × Value)} (h : MapAt kv w b L) (hb : TFr T B w w') : MapAt kv w' b L := h.kept (hb.block b h.lt (.inr (by
  obtain ⟨es, clock, h1, _⟩ := h.ex
  rw [h1]; exact id)))
theorem MapAt.grown {w w' : World} {b : Nat} {row : Option Nat} {L : List (κ × Value)} (h : MapAt kv w b L) (hg : w.grownBy w' row) (hne : some b ≠ row) : MapAt kv w' b L := h.kept (hg.block b h.lt hne)
end
theorem grown_of_bel {w w' : World} (h : Bel w w') (row : Option Nat) : w.grownBy w' row := ⟨h.os, h.tape, h.output, h.size, fun k hk _ => h.block k hk⟩
theorem grown_trans {a b c : World} {row : Option Nat} (h : a.grownBy b row) (k : b.grownBy c row) : a.grownBy c row := h.trans k
theorem grown_bel {W0 w w' : World} {b : Nat} (hb : Bel W0 w) (h : w.grownBy w' (some b)) (hn : W0.heap.size ≤ b) : Bel W0 w' :=
  ⟨h.os.trans hb.os, h.tape.trans hb.tape, h.output.trans hb.output, Nat.le_trans hb.size h.size, fun k hk => (h.block k (Nat.lt_of_lt_of_le hk hb.size) (fun e => by injection e with e; omega)).trans (hb.block k hk)⟩
theorem grown_blk {w w' : World} {n : Nat} {cs : Array Value} {t : TypeId} {row : Option Nat} (h : Blk w n cs t) (hg : w.grownBy w' row) (hne : some n ≠ row) : Blk w' n cs t := (hg.block n h.lt hne).trans h
theorem map_ne_blk {κ : Type} [DecidableEq κ] {kv : κ → Value} {w : World} {b n : Nat} {L : List (κ × Value)} {cs : Array Value} {t : TypeId} (h : MapAt kv w b L) (hb : Blk w n cs t) : n ≠ b := by
  rintro rfl
  obtain ⟨es, clock, h1, _⟩ := h.ex
  rw [show w.heap[n]? = _ from hb] at h1
  cases h1
theorem map_ne_cell {κ : Type} [DecidableEq κ] {kv : κ → Value} {w : World} {b : Nat} {L : List (κ × Value)} (h : MapAt kv w b L) {a : Addr} {v : Value} (hc : w.cell? a = some v) : a.block ≠ b := by
  intro e
  obtain ⟨es, clock, h1, _⟩ := h.ex
  unfold World.cell? at hc
  rw [e, h1] at hc
  cases hc
theorem grown_cell {κ : Type} [DecidableEq κ] {kv : κ → Value} {w w' : World} {b : Nat} {L : List (κ × Value)} (h : MapAt kv w b L) (hg : w.grownBy w' (some b)) {a : Addr} {v : Value} (hc : w.cell? a = some v) : w'.cell? a = some v :=
  hg.cell hc (fun e => map_ne_cell h hc (by injection e))
theorem und3 : Tryz.prog.underlying 3 = some (.int .i64) := by kernel_rfl
theorem und9 : Tryz.prog.underlying 9 = some .string := by kernel_rfl
theorem intKey : KeyKind (Value.int .i64) 3 (.int .i64) := ⟨und3, fun _ => rfl, fun a b => by simp [Instr.sameNow, Bool.beq_eq_decide_eq]⟩
theorem strKey : KeyKind Value.string 9 .string := ⟨und9, fun _ => trivial, fun a b => by
  simp only [Instr.sameNow, Option.some.injEq]
  rw [Bool.eq_iff_iff, decide_eq_true_iff, bytes_beq]⟩
theorem und399 : Tryz.prog.underlying 399 = some (.map 3 4) := by kernel_rfl
theorem zero4 (w : World) : (zeroValue 4).run Tryz.prog w = .ok (.bool false) w := by kernel_rfl
end Go.Proofs.YtbgilebgdbgddaaGreatDoor
