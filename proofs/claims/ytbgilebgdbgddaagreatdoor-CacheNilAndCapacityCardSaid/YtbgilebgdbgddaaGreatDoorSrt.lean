/- reduce.sorted -/
import Derived.Test.YtbgilebgdbgddaaGreatDoorSer
set_option linter.unusedVariables false
set_option linter.unusedSimpArgs false
namespace Go.Proofs.YtbgilebgdbgddaaGreatDoor
open Go.RowKit
/-- A property of the world that hangs on the blocks from B on, but for one row's. -/
def Hangs (B : Nat) (r : Option Nat) (w : World) (P : World → Prop) : Prop := ∀ w', (∀ k, B ≤ k → k < w.heap.size → some k ≠ r → w'.heap[k]? = w.heap[k]?) → P w'
theorem Hangs.here {B : Nat} {r : Option Nat} {w : World} {P : World → Prop} (h : Hangs B r w P) : P w := h w fun _ _ _ _ => rfl
theorem Hangs.to {B : Nat} {r r' : Option Nat} {w w1 : World} {P : World → Prop} (h : Hangs B r w P) (hs : w.heap.size ≤ w1.heap.size) (hg : ∀ k, B ≤ k → k < w.heap.size → some k ≠ r → w1.heap[k]? = w.heap[k]?) (hr : ∀ k, k < w.heap.size → some k = r' → some k = r) : Hangs B r' w1 P := fun w' h' =>
  h w' fun k h1 h2 h3 => (h' k h1 (Nat.lt_of_lt_of_le h2 hs) (fun e => h3 (hr k h2 e))).trans (hg k h1 h2 h3)
theorem Hangs.bel {B : Nat} {r : Option Nat} {w w1 : World} {P : World → Prop} (h : Hangs B r w P) (hb : Bel w w1) : Hangs B r w1 P :=
  h.to hb.size (fun k _ h2 _ => hb.block k h2) (fun _ _ e => e)
theorem Hangs.grow {B : Nat} {r : Option Nat} {w w1 : World} {P : World → Prop} {g : Nat} (h : Hangs B r w P) (hg : w.grownBy w1 r) (hat : r = some g ∨ g = w.heap.size) : Hangs B (some g) w1 P :=
  h.to hg.size (fun k _ h2 h3 => hg.block k h2 h3) (fun k h2 e => by
    rcases hat with h | h
    · rw [h]; exact e
    · injection e with e; omega)
/-- Later, of blocks that are all new, beside any older row. -/
theorem Hangs.younger {B B' : Nat} {r : Option Nat} {w : World} {P : World → Prop} (h : Hangs B' none w P) (hB : B ≤ B') (hr : ∀ g, r = some g → g < B') : Hangs B r w P := fun w' h' =>
  h w' fun k h1 h2 _ => h' k (Nat.le_trans hB h1) h2 (fun e => by have := hr k e.symm; omega)
theorem Hangs.set {B : Nat} {r : Option Nat} {w : World} {P : World → Prop} (h : Hangs B r w P) (m i : Nat) (u : Value) (hm : m < B) : Hangs B r (w.setCell ⟨m, i, none⟩ u) P :=
  h.to (by simp [World.setCell]) (fun k h1 _ _ => set_far w (by omega) i u) (fun _ _ e => e)
theorem Hangs.set' {B : Nat} {r : Option Nat} {w : World} {P : World → Prop} (h : Hangs B r w P) (m i : Nat) (u : Value) (hm : m < B) : Hangs B r (w.setCell ⟨m, i, none⟩ u) P := h.set m i u hm
structure OwnT2 (B : Nat) (w : World) (d : Nat) (v : Value) (ts : List Tr) : Prop where
  ex : ∃ cs : List Value, w.ownsRow B 332 3 v ts.length cs ∧ ∀ i t, ts[i]? = some t → ∃ c3, Hangs B v.ownBlock w (fun w' => TreeT d w' t c3) ∧ ∀ j u, c3[j]? = some u → cs[i * 3 + j]? = some u
theorem OwnT2.nil (B : Nat) (w : World) (d : Nat) : OwnT2 B w d (.slice none 0 0) [] := ⟨⟨[], World.ownsRow_nil _ _ _ _, fun i t h => by simp at h⟩⟩
theorem OwnT2.bel {B : Nat} {w w1 : World} {d : Nat} {v : Value} {ts : List Tr} (h : OwnT2 B w d v ts) (hb : Bel w w1) : OwnT2 B w1 d v ts := by
  obtain ⟨cs, ho, hx⟩ := h.ex
  exact ⟨cs, own_bel ho hb, fun i t hi => let ⟨c3, h1, h2⟩ := hx i t hi; ⟨c3, h1.bel hb, h2⟩⟩
theorem OwnT2.set {B : Nat} {w : World} {d : Nat} {v : Value} {ts : List Tr} (h : OwnT2 B w d v ts) (m i : Nat) (u : Value) (hm : m < B) : OwnT2 B (w.setCell ⟨m, i, none⟩ u) d v ts := by
  obtain ⟨cs, ho, hx⟩ := h.ex
  refine ⟨cs, own_far ho fun g hg _ => set_far w ?_ i u, fun i' t hi => let ⟨c3, h1, h2⟩ := hx i' t hi; ⟨c3, h1.set m i u hm, h2⟩⟩
  rcases ho.2 with ⟨rfl, _⟩ | ⟨g', cap, cur, rfl, hb, _⟩
  · simp [Value.ownBlock] at hg
  · simp [Value.ownBlock] at hg
    omega
/-- The row as a node's kids: it hangs on new blocks alone. -/
theorem OwnT2.node {B : Nat} {w : World} {d : Nat} {v : Value} {ts : List Tr} (h : OwnT2 B w d v ts) (kind n : Int) : Hangs B none w (fun w' => TreeT (d + 1) w' (.node kind n ts) [.int .i64 kind, .int .i64 n, v]) := by
  obtain ⟨cs, ho, hx⟩ := h.ex
  intro w' h'
  have hO : OwnTr w' w' B d v ts := by
    refine ⟨cs, own_far ho fun g hg hl => ?_, fun i t hi => ?_⟩
    · refine h' g ?_ hl (by simp)
      rcases ho.2 with ⟨rfl, _⟩ | ⟨g', cap, cur, rfl, hb, _⟩
      · simp [Value.ownBlock] at hg
      · simp [Value.ownBlock] at hg
        omega
    · obtain ⟨c3, h1, h2⟩ := hx i t hi
      have h3 := h1 w' fun k q1 q2 _ => h' k q1 q2 (by simp)
      exact ⟨c3, h3, h3.len, h2⟩
  exact ⟨v, rfl, hO.read (Bel.refl _), fun _ => hO.is332⟩
theorem OwnT2.snoc {B : Nat} {w w1 : World} {d : Nat} {v : Value} {ts : List Tr} {cs c : List Value} {g cap : Nat} {t : Tr}
    (hx : ∀ i t, ts[i]? = some t → ∃ c3, Hangs B v.ownBlock w (fun w' => TreeT d w' t c3) ∧ ∀ j u, c3[j]? = some u → cs[i * 3 + j]? = some u) (hl : cs.length = ts.length * 3)
    (ho : w1.ownsRow B 332 3 (.slice (some ⟨g, 0, none⟩) (ts.length + 1) cap) (ts.length + 1) (cs ++ c)) (hg : w.grownBy w1 v.ownBlock) (hat : v.ownBlock = some g ∨ g = w.heap.size) (ht : Hangs B v.ownBlock w (fun w' => TreeT d w' t c)) :
    OwnT2 B w1 d (.slice (some ⟨g, 0, none⟩) (ts.length + 1) cap) (ts ++ [t]) := by
  refine ⟨cs ++ c, by rw [List.length_append]; exact ho, fun i t' hi => ?_⟩
  have hcl : c.length = 3 := ht.here.len
  rcases Nat.lt_or_ge i ts.length with h | h
  · rw [List.getElem?_append_left h] at hi
    obtain ⟨c3, h1, h2⟩ := hx i t' hi
    refine ⟨c3, h1.grow hg hat, fun j u hu => ?_⟩
    have hj := (List.getElem?_eq_some_iff.1 hu).1
    have := h1.here.len
    rw [List.getElem?_append_left (by omega)]
    exact h2 j u hu
  · rw [List.getElem?_append_right h] at hi
    have hi0 : i - ts.length = 0 := by
      have := (List.getElem?_eq_some_iff.1 hi).1
      simp at this; omega
    rw [hi0] at hi
    simp at hi
    subst hi
    refine ⟨c, ht.grow hg hat, fun j u hu => ?_⟩
    rw [List.getElem?_append_right (by omega), show i * 3 + j - cs.length = j by omega]
    exact hu
/-- What slices.SortFunc does to a row of trees. -/
def SortLaw (N : Nat) : Prop := ∀ (B : Nat) (w : World) (d : Nat) (v : Value) (ts : List Tr), OwnT2 B w d v ts → (∀ k ∈ ts, TrV N d k) → (ts.flatMap (lvF d)).Nodup → 0 < ts.length →
  Calls Tryz.prog 273 #[v, .func (.func 274) #[] #[]] w fun e w' => e = .returned (.tuple #[]) ∧ OwnT2 B w' d v (sortT (fun k => minL (lvF d k)) ts) ∧ w.grownBy w' v.ownBlock
/-- No Parallel node. -/
def NoPar : Nat → Tr → Prop
  | 0, _ => True
  | d + 1, t => t.kind ≠ 2 ∧ ∀ k ∈ t.kids, NoPar d k
theorem len_flat_one {α β : Type} (f : α → List β) : ∀ (l : List α) (x : α), x ∈ l → (f x).length ≤ (l.flatMap f).length
  | a :: l, x, h => by
    rw [List.flatMap_cons, List.length_append]
    rcases List.mem_cons.1 h with rfl | h
    · omega
    · have := len_flat_one f l x h
      omega
theorem cell_set1 {w : World} {p0 a : Addr} {u0 v : Value} (h : w.cell? a = some v) (h0 : p0 ≠ a) : (w.setCell p0 u0).cell? a = some v := by
  rw [World.cell?_setCell_other (h := h0)]
  exact h
theorem grown_far {w w' : World} {r : Option Nat} {a : Addr} {v : Value} (hg : w.grownBy w' r) (hc : w.cell? a = some v) (hne : some a.block ≠ r) : w'.cell? a = some v := (hg.cell_far a (lt_cell hc) hne).trans hc
theorem own_lt {w : World} {B n : Nat} {e : TypeId} {sz : Nat} {v : Value} {xs : List Value} (ho : w.ownsRow B e sz v n xs) : ∀ g, v.ownBlock = some g → g < w.heap.size := fun m h => by
  rcases ho.2 with ⟨rfl, _⟩ | ⟨g, cap, cur, rfl, _, hh, _⟩
  · simp [Value.ownBlock] at h
  · simp [Value.ownBlock] at h
    subst h
    exact (Array.getElem?_eq_some_iff.1 hh).1
theorem own_ge {w : World} {B n : Nat} {e : TypeId} {sz : Nat} {v : Value} {xs : List Value} (ho : w.ownsRow B e sz v n xs) : ∀ m, m < B → some m ≠ v.ownBlock := fun m hm h => by
  rcases ho.2 with ⟨rfl, _⟩ | ⟨g, cap, cur, rfl, hb, _⟩
  · simp [Value.ownBlock] at h
  · simp [Value.ownBlock] at h; omega
set_option maxRecDepth 100000 in
set_option maxHeartbeats 4000000 in
theorem sorted_249 (N : Nat) (hN : N ≤ 1000) : ∀ (d : Nat) (t : Tr) (cs : List Value) (w : World), TreeE d w t cs → TrV N d t → (lvF d t).Nodup → NoPar d t ∨ SortLaw N → (lvF d t).length ≤ 100000 →
    Calls Tryz.prog 249 #[.agg cs.toArray] w fun e w' => ∃ c, e = .returned (.agg c.toArray) ∧ Bel w w' ∧ Hangs w.heap.size none w' (fun w'' => TreeT d w'' (sortedF d t) c) := by
  intro d
  induction d with
  | zero => intro t cs w ht; exact ht.elim
  | succ d ih =>
    intro t cs w ht hv hnd hs hll
    have hkl := kids_le hv
    have hv0 := Lib.hid hv
    obtain ⟨vk, rfl, hks⟩ := ht
    obtain ⟨ak, ck, rfl, hk1, hk2, _⟩ := hks.ex
    obtain ⟨kind, n, kids⟩ := t
    simp only [Tr.kind_node, Tr.n_node, Tr.kids_node] at *
    have hkv : ∀ k ∈ kids, TrV N d k ∧ (lvF d k).Nodup ∧ (NoPar d k ∨ SortLaw N) ∧ (lvF d k).length ≤ 100000 := by
      intro k hk
      rcases hv with ⟨_, _, _, h⟩ | ⟨h0, _, _, h⟩
      · simp only [Tr.kids_node] at h; rw [h] at hk; simp at hk
      · simp only [Tr.kind_node, Tr.kids_node] at h0 h
        have hlv : lvF (d + 1) (.node kind n kids) = kids.flatMap (lvF d) := if_neg (by simp only [Tr.kind_node]; omega)
        rw [hlv] at hnd hll
        refine ⟨(h k hk).2, nodup_flat_one _ hnd k hk, hs.imp (fun h => h.2 k hk) id, ?_⟩
        refine Nat.le_trans ?_ hll
        exact len_flat_one (lvF d) kids k hk
    have hk2' : kind = 2 → SortLaw N ∧ ((kids.map (sortedF d)).flatMap (lvF d)).Nodup ∧ 0 < kids.length := by
      intro h2
      rcases hv with ⟨h0, _⟩ | ⟨h0, _, h1, h⟩
      · simp only [Tr.kind_node] at h0; omega
      · simp only [Tr.kids_node] at h h1
        have hlv : lvF (d + 1) (.node kind n kids) = kids.flatMap (lvF d) := if_neg (by simp only [Tr.kind_node]; omega)
        rw [hlv] at hnd
        exact ⟨hs.resolve_left (fun hh => hh.1 h2), (flatMap_map_lv (fun t ht => (sortedF_ok d t ht).2) kids fun k hk => (h k hk).2).nodup_iff.2 hnd, by omega⟩
    have hkm : ∀ k ∈ kids.map (sortedF d), TrV N d k := fun k hk => by
      obtain ⟨k', hk', rfl⟩ := List.mem_map.1 hk
      exact (sortedF_ok d k' (hkv k' hk').1).1
    have HS := Lib.hid (show sortedF (d + 1) (.node kind n kids) = .node kind n (if kind = 2 then sortT (fun k => minL (lvF d k)) (kids.map (sortedF d)) else kids.map (sortedF d)) from rfl)
    have HK := Lib.hid hk2'
    have HM := Lib.hid hkm
    clear hk2' hkm
    clear hs hnd hv
    have hkb : kids.length ≤ 100000 := Nat.le_trans hkl hll
    clear hkl hll
    go_enter Tryz.func249, Tryz.ntmps249
    go_wp2_with fail
    obtain ⟨W, hW⟩ : ∃ W, W = (((w.alloc (.cells #[.int .i64 kind, .int .i64 n, .slice ak kids.length ck] 332)).alloc (.cells #[.int .i64 0, .int .i64 0, .slice none 0 0] 332)).alloc (.cells #[.int .i64 kind, .int .i64 n, .slice none 0 0] 332)) := ⟨_, rfl⟩
    rw [← hW]
    have hB : Bel w W := by rw [hW]; exact ((((Bel.refl w).alloc _).alloc _).alloc _)
    have q0 : Blk W w.heap.size #[.int .i64 kind, .int .i64 n, .slice ak kids.length ck] 332 := by rw [hW]; exact ((Blk.new w _ _).alloc _).alloc _
    have q2 : Blk W (w.heap.size + 1) #[.int .i64 0, .int .i64 0, .slice none 0 0] 332 := by rw [hW]; exact (Blk.new1 w _ _ _).alloc _
    have q3 : Blk W (w.heap.size + 1 + 1) #[.int .i64 kind, .int .i64 n, .slice none 0 0] 332 := by rw [hW]; exact Blk.new2 w _ _ _ _
    have hsz : W.heap.size = w.heap.size + 1 + 1 + 1 := by rw [hW]; simp
    clear hW
    obtain ⟨B, hBe⟩ : ∃ B, B = W.heap.size := ⟨_, rfl⟩
    obtain ⟨B2, hB2⟩ : ∃ B2, B2 = w.heap.size + 1 := ⟨_, rfl⟩
    rw [← hB2] at q2 q3 hsz ⊢
    obtain ⟨B3, hB3⟩ : ∃ B3, B3 = B2 + 1 := ⟨_, rfl⟩
    rw [← hB3] at q3 hsz ⊢
    have g2 : w.heap.size < B2 := by omega
    have g3 : B2 < B3 := by omega
    have gB : B3 < B := by omega
    have gW : B ≤ W.heap.size := by omega
    clear hBe hB2 hB3 hsz
    go_loopw [14] (fun x wr => ∃ i : Nat, i ≤ kids.length ∧ x = .int .i64 i ∧ Bel w wr ∧ B ≤ wr.heap.size ∧ Blk wr w.heap.size #[.int .i64 kind, .int .i64 n, .slice ak kids.length ck] 332 ∧ Blk wr B2 #[.int .i64 0, .int .i64 0, .slice none 0 0] 332 ∧ ∃ v, Blk wr B3 #[.int .i64 kind, .int .i64 n, v] 332 ∧ OwnT2 B wr d v ((kids.take i).map (sortedF d))) (fun x _ => kids.length - (intOf x).toNat)
    case atStart => exact ⟨0, Nat.zero_le _, rfl, hB, gW, q0, q2, _, q3, OwnT2.nil _ _ _⟩
    case round =>
      clear hB q0 q2 q3 gW
      obtain ⟨i, hi, rfl, hB, gW, q0, q2, v, q3, hrow⟩ := hrel
      by_cases hlt : i < kids.length
      · have hg := List.getElem?_eq_getElem hlt
        have hki := hkv _ (List.getElem_mem hlt)
        have hksr := hks.bel (TreeE.mono d) hB
        obtain ⟨b, off, d', v3, rfl, rfl, hs3, c0, c1, c2⟩ := hksr.tree hg
        have hT : (kids.take (i + 1)).map (sortedF (d' + 1)) = (kids.take i).map (sortedF (d' + 1)) ++ [sortedF (d' + 1) kids[i]] := by
          rw [List.take_succ_eq_append_getElem hlt, List.map_append]; rfl
        have hTl : ((kids.take i).map (sortedF (d' + 1))).length = i := by rw [List.length_map, List.length_take]; omega
        have hT2 := Lib.hid hT
        have hTl2 := Lib.hid hTl
        clear hT hTl
        generalize kids[i] = k at *
        generalize (kids.take i).map (sortedF (d' + 1)) = ts at *
        obtain ⟨a3, p3, rfl, _⟩ := hs3.ex
        have hek : TreeE (d' + 1) wr k [.int .i64 k.kind, .int .i64 k.n, .slice a3 k.kids.length p3] := ⟨_, rfl, hs3⟩
        have Hek := Lib.hid hek
        clear hek hs3
        obtain ⟨cs, ho, hxs⟩ := hrow.ex
        obtain ⟨Av, cv, rfl, _⟩ := own_slice ho
        have hB1 : Bel wr (wr.alloc (.cells #[.int .i64 k.kind, .int .i64 k.n, .slice a3 k.kids.length p3] 332)) := (Bel.refl wr).alloc _
        have qk : Blk (wr.alloc (.cells #[.int .i64 k.kind, .int .i64 k.n, .slice a3 k.kids.length p3] 332)) wr.heap.size #[.int .i64 k.kind, .int .i64 k.n, .slice a3 k.kids.length p3] 332 := Blk.new wr _ _
        go_wp2_with fail
        generalize (wr.alloc (.cells #[.int .i64 k.kind, .int .i64 k.n, .slice a3 k.kids.length p3] 332)) = W2 at *
        have hcall := fun W (hb : Bel W2 W) => ih k [.int .i64 k.kind, .int .i64 k.n, .slice a3 k.kids.length p3] W (TreeE.mono _ _ _ _ _ Hek.out (hB1.trans hb)) hki.1 hki.2.1 hki.2.2.1 hki.2.2.2
        obtain ⟨KK, hKK⟩ : ∃ KK, KK = sortedF (d' + 1) k := ⟨_, rfl⟩
        rw [← hKK] at hcall hT2
        clear hKK ih hki
        have qk0 := qk.cell 0 rfl; have qk1 := qk.cell 1 rfl; have qk2 := qk.cell 2 rfl
        have hS : W2.cell? ⟨wr.heap.size, 0, none⟩ = some (.int .i64 k.kind) ∧ W2.cell? ⟨wr.heap.size, 1, none⟩ = some (.int .i64 k.n) ∧ W2.cell? ⟨wr.heap.size, 2, none⟩ = some (.slice a3 k.kids.length p3) := ⟨qk0, qk1, qk2⟩
        have hKB := qk.lt
        have z2 := (q3.bel hB1).cell 2 rfl
        have hge := own_ge ho
        have htl : ts.length < 100000 := by have := hTl2.out; omega
        have hlc : cs.length = ts.length * 3 := ho.1
        have hKv : ∀ g, (Value.slice Av ts.length cv).ownBlock = some g → g < wr.heap.size := own_lt ho
        have hneK : some wr.heap.size ≠ (Value.slice Av ts.length cv).ownBlock := fun e => by have := hKv _ e.symm; omega
        have hneB : some B3 ≠ (Value.slice Av ts.length cv).ownBlock := hge _ gB
        have hBK : B3 ≠ wr.heap.size := by omega
        go_region_law (first | (go_simp; go_at_call 249; refine (hcall _ (Bel.refl _).drew).mono ?_; rintro en w3 ⟨c, rfl, hb3, hh3⟩; obtain ⟨v5, hc5, hs5, _⟩ := hh3.here; subst hc5; obtain ⟨a5, p5, rfl, _⟩ := hs5.ex; clear hs5; have hb23 : Bel W2 w3 := (Bel.refl W2).drew.trans hb3; have k2 := hb23.cell z2; have k2a := fun o => (hb23.alloc o).cell z2; have hb9 : Bel W2 (w3.alloc (.cells #[.int .i64 KK.kind, .int .i64 KK.n, .slice a5 KK.kids.length p5] 332)) := hb23.alloc _; have ho9 := own_bel ho (hB1.trans hb9); have hnb9 : Blk (w3.alloc (.cells #[.int .i64 KK.kind, .int .i64 KK.n, .slice a5 KK.kids.length p5] 332)) w3.heap.size #[.int .i64 KK.kind, .int .i64 KK.n, .slice a5 KK.kids.length p5] 332 := Blk.new w3 _ _; have hone9 : ∀ u ∈ [Value.int .i64 KK.kind, .int .i64 KK.n, .slice a5 KK.kids.length p5], u.oneCell' = true := treeT_one hh3.here; have hba9 : B ≤ (w3.alloc (.cells #[.int .i64 KK.kind, .int .i64 KK.n, .slice a5 KK.kids.length p5] 332)).heap.size := Nat.le_trans gW (hB1.trans hb9).size; have q39 := (q3.bel hB1).bel hb9) | (refine step_app und330 info332 rfl (by decide) (by decide) (by rfl) (.tmp 19) (.tmp 22) (by rfl) (by rfl) ho9 (m := 1) (news := [Value.int .i64 KK.kind, .int .i64 KK.n, .slice a5 KK.kids.length p5]) (by rfl) (by rfl) hnb9.news hone9 (by decide) (by omega) hba9 ?_; intro g cap w7 ho7 hgr htf hat; have hgr' : World.grownBy _ w7 (Value.slice Av ts.length cv).ownBlock := hgr; have q37 := grown_blk q39 hgr' hneB; have q3c := q37.cell 2 rfl; have q3f := q37.frozen 2))
        all_goals
          have hat' : (Value.slice Av ts.length cv).ownBlock = some g ∨ g = _ := hat
          have hbw9 := hB1.trans hb9
          have hKs := hKv
          clear k2 k2a q3c q3f z2 hS hcall
          go_wp2_with fail
          go_roundw
        all_goals first
          | (simp [intOf]; omega)
          | (refine ⟨i + 1, by omega, by go_num, ((htf.mono (show w.heap.size ≤ B by omega)).toBel (hB.trans hbw9)).setCell (by show w.heap.size ≤ B3; omega) _, ?_, (grown_blk (q0.bel hbw9) hgr' (hge _ (by omega))).set_other (by show B3 ≠ w.heap.size; omega) _, (grown_blk (q2.bel hbw9) hgr' (hge _ (by omega))).set_other (by show B3 ≠ B2; omega) _, _, q37.set 2 _, ?_⟩
             focus
               rw [show (w7.setCell ⟨B3, 2, none⟩ (.slice (some ⟨g, 0, none⟩) (ts.length + 1) cap)).heap.size = w7.heap.size by simp [World.setCell]]
               exact Nat.le_trans hba9 hgr'.size
             focus
               rw [hT2.out]
               refine (OwnT2.snoc (w := _) (fun i t hi => let ⟨c3, h1, h2⟩ := hxs i t hi; ⟨c3, h1.bel hbw9, h2⟩) hlc ho7 hgr' hat' ?_).set B3 2 _ gB
               exact (hh3.bel ((Bel.refl w3).alloc _)).younger (Nat.le_trans gW hB1.size) (fun g' hg' => Nat.lt_of_lt_of_le (hKs g' hg') hB1.size))
      · obtain rfl : i = kids.length := by omega
        rw [List.take_length] at hrow
        obtain ⟨cs, ho, _⟩ := hrow.ex
        obtain ⟨Av, cv, rfl, _⟩ := own_slice ho
        obtain ⟨LN, hLN⟩ : ∃ LN, LN = (kids.map (sortedF d)).length := ⟨_, rfl⟩
        rw [← hLN] at hrow q3
        have HLN := Lib.hid hLN
        clear hLN ho ih hkv hks
        by_cases hk2 : kind = 2
        · obtain ⟨hsl, hnd, hpos⟩ := HK.out hk2
          subst hk2
          have e0 := q3.cell 0 rfl; have e2 := q3.cell 2 rfl
          have hcall := hsl B wr d (.slice Av LN cv) _ hrow HM.out hnd (by rw [List.length_map]; exact hpos)
          have hge : ∀ m, m < B → some m ≠ (Value.slice Av LN cv).ownBlock := by obtain ⟨_, ho, _⟩ := hrow.ex; exact own_ge ho
          clear hsl hnd
          generalize sortT (fun k => minL (lvF d k)) (kids.map (sortedF d)) = KS at *
          go_wp2_with (first | (go_at_call 273; refine hcall.mono ?_; rintro en w5 ⟨rfl, hrow, hgr5⟩; have e0 := (grown_blk q3 hgr5 (hge _ gB)).cell 0 rfl; have e1 := (grown_blk q3 hgr5 (hge _ gB)).cell 1 rfl; have e2 := (grown_blk q3 hgr5 (hge _ gB)).cell 2 rfl; have q2 := grown_blk q2 hgr5 (hge _ (by omega)); have l0 := q2.cell 0 rfl; have l1 := q2.cell 1 rfl; have l2 := q2.cell 2 rfl; have m0 := q2.frozen 0; have m1 := q2.frozen 1; have m2 := q2.frozen 2))
          have hB5 : Bel w w5 := ⟨hgr5.os.trans hB.os, hgr5.tape.trans hB.tape, hgr5.output.trans hB.output, Nat.le_trans hB.size hgr5.size, fun k hk => (hgr5.block k (Nat.lt_of_lt_of_le hk hB.size) (hge k (by omega))).trans (hB.block k hk)⟩
          have z6 := (((q2.set 0 (.int .i64 2)).set 1 (.int .i64 n)).set 2 (.slice Av LN cv))
          have hR := ((hrow.set B2 0 (.int .i64 2) (by omega)).set B2 1 (.int .i64 n) (by omega)).set B2 2 (.slice Av LN cv) (by omega)
          have hBz : Bel w (((w5.setCell ⟨B2, 0, none⟩ (.int .i64 2)).setCell ⟨B2, 1, none⟩ (.int .i64 n)).setCell ⟨B2, 2, none⟩ (.slice Av LN cv)) := ((hB5.setCell (by show w.heap.size ≤ B2; omega) _).setCell (by show w.heap.size ≤ B2; omega) _).setCell (by show w.heap.size ≤ B2; omega) _
          generalize (((w5.setCell ⟨B2, 0, none⟩ (.int .i64 2)).setCell ⟨B2, 1, none⟩ (.int .i64 n)).setCell ⟨B2, 2, none⟩ (.slice Av LN cv)) = W9 at *
          have y0 := z6.cell 0 rfl; have y1 := z6.cell 1 rfl; have y2 := z6.cell 2 rfl
          refine bodyPost_ret (v := .agg #[.int .i64 2, .int .i64 n, .slice Av LN cv]) (by simp [results, Tryz.results249, go_sem, y0, y1, y2]) rfl ⟨[.int .i64 2, .int .i64 n, .slice Av LN cv], rfl, hBz, ?_⟩
          rw [HS.out, if_pos trivial]
          exact (hR.node 2 n).younger (by omega) (fun g hg => by cases hg)
        · have hk2b : (kind == 2) = false := by simpa using hk2
          have e0 := q3.cell 0 rfl; have e1 := q3.cell 1 rfl; have e2 := q3.cell 2 rfl
          have l0 := q2.cell 0 rfl; have l1 := q2.cell 1 rfl; have l2 := q2.cell 2 rfl
          have m0 := q2.frozen 0; have m1 := q2.frozen 1; have m2 := q2.frozen 2
          go_wp2_with fail
          have z6 := (((q2.set 0 (.int .i64 kind)).set 1 (.int .i64 n)).set 2 (.slice Av LN cv))
          have hR := ((hrow.set B2 0 (.int .i64 kind) (by omega)).set B2 1 (.int .i64 n) (by omega)).set B2 2 (.slice Av LN cv) (by omega)
          have hBz : Bel w (((wr.setCell ⟨B2, 0, none⟩ (.int .i64 kind)).setCell ⟨B2, 1, none⟩ (.int .i64 n)).setCell ⟨B2, 2, none⟩ (.slice Av LN cv)) := ((hB.setCell (by show w.heap.size ≤ B2; omega) _).setCell (by show w.heap.size ≤ B2; omega) _).setCell (by show w.heap.size ≤ B2; omega) _
          generalize (((wr.setCell ⟨B2, 0, none⟩ (.int .i64 kind)).setCell ⟨B2, 1, none⟩ (.int .i64 n)).setCell ⟨B2, 2, none⟩ (.slice Av LN cv)) = W9 at *
          have y0 := z6.cell 0 rfl; have y1 := z6.cell 1 rfl; have y2 := z6.cell 2 rfl
          refine bodyPost_ret (v := .agg #[.int .i64 kind, .int .i64 n, .slice Av LN cv]) (by simp [results, Tryz.results249, go_sem, y0, y1, y2]) rfl ⟨[.int .i64 kind, .int .i64 n, .slice Av LN cv], rfl, hBz, ?_⟩
          rw [HS.out, if_neg hk2]
          exact (hR.node kind n).younger (by omega) (fun g hg => by cases hg)
end Go.Proofs.YtbgilebgdbgddaaGreatDoor
