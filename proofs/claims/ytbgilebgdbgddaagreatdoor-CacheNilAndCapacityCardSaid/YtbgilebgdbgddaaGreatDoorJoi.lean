/- reduce.join -/
import Derived.Test.YtbgilebgdbgddaaGreatDoorRdf
import Derived.Test.YtbgilebgdbgddaaGreatDoorBas
set_option linter.unusedVariables false
set_option linter.unusedSimpArgs false
namespace Go.Proofs.YtbgilebgdbgddaaGreatDoor
open Go.RowKit
/-- The value is nil or lies in a row of trees. -/
def Is332 (w : World) (v : Value) : Prop := ∀ b off n c, v = .slice (some ⟨b, off, none⟩) n c → ∃ cs fr, w.heap[b]? = some (.cells cs 332 fr)
/-- A tree in memory, its rows of kids known as such. -/
def TreeT : Nat → Enc Tr
  | 0 => fun _ _ _ => False
  | d + 1 => fun w t cs => ∃ v, cs = [.int .i64 t.kind, .int .i64 t.n, v] ∧ SlAt (TreeT d) 3 w v t.kids ∧ (t.kids ≠ [] → Is332 w v)
theorem Is332.tfr {T : List TypeId} {B : Nat} {w w' : World} (h : TFr T B w w') (hT : 332 ∉ T) {v : Value} (hi : Is332 w v) : Is332 w' v := fun b off n c e => by
  obtain ⟨arr, fr, hb⟩ := hi b off n c e
  exact ⟨arr, fr, (h.block b (Array.getElem?_eq_some_iff.1 hb).1 (.inr (by rw [hb]; exact hT))).trans hb⟩
theorem TreeT.tfr {T : List TypeId} {B : Nat} {w w' : World} (h : TFr T B w w') (hT : 332 ∉ T) : ∀ (d : Nat) (t : Tr) (cs : List Value), TreeT d w t cs → TreeT d w' t cs
  | 0, _, _, hh => hh.elim
  | d + 1, t, _, ⟨v, e, hs, hi⟩ => by
    refine ⟨v, e, ?_, fun hk => (hi hk).tfr h hT⟩
    obtain ⟨a, cap, hv, hl, hc, hx⟩ := hs.ex
    refine ⟨a, cap, hv, hl, hc, fun i x hxi => ?_⟩
    obtain ⟨b, off, cs, ha, he, hsz, hcs⟩ := hx i x hxi
    have hk : t.kids ≠ [] := by intro e; rw [e] at hxi; simp at hxi
    obtain ⟨arr, fr, hb⟩ := hi hk b off _ _ (by rw [hv, ha])
    have hb' : w'.heap[b]? = w.heap[b]? := h.block b (Array.getElem?_eq_some_iff.1 hb).1 (.inr (by rw [hb]; exact hT))
    exact ⟨b, off, cs, ha, TreeT.tfr h hT d _ _ he, hsz, fun j u hu => (World.cell?_of_block hb').trans (hcs j u hu)⟩
theorem TreeT.mono (d : Nat) : (TreeT d).Mono := fun _ _ _ _ h hb => TreeT.tfr (TFr.of_bel [] 0 hb) (by simp) d _ _ h
theorem TreeT.toE : ∀ {d : Nat} {w : World} {t : Tr} {cs : List Value}, TreeT d w t cs → TreeE d w t cs
  | d + 1, _, _, _, ⟨v, e, hs, _⟩ => ⟨v, e, hs.imp fun _ _ _ h => TreeT.toE h⟩
theorem TreeT.succ : ∀ {d : Nat} {w : World} {t : Tr} {cs : List Value}, TreeT d w t cs → TreeT (d + 1) w t cs
  | d + 1, _, _, _, ⟨v, e, hs, hi⟩ => ⟨v, e, hs.imp fun _ _ _ h => TreeT.succ h, hi⟩
theorem TreeT.le {d d' : Nat} (h : d ≤ d') {w : World} {t : Tr} {cs : List Value} (ht : TreeT d w t cs) : TreeT d' w t cs := by
  induction h with
  | refl => exact ht
  | step _ ih => exact ih.succ
theorem TreeT.len {d : Nat} {w : World} {t : Tr} {cs : List Value} (h : TreeT d w t cs) : cs.length = 3 := by
  cases d with
  | zero => exact h.elim
  | succ d => obtain ⟨v, rfl, _⟩ := h; rfl
/-- A row of trees that is owned: its cells, and what they read as (at an older world). -/
structure OwnTr (W0 w : World) (base d : Nat) (v : Value) (ts : List Tr) : Prop where
  ex : ∃ cs : List Value, w.ownsRow base 332 3 v ts.length cs ∧ ∀ i t, ts[i]? = some t → ∃ c3, TreeT d W0 t c3 ∧ c3.length = 3 ∧ ∀ j u, c3[j]? = some u → cs[i * 3 + j]? = some u
theorem OwnTr.nil (W0 w : World) (base d : Nat) : OwnTr W0 w base d (.slice none 0 0) [] := ⟨⟨[], World.ownsRow_nil _ _ _ _, fun i t h => by simp at h⟩⟩
theorem OwnTr.read {W0 w : World} {base d : Nat} {v : Value} {ts : List Tr} (h : OwnTr W0 w base d v ts) (hb : Bel W0 w) : SlAt (TreeT d) 3 w v ts := by
  obtain ⟨cs, ho, hx⟩ := h.ex
  rcases ho.2 with ⟨rfl, h0⟩ | ⟨g, cap, cur, rfl, hbg, hh, h1, h2, h3, h4⟩
  · have : ts = [] := List.eq_nil_of_length_eq_zero h0
    subst this
    exact SlAt.nil _ _ _
  · refine ⟨_, cap, rfl, h1, h2, fun i t hi => ?_⟩
    obtain ⟨c3, ht, hl3, hc⟩ := hx i t hi
    refine ⟨g, 0, c3, rfl, TreeT.mono d _ _ _ _ ht hb, hl3, fun j u hu => ?_⟩
    have hfl := hc j u hu
    have hq : Blk w g cur 332 := hh
    rw [← h4, List.getElem?_take] at hfl
    split at hfl
    · rw [Nat.zero_add]
      exact hq.cell _ (by simpa using hfl)
    · cases hfl
theorem OwnTr.snoc {W0 w w' : World} {base d : Nat} {v v' : Value} {ts us : List Tr} {cs ns : List Value} (ho : w.ownsRow base 332 3 v ts.length cs) (hx : ∀ i t, ts[i]? = some t → ∃ c3, TreeT d W0 t c3 ∧ c3.length = 3 ∧ ∀ j u, c3[j]? = some u → cs[i * 3 + j]? = some u)
    (ho' : w'.ownsRow base 332 3 v' (ts.length + us.length) (cs ++ ns)) (hn : ∀ i t, us[i]? = some t → ∃ c3, TreeT d W0 t c3 ∧ c3.length = 3 ∧ ∀ j u, c3[j]? = some u → ns[i * 3 + j]? = some u) : OwnTr W0 w' base d v' (ts ++ us) := by
  refine ⟨⟨cs ++ ns, by rw [List.length_append]; exact ho', fun i t hi => ?_⟩⟩
  have hl : cs.length = ts.length * 3 := ho.1
  rcases Nat.lt_or_ge i ts.length with h | h
  · rw [List.getElem?_append_left h] at hi
    obtain ⟨c3, h1, h2, h3⟩ := hx i t hi
    refine ⟨c3, h1, h2, fun j u hu => ?_⟩
    have hj : j < 3 := by have := (List.getElem?_eq_some_iff.1 hu).1; omega
    rw [List.getElem?_append_left (by omega)]
    exact h3 j u hu
  · rw [List.getElem?_append_right h] at hi
    obtain ⟨c3, h1, h2, h3⟩ := hn _ t hi
    refine ⟨c3, h1, h2, fun j u hu => ?_⟩
    have hj : j < 3 := by have := (List.getElem?_eq_some_iff.1 hu).1; omega
    rw [List.getElem?_append_right (by omega), hl, show i * 3 + j - ts.length * 3 = (i - ts.length) * 3 + j by omega]
    exact h3 j u hu
theorem OwnTr.is332 {W0 w : World} {base d : Nat} {v : Value} {ts : List Tr} (h : OwnTr W0 w base d v ts) : Is332 w v := by
  obtain ⟨cs, ho, _⟩ := h.ex
  intro b off n c e
  rcases ho.2 with ⟨rfl, _⟩ | ⟨g, cap, cur, rfl, _, hh, _⟩
  · cases e
  · injection e with e1 e2 e3
    injection e1 with e1
    injection e1 with e1 e4
    subst e1
    exact ⟨_, _, hh⟩
/-- The cells of a row that reads as a list. -/
theorem SlAt.cells {α : Type} {E : Enc α} {sz : Nat} {w : World} {b off n cap : Nat} {xs : List α} (h : SlAt E sz w (.slice (some ⟨b, off, none⟩) n cap) xs) (hsz : 0 < sz) :
    ∃ cs : List Value, cs.length = xs.length * sz ∧ (∀ j u, cs[j]? = some u → w.cell? ⟨b, off + j, none⟩ = some u) ∧ ∀ i x, xs[i]? = some x → ∃ c, E w x c ∧ c.length = sz ∧ ∀ j u, c[j]? = some u → cs[i * sz + j]? = some u := by
  obtain ⟨a', cap', hv, hq1, hq2, hx⟩ := h.ex
  injection hv with h1 h2 h3
  subst h1
  clear h2 h3 hq1 hq2
  have hx' : ∀ i x, xs[i]? = some x → ∃ cs, E w x cs ∧ cs.length = sz ∧ ∀ j u, cs[j]? = some u → w.cell? ⟨b, off + i * sz + j, none⟩ = some u := fun i x hi => by
    obtain ⟨b', off', cs, ha, he, hl, hc⟩ := hx i x hi
    injection ha with ha
    injection ha with ha1 ha2
    subst ha1; subst ha2
    exact ⟨cs, he, hl, hc⟩
  clear hx h
  induction xs generalizing off with
  | nil => exact ⟨[], by simp, fun j u hu => by simp at hu, fun i x hi => by simp at hi⟩
  | cons a l ih =>
    obtain ⟨c0, he0, hl0, hc0⟩ := hx' 0 a (by simp)
    obtain ⟨cs, hl, hc, hr⟩ := ih (off := off + sz) (fun i x hi => by
      obtain ⟨c, h1, h2, h3⟩ := hx' (i + 1) x (by simpa using hi)
      refine ⟨c, h1, h2, fun j u hu => ?_⟩
      have := h3 j u hu
      rw [Nat.succ_mul] at this
      rwa [show off + (i * sz + sz) + j = off + sz + i * sz + j by omega] at this)
    refine ⟨c0 ++ cs, by rw [List.length_append, hl0, hl, List.length_cons, Nat.succ_mul]; omega, fun j u hu => ?_, fun i x hi => ?_⟩
    · rcases Nat.lt_or_ge j sz with h | h
      · rw [List.getElem?_append_left (by omega)] at hu
        have := hc0 j u hu
        rwa [Nat.zero_mul, Nat.add_zero] at this
      · rw [List.getElem?_append_right (by omega), hl0] at hu
        have := hc _ u hu
        rwa [show off + sz + (j - sz) = off + j by omega] at this
    · cases i with
      | zero =>
        simp at hi
        subst hi
        refine ⟨c0, he0, hl0, fun j u hu => ?_⟩
        rw [Nat.zero_mul, Nat.zero_add, List.getElem?_append_left (List.getElem?_eq_some_iff.1 hu).1]
        exact hu
      | succ i =>
        simp at hi
        obtain ⟨c, h1, h2, h3⟩ := hr i x hi
        refine ⟨c, h1, h2, fun j u hu => ?_⟩
        rw [List.getElem?_append_right (by rw [hl0, Nat.succ_mul]; omega), hl0, Nat.succ_mul, show i * sz + sz + j - sz = i * sz + j by omega]
        exact h3 j u hu
theorem cells_mem {α : Type} {E : Enc α} {sz : Nat} {w : World} {xs : List α} {cs : List Value} (hl : cs.length = xs.length * sz) (hsz : 0 < sz) (hx : ∀ i x, xs[i]? = some x → ∃ c, E w x c ∧ c.length = sz ∧ ∀ j u, c[j]? = some u → cs[i * sz + j]? = some u) :
    ∀ u ∈ cs, ∃ x c, x ∈ xs ∧ E w x c ∧ u ∈ c := fun u hu => by
  obtain ⟨j, hj⟩ := List.mem_iff_getElem?.1 hu
  have hjl := (List.getElem?_eq_some_iff.1 hj).1
  have hi : j / sz < xs.length := Nat.div_lt_of_lt_mul (by rw [Nat.mul_comm]; omega)
  obtain ⟨c, h1, h2, h3⟩ := hx (j / sz) xs[j / sz] (List.getElem?_eq_getElem hi)
  have hr : j % sz < c.length := by rw [h2]; exact Nat.mod_lt _ hsz
  have := h3 (j % sz) c[j % sz] (List.getElem?_eq_getElem hr)
  rw [Nat.div_add_mod'] at this
  rw [hj] at this
  injection this with this
  exact ⟨_, c, List.getElem_mem hi, h1, by rw [this]; exact List.getElem_mem hr⟩
theorem own_far {w w' : World} {B n : Nat} {e : TypeId} {sz : Nat} {v : Value} {xs : List Value} (ho : w.ownsRow B e sz v n xs) (h : ∀ g, v.ownBlock = some g → g < w.heap.size → w'.heap[g]? = w.heap[g]?) : w'.ownsRow B e sz v n xs := by
  refine ⟨ho.1, ?_⟩
  rcases ho.2 with h1 | ⟨g, cap, cur, rfl, hb, hh, r⟩
  · exact .inl h1
  · refine .inr ⟨g, cap, cur, rfl, hb, ?_, r⟩
    rw [h g rfl (Array.getElem?_eq_some_iff.1 hh).1]
    exact hh
theorem set_far (w : World) {m g : Nat} (h : m ≠ g) (i : Nat) (u : Value) : (w.setCell ⟨m, i, none⟩ u).heap[g]? = w.heap[g]? := by
  simp only [World.setCell, Array.getElem?_modify]
  rw [if_neg h]
theorem OwnTr.far {W0 w w' : World} {base d : Nat} {v : Value} {ts : List Tr} (h : OwnTr W0 w base d v ts) (hw : ∀ g, v.ownBlock = some g → g < w.heap.size → w'.heap[g]? = w.heap[g]?) : OwnTr W0 w' base d v ts := by
  obtain ⟨cs, ho, hx⟩ := h.ex
  exact ⟨cs, own_far ho hw, hx⟩
theorem treeT_one {d : Nat} {w : World} {t : Tr} {c : List Value} (h : TreeT d w t c) : ∀ u ∈ c, u.oneCell' = true := by
  cases d with
  | zero => exact h.elim
  | succ d =>
    obtain ⟨v, rfl, h1, _⟩ := h
    obtain ⟨a, cap, rfl, _⟩ := h1.ex
    intro u hu
    simp at hu
    rcases hu with rfl | rfl | rfl <;> rfl
set_option maxRecDepth 100000 in
set_option maxHeartbeats 4000000 in
theorem join_any (kind : Int) (a b : Tr) (ca cb : List Value) (d : Nat) (w : World) (ha : TreeT (d + 1) w a ca) (hb : TreeT (d + 1) w b cb) (hk : kind = 1 ∨ kind = 2) (hna : a.kind = kind → 0 < a.kids.length) (hnb : b.kind = kind → 0 < b.kids.length) (hla : a.kids.length ≤ 10000) (hlb : b.kids.length ≤ 10000) :
    Calls Tryz.prog 271 #[.int .i64 kind, .agg ca.toArray, .agg cb.toArray] w fun e w' => ∃ c, e = .returned (.agg c.toArray) ∧ TreeT (d + 2) w' (joinF kind a b) c ∧ Bel w w' := by
  have ha0 := Lib.hid ha
  have hb0 := Lib.hid hb
  obtain ⟨va, rfl, hsa, hia⟩ := ha
  obtain ⟨vb, rfl, hsb, hib⟩ := hb
  obtain ⟨a1, c1, rfl, _⟩ := hsa.ex
  obtain ⟨a2, c2, rfl, _⟩ := hsb.ex
  obtain ⟨ka, na, la⟩ := a
  obtain ⟨kb, nb, lb⟩ := b
  simp only [Tr.kind_node, Tr.n_node, Tr.kids_node] at *
  go_enter Tryz.func271, Tryz.ntmps271
  go_wp2_with fail
  obtain ⟨W, hW⟩ : ∃ W, W = (((((w.alloc (.cells #[.int .i64 ka, .int .i64 na, .slice a1 la.length c1] 332)).alloc (.cells #[.int .i64 kb, .int .i64 nb, .slice a2 lb.length c2] 332)).alloc (.cells #[.int .i64 0, .int .i64 0, .slice none 0 0] 332)).alloc (.cells #[.int .i64 kind, .int .i64 0, .slice none 0 0] 332)).alloc (.cells #[.int .i64 ka, .int .i64 na, .slice a1 la.length c1, .int .i64 kb, .int .i64 nb, .slice a2 lb.length c2] 332)) := ⟨_, rfl⟩
  rw [← hW]
  have hB : Bel w W := by rw [hW]; exact (((((Bel.refl w).alloc _).alloc _).alloc _).alloc _).alloc _
  have q6 : Blk W (w.heap.size + 1 + 1) #[.int .i64 0, .int .i64 0, .slice none 0 0] 332 := by rw [hW]; exact ((Blk.new2 w _ _ _ _).alloc _).alloc _
  have q7 : Blk W (w.heap.size + 1 + 1 + 1) #[.int .i64 kind, .int .i64 0, .slice none 0 0] 332 := by
    rw [hW]
    have := Blk.new2 (w.alloc (.cells #[.int .i64 ka, .int .i64 na, .slice a1 la.length c1] 332)) (.cells #[.int .i64 kb, .int .i64 nb, .slice a2 lb.length c2] 332) (.cells #[.int .i64 0, .int .i64 0, .slice none 0 0] 332) #[.int .i64 kind, .int .i64 0, .slice none 0 0] 332
    rw [World.size_alloc] at this
    exact this.alloc _
  have q8 : Blk W (w.heap.size + 1 + 1 + 1 + 1) #[.int .i64 ka, .int .i64 na, .slice a1 la.length c1, .int .i64 kb, .int .i64 nb, .slice a2 lb.length c2] 332 := by
    rw [hW]
    have := Blk.new2 ((w.alloc (.cells #[.int .i64 ka, .int .i64 na, .slice a1 la.length c1] 332)).alloc (.cells #[.int .i64 kb, .int .i64 nb, .slice a2 lb.length c2] 332)) (.cells #[.int .i64 0, .int .i64 0, .slice none 0 0] 332) (.cells #[.int .i64 kind, .int .i64 0, .slice none 0 0] 332) #[.int .i64 ka, .int .i64 na, .slice a1 la.length c1, .int .i64 kb, .int .i64 nb, .slice a2 lb.length c2] 332
    rw [World.size_alloc, World.size_alloc] at this
    exact this
  clear hW
  obtain ⟨B6, h6⟩ : ∃ B6, B6 = w.heap.size + 1 + 1 := ⟨_, rfl⟩
  rw [← h6] at q6 q7 q8 ⊢
  obtain ⟨B7, h7⟩ : ∃ B7, B7 = B6 + 1 := ⟨_, rfl⟩
  rw [← h7] at q7 q8 ⊢
  obtain ⟨B8, h8⟩ : ∃ B8, B8 = B7 + 1 := ⟨_, rfl⟩
  rw [← h8] at q8 ⊢
  have g6 : w.heap.size ≤ B6 := by omega
  have g7 : B6 < B7 := by omega
  have g8 : B7 < B8 := by omega
  have hmem : ∀ j t, [Tr.node ka na la, Tr.node kb nb lb][j]? = some t → TreeT (d + 1) w t (if j = 0 then [.int .i64 ka, .int .i64 na, .slice a1 la.length c1] else [.int .i64 kb, .int .i64 nb, .slice a2 lb.length c2]) := by
    intro j t hj
    match j, hj with
    | 0, hj => simp at hj; subst hj; exact ha0.out
    | 1, hj => simp at hj; subst hj; exact hb0.out
  clear h6 h7 h8
  go_loopw [16] (fun x wr => ∃ j : Nat, j ≤ 2 ∧ x = .int .i64 j ∧ Bel w wr ∧ Blk wr B6 #[.int .i64 0, .int .i64 0, .slice none 0 0] 332 ∧ Blk wr B8 #[.int .i64 ka, .int .i64 na, .slice a1 la.length c1, .int .i64 kb, .int .i64 nb, .slice a2 lb.length c2] 332 ∧ ∃ v, Blk wr B7 #[.int .i64 kind, .int .i64 0, v] 332 ∧ OwnTr w wr w.heap.size (d + 1) v (([Tr.node ka na la, Tr.node kb nb lb].take j).flatMap (partF kind)) ∧ ∀ g, v.ownBlock = some g → B8 < g) (fun x _ => 2 - (intOf x).toNat)
  case atStart => exact ⟨0, by omega, rfl, hB, q6, q8, _, q7, OwnTr.nil _ _ _ _, fun g hg => by simp [Value.ownBlock] at hg⟩
  case round =>
    clear hB q6 q7 q8
    obtain ⟨j, hj, rfl, hB, q6, q8, v, q7, hrow, hsep⟩ := hrel
    by_cases hlt : j < 2
    · have hji : (j : Int) < 2 := by omega
      obtain ⟨x, kk, kn, A, c, hx, hE, e0, e1, e2⟩ : ∃ (x : Tr) (kk kn : Int) (A : Option Addr) (c : Nat), [Tr.node ka na la, Tr.node kb nb lb][j]? = some x ∧ (TreeT (d + 1) w x [.int .i64 kk, .int .i64 kn, .slice A x.kids.length c] ∧ kk = x.kind ∧ kn = x.n ∧ (kk = kind → 0 < x.kids.length) ∧ x.kids.length ≤ 10000) ∧ wr.cell? ⟨B8, j * 3, none⟩ = some (.int .i64 kk) ∧ wr.cell? ⟨B8, j * 3 + 1, none⟩ = some (.int .i64 kn) ∧ wr.cell? ⟨B8, j * 3 + 2, none⟩ = some (.slice A x.kids.length c) := by
        rcases (show j = 0 ∨ j = 1 by omega) with rfl | rfl
        · exact ⟨_, ka, na, a1, c1, rfl, ⟨ha0.out, rfl, rfl, hna, hla⟩, q8.cell 0 rfl, q8.cell 1 rfl, q8.cell 2 rfl⟩
        · exact ⟨_, kb, nb, a2, c2, rfl, ⟨hb0.out, rfl, rfl, hnb, hlb⟩, q8.cell 3 rfl, q8.cell 4 rfl, q8.cell 5 rfl⟩
      obtain ⟨hE, rfl, rfl, hpos, hlx⟩ := hE
      have hT : ([Tr.node ka na la, Tr.node kb nb lb].take (j + 1)).flatMap (partF kind) = ([Tr.node ka na la, Tr.node kb nb lb].take j).flatMap (partF kind) ++ partF kind x := by
        have hjl : j < [Tr.node ka na la, Tr.node kb nb lb].length := by simpa using hlt
        rw [List.take_succ_eq_append_getElem hjl, List.flatMap_append]
        rw [List.getElem?_eq_getElem hjl] at hx
        injection hx with hx
        rw [hx]; simp
      have hpl : ∀ t : Tr, t.kids.length ≤ 10000 → (partF kind t).length ≤ 10000 := fun t ht => by
        unfold partF
        split
        · exact ht
        · simp
      have hlen : (([Tr.node ka na la, Tr.node kb nb lb].take j).flatMap (partF kind)).length ≤ 20000 := by
        have h1 := hpl (.node ka na la) hla
        have h2 := hpl (.node kb nb lb) hlb
        rcases (show j = 0 ∨ j = 1 by omega) with rfl | rfl <;> simp <;> omega
      generalize ([Tr.node ka na la, Tr.node kb nb lb].take j).flatMap (partF kind) = ts at *
      have HT := Lib.hid hT
      clear hT hpl hx
      have f0 := fun o => ((Bel.refl wr).alloc o).cell e0; have f1 := fun o => ((Bel.refl wr).alloc o).cell e1; have f2 := fun o => ((Bel.refl wr).alloc o).cell e2
      have k0 := q7.cell 0 rfl; have k2 := q7.cell 2 rfl; have k3 := fun o => (q7.alloc o).cell 2 rfl; have k4 := fun o o1 => ((q7.alloc o).alloc o1).cell 2 rfl
      by_cases hkk : x.kind = kind
      · have hkb : (x.kind == kind) = true := by simpa using hkk
        have hp : partF kind x = x.kids := by unfold partF; rw [if_pos hkk]
        rw [hp] at HT
        have hpos' := hpos hkk
        clear hkk hp hpos
        obtain ⟨vx, ex, hsx, _⟩ := hE
        simp at ex
        subst ex
        obtain ⟨ax, cx, exx, _, _, hxx⟩ := hsx.ex
        obtain ⟨bx, ox, _, hax, _⟩ := hxx 0 _ (List.getElem?_eq_getElem hpos')
        injection exx with exx elx ecx
        rw [hax] at exx
        subst exx
        subst ecx
        clear elx
        clear hxx hax
        obtain ⟨ns, hnl, hnc, hnx⟩ := hsx.cells (by decide)
        obtain ⟨cs, ho, hxs⟩ := hrow.ex
        obtain ⟨Av, cv, rfl, _⟩ := own_slice ho
        have hB2 : Bel wr (wr.alloc (.cells #[.int .i64 x.kind, .int .i64 x.n, .slice (some ⟨bx, ox, none⟩) x.kids.length c] 332)) := (Bel.refl wr).alloc _
        have ho6 := own_bel ho hB2
        have hns : ∀ j u, ns[j]? = some u → (wr.alloc (.cells #[.int .i64 x.kind, .int .i64 x.n, .slice (some ⟨bx, ox, none⟩) x.kids.length c] 332)).cell? ((⟨bx, ox, none⟩ : Addr).add j) = some u := fun j u hu => by
          rw [Addr.add_lit]
          exact (hB.trans hB2).cell (hnc j u hu)
        have hnews : ∀ u ∈ ns, u.oneCell' = true := fun u hu => by
          obtain ⟨y, c', _, hy, hu'⟩ := cells_mem hnl (by decide) hnx u hu
          exact treeT_one hy u hu'
        have hba : w.heap.size ≤ (wr.alloc (.cells #[.int .i64 x.kind, .int .i64 x.n, .slice (some ⟨bx, ox, none⟩) x.kids.length c] 332)).heap.size := Nat.le_trans hB.size hB2.size
        have hq6 := q6.bel hB2; have hq7 := q7.bel hB2; have hq8 := q8.bel hB2
        have hB8 := hq8.lt
        have hne7 : some B7 ≠ (Value.slice Av ts.length cv).ownBlock := fun e => by have := hsep B7 e.symm; omega
        have hlk : x.kids.length ≤ 10000 := hlx
        have Hnx := Lib.hid hnx
        have Hnl := Lib.hid hnl
        have Hns := Lib.hid hns
        have Hone := Lib.hid hnews
        have Hsep := Lib.hid hsep
        clear hnx hnl hns hnews hsep hnc hsx hrow
        go_wp2_with (first | (at_builtin; (apply list_app und330 info332 rfl (by decide) (by decide) rfl (.tmp 25) (.tmp 27) rfl rfl ho6 (m := x.kids.length) (news := ns) rfl Hnl.out Hns.out Hone.out hpos' (by omega) hba; intro g cap w7 ho7 hgr htf hat; have q7' := grown_blk hq7 (show World.grownBy _ w7 (Value.slice Av ts.length cv).ownBlock from hgr) hne7; have q7c := q7'.cell 2 rfl; have q7f := q7'.frozen 2)))
        go_roundw
        case rel =>
          have hgr' : World.grownBy _ w7 (Value.slice Av ts.length cv).ownBlock := hgr
          have hne : ∀ m, m ≤ B8 → some m ≠ (Value.slice Av ts.length cv).ownBlock := fun m hm e => by have := Hsep.out _ e.symm; omega
          have p6 := grown_blk hq6 hgr' (hne _ (by omega)); have p7 := grown_blk hq7 hgr' (hne _ (by omega)); have p8 := grown_blk hq8 hgr' (hne _ (by omega))
          have hBw := htf.toBel (hB.trans hB2)
          have hg8 : B8 < g := by
            rcases hat with e | e
            · exact Hsep.out _ e
            · rw [e]; exact hB8
          refine ⟨j + 1, by omega, by go_num, hBw.setCell (by show w.heap.size ≤ B7; omega) _, p6.set_other (by show B7 ≠ B6; omega) _, p8.set_other (by show B7 ≠ B8; omega) _, _, p7.set 2 _, ?_, fun g' hg' => ?_⟩
          · rw [HT.out]
            refine (OwnTr.snoc ho hxs ho7 ?_).far fun g' hg' _ => set_far _ ?_ _ _
            · intro i t hi
              obtain ⟨c3, h1, h2, h3⟩ := Hnx.out i t hi
              exact ⟨c3, h1.succ, h2, h3⟩
            · simp [Value.ownBlock] at hg'; omega
          · simp [Value.ownBlock] at hg'; omega
        case measure => simp [intOf]; omega
      · have hkb : (x.kind == kind) = false := by simpa using hkk
        have hp : partF kind x = [x] := by unfold partF; rw [if_neg hkk]
        rw [hp] at HT
        obtain ⟨cs, ho, hxs⟩ := hrow.ex
        obtain ⟨Av, cv, rfl, _⟩ := own_slice ho
        have hB2 : Bel wr ((wr.alloc (.cells #[.int .i64 x.kind, .int .i64 x.n, .slice A x.kids.length c] 332)).alloc (.cells #[.int .i64 x.kind, .int .i64 x.n, .slice A x.kids.length c] 332)) := ((Bel.refl wr).alloc _).alloc _
        have ho6 := own_bel ho hB2
        have hnb : Blk ((wr.alloc (.cells #[.int .i64 x.kind, .int .i64 x.n, .slice A x.kids.length c] 332)).alloc (.cells #[.int .i64 x.kind, .int .i64 x.n, .slice A x.kids.length c] 332)) (wr.heap.size + 1) #[.int .i64 x.kind, .int .i64 x.n, .slice A x.kids.length c] 332 := Blk.new1 wr _ _ _
        have hnews : ∀ u ∈ [Value.int .i64 x.kind, .int .i64 x.n, .slice A x.kids.length c], u.oneCell' = true := treeT_one hE
        have hba : w.heap.size ≤ ((wr.alloc (.cells #[.int .i64 x.kind, .int .i64 x.n, .slice A x.kids.length c] 332)).alloc (.cells #[.int .i64 x.kind, .int .i64 x.n, .slice A x.kids.length c] 332)).heap.size := Nat.le_trans hB.size hB2.size
        have hq7 := q7.bel hB2
        have hq6 := q6.bel hB2; have hq8 := q8.bel hB2
        have hB8 := hq8.lt
        have hne7 : some B7 ≠ (Value.slice Av ts.length cv).ownBlock := fun e => by have := hsep B7 e.symm; omega
        have Hsep := Lib.hid hsep
        clear hsep hrow
        go_wp2_with (first | (at_builtin; apply list_app und330 info332 rfl (by decide) (by decide) rfl (.tmp 31) (.tmp 33) rfl rfl ho6 (m := 1) (news := [Value.int .i64 x.kind, .int .i64 x.n, .slice A x.kids.length c]) rfl rfl hnb.news hnews (by decide) (by omega) hba; intro g cap w7 ho7 hgr htf hat; have q7' := grown_blk hq7 (show World.grownBy _ w7 (Value.slice Av ts.length cv).ownBlock from hgr) hne7; have q7c := q7'.cell 2 rfl; have q7f := q7'.frozen 2))
        go_roundw
        case rel =>
          have hgr' : World.grownBy _ w7 (Value.slice Av ts.length cv).ownBlock := hgr
          have hne : ∀ m, m ≤ B8 → some m ≠ (Value.slice Av ts.length cv).ownBlock := fun m hm e => by have := Hsep.out _ e.symm; omega
          have p6 := grown_blk hq6 hgr' (hne _ (by omega)); have p7 := grown_blk hq7 hgr' (hne _ (by omega)); have p8 := grown_blk hq8 hgr' (hne _ (by omega))
          have hBw := htf.toBel (hB.trans hB2)
          have hg8 : B8 < g := by
            rcases hat with e | e
            · exact Hsep.out _ e
            · rw [e]; exact hB8
          refine ⟨j + 1, by omega, by go_num, hBw.setCell (by show w.heap.size ≤ B7; omega) _, p6.set_other (by show B7 ≠ B6; omega) _, p8.set_other (by show B7 ≠ B8; omega) _, _, p7.set 2 _, ?_, fun g' hg' => ?_⟩
          · rw [HT.out]
            refine (OwnTr.snoc ho hxs ho7 (us := [x]) ?_).far fun g' hg' _ => set_far _ ?_ _ _
            · intro i t hi
              cases i with
              | zero => simp at hi; subst hi; exact ⟨_, hE, rfl, fun j u hu => by simpa using hu⟩
              | succ i => simp at hi
            · simp [Value.ownBlock] at hg'; omega
          · simp [Value.ownBlock] at hg'; omega
        case measure => simp [intOf]; omega
    · obtain rfl : j = 2 := by omega
      obtain ⟨J, hJ⟩ : ∃ J, J = joinF kind (.node ka na la) (.node kb nb lb) := ⟨_, rfl⟩
      have HJ : [Tr.node ka na la, Tr.node kb nb lb].flatMap (partF kind) = J.kids := by rw [hJ]; simp [joinF, Tr.kids]
      rw [show [Tr.node ka na la, Tr.node kb nb lb].take 2 = [Tr.node ka na la, Tr.node kb nb lb] from rfl, HJ] at hrow
      have HK := Lib.hid (show J.kind = kind ∧ J.n = 0 by rw [hJ]; exact ⟨rfl, rfl⟩)
      have HJJ := Lib.hid hJ
      clear hJ
      have k0 := q7.cell 0 rfl; have k1 := q7.cell 1 rfl; have k2 := q7.cell 2 rfl
      have l0 := q6.cell 0 rfl; have l1 := q6.cell 1 rfl; have l2 := q6.cell 2 rfl
      have m0 := q6.frozen 0; have m1 := q6.frozen 1; have m2 := q6.frozen 2
      clear hsa hsb hia hib HJ
      have Hrow := Lib.hid hrow
      have Hsep := Lib.hid hsep
      obtain ⟨cs9, ho9, _⟩ := hrow.ex
      obtain ⟨Av, cv, rfl, _⟩ := own_slice ho9
      clear hrow hsep ho9
      go_wp2_with fail
      have z6 := (((q6.set 0 (.int .i64 kind)).set 1 (.int .i64 0)).set 2 (.slice Av J.kids.length cv))
      generalize hW9 : ((wr.setCell { block := B6, off := 0 } (Value.int IntKind.i64 kind)).setCell { block := B6, off := 1 } (Value.int IntKind.i64 0)).setCell { block := B6, off := 2 } (Value.slice Av J.kids.length cv) = W9 at *
      have hBz : Bel w W9 := by
        rw [← hW9]
        exact ((hB.setCell (by exact g6) _).setCell (by exact g6) _).setCell (by exact g6) _
      have y0 := z6.cell 0 rfl; have y1 := z6.cell 1 rfl; have y2 := z6.cell 2 rfl
      have hO : OwnTr w W9 w.heap.size (d + 1) (.slice Av J.kids.length cv) J.kids := by
        refine Hrow.out.far fun g hg _ => ?_
        have := Hsep.out g hg
        rw [← hW9, set_far _ (by omega), set_far _ (by omega), set_far _ (by omega)]
      have hT : TreeT (d + 2) W9 J [.int .i64 kind, .int .i64 0, .slice Av J.kids.length cv] := ⟨_, by rw [HK.out.1, HK.out.2], hO.read hBz, fun _ => hO.is332⟩
      rw [HJJ.out] at hT
      exact bodyPost_ret (v := .agg #[.int .i64 kind, .int .i64 0, .slice Av J.kids.length cv]) (by simp [results, Tryz.results271, go_sem, y0, y1, y2]) rfl ⟨_, by rw [HJJ.out], hT, hBz⟩
end Go.Proofs.YtbgilebgdbgddaaGreatDoor
