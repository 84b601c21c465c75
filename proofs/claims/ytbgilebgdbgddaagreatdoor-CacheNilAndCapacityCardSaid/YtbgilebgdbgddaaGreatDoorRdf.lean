/- reduce, in plain Lean: what the steps do, and what they keep -/
import Derived.Test.YtbgilebgdbgddaaGreatDoorFlw
set_option linter.unusedVariables false
set_option linter.unusedSimpArgs false
namespace Go.Proofs.YtbgilebgdbgddaaGreatDoor
def partF (kind : Int) (x : Tr) : List Tr := if x.kind = kind then x.kids else [x]
def joinF (kind : Int) (a b : Tr) : Tr := .node kind 0 (partF kind a ++ partF kind b)
theorem TrV.succ {N : Nat} : ∀ {d : Nat} {t : Tr}, TrV N d t → TrV N (d + 1) t
  | d + 1, t, h => by
    rcases h with h | ⟨h1, h2, h3, h4⟩
    · exact .inl h
    · exact .inr ⟨h1, h2, h3, fun k hk => ⟨(h4 k hk).1, TrV.succ (h4 k hk).2⟩⟩
theorem TrV.le {N d d' : Nat} (h : d ≤ d') {t : Tr} (ht : TrV N d t) : TrV N d' t := by
  induction h with
  | refl => exact ht
  | step _ ih => exact ih.succ
theorem TrV.pos {N d : Nat} {t : Tr} (h : TrV N d t) : ∃ e, d = e + 1 := by
  cases d with
  | zero => exact h.elim
  | succ e => exact ⟨e, rfl⟩
theorem lvF_succ {N : Nat} : ∀ {d : Nat} {t : Tr}, TrV N d t → lvF (d + 1) t = lvF d t
  | d + 1, t, h => by
    show (if t.kind = 0 then [t.n] else t.kids.flatMap (lvF (d + 1))) = if t.kind = 0 then [t.n] else t.kids.flatMap (lvF d)
    rcases h with ⟨h, _⟩ | ⟨_, _, _, h⟩
    · rw [if_pos h, if_pos h]
    · congr 1
      have : ∀ l : List Tr, (∀ k ∈ l, TrV N d k) → l.flatMap (lvF (d + 1)) = l.flatMap (lvF d) := fun l hl => by
        induction l with
        | nil => rfl
        | cons a l ih => rw [List.flatMap_cons, List.flatMap_cons, lvF_succ (hl a (by simp)), ih fun k hk => hl k (by simp [hk])]
      exact this _ fun k hk => (h k hk).2
theorem lvF_le {N d d' : Nat} (h : d ≤ d') {t : Tr} (ht : TrV N d t) : lvF d' t = lvF d t := by
  induction h with
  | refl => rfl
  | step h ih => rw [lvF_succ (ht.le h), ih]
theorem part_leaves {N d : Nat} {x : Tr} {kind : Int} (hk : kind ≠ 0) (h : TrV N d x) : (partF kind x).flatMap (lvF d) = lvF d x := by
  obtain ⟨e, rfl⟩ := h.pos
  unfold partF
  split
  · rename_i hx
    have hn : x.kind ≠ 0 := by rw [hx]; exact hk
    have h0 := h
    rcases h with ⟨h, _⟩ | ⟨_, _, _, h⟩
    · exact absurd h hn
    · rw [show lvF (e + 1) x = x.kids.flatMap (lvF e) from if_neg hn]
      have : ∀ l : List Tr, (∀ k ∈ l, TrV N e k) → l.flatMap (lvF (e + 1)) = l.flatMap (lvF e) := fun l hl => by
        induction l with
        | nil => rfl
        | cons a l ih => rw [List.flatMap_cons, List.flatMap_cons, lvF_succ (hl a (by simp)), ih fun k hk => hl k (by simp [hk])]
      exact this _ fun k hk => (h k hk).2
  · simp
theorem parts_ok {N d : Nat} {x : Tr} {kind : Int} (h : TrV N d x) (hk : kind = 1 ∨ kind = 2) : 0 < (partF kind x).length ∧ ∀ k ∈ partF kind x, k.kind ≠ kind ∧ TrV N d k := by
  obtain ⟨e, rfl⟩ := h.pos
  unfold partF
  split
  · rename_i hx
    rcases h with ⟨h, _⟩ | ⟨_, _, h2, h3⟩
    · omega
    · exact ⟨by omega, fun k hk' => ⟨by rw [← hx]; exact (h3 k hk').1, ((h3 k hk').2).succ⟩⟩
  · rename_i hx
    refine ⟨by simp, fun k hk' => ?_⟩
    simp at hk'
    subst hk'
    exact ⟨hx, h⟩
theorem join_ok {N d : Nat} {a b : Tr} {kind : Int} (ha : TrV N d a) (hb : TrV N d b) (hk : kind = 1 ∨ kind = 2) : TrV N (d + 1) (joinF kind a b) ∧ lvF (d + 1) (joinF kind a b) = lvF d a ++ lvF d b := by
  have h1 := parts_ok ha hk
  have h2 := parts_ok hb hk
  refine ⟨.inr ⟨hk, rfl, ?_, fun k hk' => ?_⟩, ?_⟩
  · show 1 < (partF kind a ++ partF kind b).length
    rw [List.length_append]; omega
  · rcases List.mem_append.1 hk' with h | h
    · exact h1.2 k h
    · exact h2.2 k h
  · have hn : kind ≠ 0 := by omega
    show (if kind = 0 then [(0 : Int)] else (partF kind a ++ partF kind b).flatMap (lvF d)) = _
    rw [if_neg hn, List.flatMap_append, part_leaves hn ha, part_leaves hn hb]
theorem lvF_pos {N : Nat} : ∀ {d : Nat} {t : Tr}, TrV N d t → 0 < (lvF d t).length
  | d + 1, t, h => by
    show 0 < (if t.kind = 0 then [t.n] else t.kids.flatMap (lvF d)).length
    rcases h with ⟨h, _⟩ | ⟨h0, _, h1, h2⟩
    · rw [if_pos h]; simp
    · rw [if_neg (by omega)]
      match hl : t.kids, h1 with
      | k :: l, _ =>
        have := lvF_pos (h2 k (by rw [hl]; simp)).2
        rw [List.flatMap_cons, List.length_append]; omega
theorem kids_le {N : Nat} {d : Nat} {t : Tr} (h : TrV N (d + 1) t) : t.kids.length ≤ (lvF (d + 1) t).length := by
  show _ ≤ (if t.kind = 0 then [t.n] else t.kids.flatMap (lvF d)).length
  rcases h with ⟨h, _, _, h4⟩ | ⟨h0, _, _, h2⟩
  · rw [h4]; simp
  · rw [if_neg (by omega)]
    have : ∀ l : List Tr, (∀ k ∈ l, TrV N d k) → l.length ≤ (l.flatMap (lvF d)).length := fun l hl => by
      induction l with
      | nil => simp
      | cons a l ih =>
        have h1 := lvF_pos (hl a (by simp))
        have h2 := ih fun k hk => hl k (by simp [hk])
        rw [List.flatMap_cons, List.length_append, List.length_cons]; omega
    exact this _ fun k hk => (h2 k hk).2
/-- An edge of the graph that is being reduced. -/
structure Ed where
  fr : ByteArray
  to_ : ByteArray
  t : Tr
def firstF {α : Type} (f : Nat → Option α) : Nat → Nat → Option α
  | _, 0 => none
  | i, n + 1 => match f i with | some r => some r | none => firstF f (i + 1) n
theorem firstF_hit {α : Type} {f : Nat → Option α} {r : α} {k : Nat} : ∀ (n i : Nat), i ≤ k → k < i + n → (∀ j, i ≤ j → j < k → f j = none) → f k = some r → firstF f i n = some r
  | 0, i, h1, h2, _, _ => by omega
  | n + 1, i, h1, h2, h3, h4 => by
    unfold firstF
    by_cases h : i = k
    · subst h; rw [h4]
    · rw [h3 i (Nat.le_refl _) (by omega)]
      exact firstF_hit n (i + 1) (by omega) (by omega) (fun j hj hk => h3 j (by omega) hk) h4
theorem firstF_none {α : Type} {f : Nat → Option α} : ∀ (n i : Nat), (∀ j, i ≤ j → j < i + n → f j = none) → firstF f i n = none
  | 0, _, _ => rfl
  | n + 1, i, h => by
    unfold firstF
    rw [h i (Nat.le_refl _) (by omega)]
    exact firstF_none n (i + 1) fun j h1 h2 => h j (by omega) (by omega)
theorem firstF_some {α : Type} {f : Nat → Option α} {r : α} : ∀ (n i : Nat), firstF f i n = some r → ∃ k, i ≤ k ∧ k < i + n ∧ f k = some r
  | 0, _, h => by cases h
  | n + 1, i, h => by
    unfold firstF at h
    split at h
    · rename_i r' hr
      injection h with h
      exact ⟨i, Nat.le_refl _, by omega, by rw [hr, h]⟩
    · obtain ⟨k, h1, h2, h3⟩ := firstF_some n (i + 1) h
      exact ⟨k, by omega, by omega, h3⟩
def pairB (x y : Ed) : Bool := decide (y.fr = x.fr ∧ y.to_ = x.to_)
def parStep (l : List Ed) (i : Nat) : Option (List Ed) :=
  match l[i]? with
  | none => none
  | some x => match (l.drop (i + 1)).findIdx? (pairB x) with
    | none => none
    | some k => match l[i + 1 + k]? with
      | none => none
      | some y => some ((l.set i ⟨x.fr, x.to_, joinF 2 x.t y.t⟩).eraseIdx (i + 1 + k))
def onStep (s : ByteArray) (p : Nat × Nat) (y : Ed) : Nat × Nat := (p.1 + 1, if y.fr = s then p.1 else p.2)
def onF (s : ByteArray) (l : List Ed) : Nat := (l.foldl (onStep s) (0, 0)).2
theorem onF_fst (s : ByteArray) : ∀ (l : List Ed) (p : Nat × Nat), (l.foldl (onStep s) p).1 = p.1 + l.length
  | [], p => rfl
  | a :: l, p => by rw [List.foldl_cons, onF_fst s l]; simp [onStep]; omega
theorem onF_snoc (s : ByteArray) (l : List Ed) (y : Ed) : onF s (l ++ [y]) = if y.fr = s then l.length else onF s l := by
  unfold onF
  rw [List.foldl_append]
  simp only [List.foldl_cons, List.foldl_nil]
  show (if y.fr = s then _ else _) = _
  rw [onF_fst]; simp
def comeF (s : ByteArray) (l : List Ed) : Nat := l.countP fun y => decide (y.to_ = s)
def leaveF (s : ByteArray) (l : List Ed) : Nat := l.countP fun y => decide (y.fr = s)
theorem comeF_snoc (s : ByteArray) (l : List Ed) (y : Ed) : comeF s (l ++ [y]) = comeF s l + if y.to_ = s then 1 else 0 := by
  unfold comeF; rw [List.countP_append]; simp [List.countP_cons]
theorem leaveF_snoc (s : ByteArray) (l : List Ed) (y : Ed) : leaveF s (l ++ [y]) = leaveF s l + if y.fr = s then 1 else 0 := by
  unfold leaveF; rw [List.countP_append]; simp [List.countP_cons]
theorem onF_lt (s : ByteArray) : ∀ (l : List Ed), 0 < leaveF s l → ∃ y, l[onF s l]? = some y ∧ y.fr = s := by
  intro l
  induction h : l.length generalizing l with
  | zero => intro hl; rw [List.eq_nil_of_length_eq_zero h] at hl; simp [leaveF] at hl
  | succ n ih =>
    intro hl
    have hne : l ≠ [] := fun e => by rw [e] at h; simp at h
    rw [← List.dropLast_concat_getLast hne] at hl ⊢
    generalize l.getLast hne = y at *
    have hd : l.dropLast.length = n := by simp [h]
    generalize l.dropLast = m at *
    rw [onF_snoc]
    by_cases hy : y.fr = s
    · rw [if_pos hy]; exact ⟨y, by simp, hy⟩
    · rw [if_neg hy]
      rw [leaveF_snoc, if_neg hy] at hl
      obtain ⟨z, hz, hz2⟩ := ih m hd (by omega)
      exact ⟨z, by rw [List.getElem?_append_left (List.getElem?_eq_some_iff.1 hz).1]; exact hz, hz2⟩
def serStep (l : List Ed) (i : Nat) : Option (List Ed) :=
  match l[i]? with
  | none => none
  | some x => if x.to_ = sL ∨ x.to_ = sR then none else
    if comeF x.to_ l = 1 ∧ leaveF x.to_ l = 1 then
      match l[onF x.to_ l]? with
      | none => none
      | some y => some ((l.set i ⟨x.fr, y.to_, joinF 1 x.t y.t⟩).eraseIdx (onF x.to_ l))
    else none
def parF (l : List Ed) : Option (List Ed) := firstF (parStep l) 0 l.length
def serF (l : List Ed) : Option (List Ed) := firstF (serStep l) 0 l.length
def redStep (l : List Ed) : List Ed × Bool :=
  let l1 := (parF l).getD l
  ((serF l1).getD l1, (parF l).isSome || (serF l1).isSome)
def redF : Nat → List Ed → List Ed
  | 0, l => l
  | n + 1, l => if (redStep l).2 = true then redF n (redStep l).1 else (redStep l).1
/-- Each tree is valid, and the leaves are all there, each once. -/
structure EdsV (N d : Nat) (l : List Ed) : Prop where
  ok : ∀ x ∈ l, TrV N d x.t
  lv : (l.flatMap fun x => lvF d x.t).Perm ((List.range N).map Int.ofNat)
theorem EdsV.succ {N d : Nat} {l : List Ed} (h : EdsV N d l) : EdsV N (d + 1) l := by
  refine ⟨fun x hx => (h.ok x hx).succ, ?_⟩
  have : ∀ l : List Ed, (∀ x ∈ l, TrV N d x.t) → (l.flatMap fun x => lvF (d + 1) x.t) = l.flatMap fun x => lvF d x.t := fun l hl => by
    induction l with
    | nil => rfl
    | cons a l ih => rw [List.flatMap_cons, List.flatMap_cons, lvF_succ (hl a (by simp)), ih fun k hk => hl k (by simp [hk])]
  rw [this l h.ok]; exact h.lv
theorem EdsV.le {N d d' : Nat} {l : List Ed} (h : EdsV N d l) (hd : d ≤ d') : EdsV N d' l := by
  induction hd with
  | refl => exact h
  | step _ ih => exact ih.succ
theorem flatMap_perm_of {α β : Type} (f : α → List β) {l m : List α} (h : l.Perm m) : (l.flatMap f).Perm (m.flatMap f) := by
  induction h with
  | nil => exact .refl _
  | cons a _ ih => rw [List.flatMap_cons, List.flatMap_cons]; exact ih.append_left _
  | swap a b l =>
    simp only [List.flatMap_cons, ← List.append_assoc]
    exact List.perm_append_comm.append_right _
  | trans _ _ h1 h2 => exact h1.trans h2
theorem perm_pull {α : Type} {l : List α} {i : Nat} {x : α} (h : l[i]? = some x) : l.Perm (x :: l.eraseIdx i) := by
  induction l generalizing i with
  | nil => simp at h
  | cons a l ih =>
    cases i with
    | zero => simp at h; subst h; simp
    | succ i =>
      simp at h
      rw [List.eraseIdx_cons_succ]
      exact ((ih h).cons a).trans (List.Perm.swap _ _ _)
/-- Two edges become one. -/
theorem EdsV.merge {N d : Nat} {l : List Ed} (h : EdsV N d l) {i j : Nat} {x y : Ed} (hi : l[i]? = some x) (hj : l[j]? = some y) (hij : i ≠ j) {z : Ed} {kind : Int} (hz : z.t = joinF kind x.t y.t) (hk : kind = 1 ∨ kind = 2) : EdsV N (d + 1) ((l.set i z).eraseIdx j) := by
  have hx := h.ok x (List.mem_of_getElem? hi)
  have hy := h.ok y (List.mem_of_getElem? hj)
  have hJ := join_ok hx hy hk
  rw [← hz] at hJ
  have hs := h.succ
  have hji : (l.set i z)[j]? = some y := by rw [List.getElem?_set_ne hij]; exact hj
  have hil : i < l.length := (List.getElem?_eq_some_iff.1 hi).1
  have p1 := perm_pull hi
  have p2 := perm_pull hji
  have p3 : (l.set i z).Perm (z :: l.eraseIdx i) := by
    have h0 : (l.set i z)[i]? = some z := by rw [List.getElem?_set_self hil]
    have := perm_pull h0
    rwa [List.eraseIdx_set_eq] at this
  refine ⟨fun k hk => ?_, ?_⟩
  · have hm : k ∈ l.set i z := List.mem_of_mem_eraseIdx hk
    rcases List.mem_or_eq_of_mem_set hm with h1 | rfl
    · exact hs.ok k h1
    · exact hJ.1
  · have q2 := flatMap_perm_of (fun x => lvF (d + 1) x.t) p2
    have q3 := flatMap_perm_of (fun x => lvF (d + 1) x.t) p3
    have q1 := flatMap_perm_of (fun x => lvF (d + 1) x.t) p1
    simp only [List.flatMap_cons] at q1 q2 q3
    rw [hJ.2] at q3
    rw [lvF_succ hx] at q1
    rw [lvF_succ hy] at q2
    have e1 : (lvF d y.t ++ ((l.set i z).eraseIdx j).flatMap fun x => lvF (d + 1) x.t).Perm (lvF d y.t ++ (lvF d x.t ++ (l.eraseIdx i).flatMap fun x => lvF (d + 1) x.t)) :=
      q2.symm.trans (q3.trans (by rw [← List.append_assoc]; exact List.perm_append_comm.append_right _))
    exact ((List.perm_append_left_iff _).1 e1).trans (q1.symm.trans hs.lv)
theorem parStep_ok {N d : Nat} {l r : List Ed} {i : Nat} (h : EdsV N d l) (hr : parStep l i = some r) : EdsV N (d + 1) r ∧ r.length + 1 = l.length := by
  unfold parStep at hr
  split at hr
  · cases hr
  · rename_i x hx
    split at hr
    · cases hr
    · rename_i k hk
      split at hr
      · cases hr
      · rename_i y hy
        injection hr with hr
        subst hr
        have hl := (List.getElem?_eq_some_iff.1 hy).1
        exact ⟨h.merge hx hy (by omega) rfl (.inr rfl), by rw [List.length_eraseIdx_of_lt (by simpa using hl), List.length_set]; omega⟩
theorem serStep_ok {N d : Nat} {l r : List Ed} {i : Nat} (h : EdsV N d l) (hx : ∀ x ∈ l, x.fr ≠ x.to_) (hr : serStep l i = some r) : EdsV N (d + 1) r ∧ r.length + 1 = l.length := by
  unfold serStep at hr
  split at hr
  · cases hr
  · rename_i x hx'
    split at hr
    · cases hr
    · split at hr
      · split at hr
        · cases hr
        · rename_i hcl y hy
          injection hr with hr
          subst hr
          obtain ⟨z, hz, hz2⟩ := onF_lt x.to_ l (by omega)
          rw [hz] at hy
          injection hy with hy
          subst hy
          have hl := (List.getElem?_eq_some_iff.1 hz).1
          refine ⟨h.merge hx' hz ?_ rfl (.inl rfl), by rw [List.length_eraseIdx_of_lt (by simpa using hl), List.length_set]; omega⟩
          intro e
          rw [e] at hx'
          rw [hz] at hx'
          injection hx' with hx'
          subst hx'
          exact hx z (List.mem_of_getElem? hz) hz2
      · cases hr
theorem numsF_mem (p : Contact → Bool) : ∀ (l : List Contact) (i j : Nat) (c : Contact), l[j]? = some c → p c = true → i + j ∈ numsF p i l
  | [], i, j, c, h, _ => by simp at h
  | a :: l, i, j, c, h, hp => by
    unfold numsF
    cases j with
    | zero => simp at h; subst h; rw [if_pos hp]; simp
    | succ j =>
      simp at h
      have := numsF_mem p l (i + 1) j c h hp
      rw [show i + (j + 1) = i + 1 + j by omega]
      split
      · exact List.mem_cons_of_mem _ this
      · exact this
theorem freeF_mem {cons : List Contact} {told : List ByteArray} {n : ByteArray} (h : freeF cons told n = true) {c : Contact} (hc : c ∈ cons) (hn : c.to_ = n) : c.from_ ∈ told := by
  unfold freeF at h
  obtain ⟨j, hj⟩ := List.mem_iff_getElem?.1 hc
  have hm := numsF_mem (fun c => decide (c.to_ = n)) cons 0 j c hj (by simp [hn])
  rw [Nat.zero_add] at hm
  simp only [Bool.not_eq_true', List.any_eq_false] at h
  have := h j hm
  rw [List.getD_eq_getElem?_getD, hj] at this
  simpa using this
def GoodT (cons : List Contact) (res : List ByteArray) : Prop := ∀ (i : Nat) (n : ByteArray), res[i]? = some n → ∀ c ∈ cons, c.to_ = n → ∃ j : Nat, j < i ∧ res[j]? = some c.from_
theorem topoF_good (cons : List Contact) : ∀ (d : Nat) (left told res : List ByteArray), left.length = d → topoF cons d left told = some res → GoodT cons told → GoodT cons res ∧ res.Perm (told ++ left)
  | 0, left, told, res, hl, h, hg => by
    injection h with h
    subst h
    rw [List.eq_nil_of_length_eq_zero hl, List.append_nil]
    exact ⟨hg, .refl _⟩
  | d + 1, left, told, res, hl, h, hg => by
    unfold topoF at h
    split at h
    · cases h
    · rename_i k hk
      rw [List.findIdx?_eq_some_iff_getElem] at hk
      obtain ⟨hkl, hk1, _⟩ := hk
      have hgd : left.getD k .empty = left[k] := by simp [List.getElem?_eq_getElem hkl]
      rw [hgd] at h
      have hle : (left.eraseIdx k).length = d := by rw [List.length_eraseIdx_of_lt hkl]; omega
      have hg' : GoodT cons (told ++ [left[k]]) := by
        intro i n hi c hc hn
        rcases Nat.lt_or_ge i told.length with h1 | h1
        · rw [List.getElem?_append_left h1] at hi
          obtain ⟨j, hj, hj2⟩ := hg i n hi c hc hn
          exact ⟨j, hj, by rw [List.getElem?_append_left (by omega)]; exact hj2⟩
        · rw [List.getElem?_append_right h1] at hi
          have hi0 : i - told.length = 0 := by
            have := (List.getElem?_eq_some_iff.1 hi).1
            simp at this; omega
          rw [hi0] at hi
          simp at hi
          subst hi
          have hm := freeF_mem hk1 hc hn
          obtain ⟨j, hj⟩ := List.mem_iff_getElem?.1 hm
          have hjl := (List.getElem?_eq_some_iff.1 hj).1
          exact ⟨j, by omega, by rw [List.getElem?_append_left hjl]; exact hj⟩
      have ih := topoF_good cons d _ _ _ hle h hg'
      refine ⟨ih.1, ih.2.trans ?_⟩
      rw [List.append_assoc]
      have : left.Perm (left[k] :: left.eraseIdx k) := perm_pull (List.getElem?_eq_getElem hkl)
      exact this.symm.append_left _
theorem addN_nodup {l : List ByteArray} (h : l.Nodup) (n : ByteArray) : (addN l n).Nodup := by
  unfold addN
  split
  · exact h
  · rename_i hn
    rw [List.nodup_append]
    exact ⟨h, by simp, fun a ha b hb => by simp at hb; subst hb; exact fun e => hn (e ▸ ha)⟩
theorem foldN_nodup : ∀ (xs l : List ByteArray), l.Nodup → (xs.foldl addN l).Nodup
  | [], _, h => h
  | a :: xs, l, h => foldN_nodup xs _ (addN_nodup h a)
theorem addN_sub {l : List ByteArray} {n x : ByteArray} (h : x ∈ l) : x ∈ addN l n := by
  unfold addN; split
  · exact h
  · simp [h]
theorem addN_self (l : List ByteArray) (n : ByteArray) : n ∈ addN l n := by
  unfold addN; split
  · assumption
  · simp
theorem foldN_sub : ∀ (xs l : List ByteArray) (x : ByteArray), x ∈ l ∨ x ∈ xs → x ∈ xs.foldl addN l
  | [], l, x, h => by simpa using h
  | a :: xs, l, x, h => by
    rw [List.foldl_cons]
    apply foldN_sub
    rcases h with h | h
    · exact .inl (addN_sub h)
    · rcases List.mem_cons.1 h with rfl | h
      · exact .inl (addN_self _ _)
      · exact .inr h
theorem nodesF_nodup (cons : List Contact) : (nodesF cons).Nodup := foldN_nodup _ _ (by decide)
theorem nodup_idx {α : Type} {l : List α} (h : l.Nodup) {i j : Nat} {x : α} (hi : l[i]? = some x) (hj : l[j]? = some x) : i = j := by
  obtain ⟨h1, h2⟩ := List.getElem?_eq_some_iff.1 hi
  obtain ⟨h3, h4⟩ := List.getElem?_eq_some_iff.1 hj
  have hp := List.pairwise_iff_getElem.1 h
  rcases Nat.lt_trichotomy i j with h5 | h5 | h5
  · exact absurd (h2.trans h4.symm) (hp i j h1 h3 h5)
  · exact h5
  · exact absurd (h4.trans h2.symm) (hp j i h3 h1 h5)
/-- A rung without a cycle has a rank. -/
theorem topo_rank {cons : List Contact} (h : topoE cons = 0) : ∃ rank : ByteArray → Nat, ∀ c ∈ cons, rank c.from_ < rank c.to_ := by
  unfold topoE at h
  split at h
  · rename_i hs
    obtain ⟨res, hr⟩ := Option.isSome_iff_exists.1 hs
    obtain ⟨hg, hp⟩ := topoF_good cons _ _ _ _ rfl hr (fun i n hi => by simp at hi)
    rw [List.nil_append] at hp
    have hnd : res.Nodup := hp.nodup_iff.2 (nodesF_nodup cons)
    refine ⟨fun s => res.findIdx (fun x => decide (x = s)), fun c hc => ?_⟩
    have hm : c.to_ ∈ res := hp.mem_iff.2 (foldN_sub _ _ _ (.inr (List.mem_flatMap.2 ⟨c, hc, by simp⟩)))
    obtain ⟨i, hi⟩ := List.mem_iff_getElem?.1 hm
    obtain ⟨j, hj, hj2⟩ := hg i _ hi c hc rfl
    have key : ∀ k s, res[k]? = some s → res.findIdx (fun x => decide (x = s)) = k := fun k s hk => by
      have hkl := (List.getElem?_eq_some_iff.1 hk).1
      have hk2 := (List.getElem?_eq_some_iff.1 hk).2
      have h1 : res.findIdx (fun x => decide (x = s)) < res.length := List.findIdx_lt_length_of_exists ⟨s, List.mem_of_getElem? hk, by simp⟩
      have h2 := List.findIdx_getElem (w := h1)
      simp only [decide_eq_true_eq] at h2
      exact nodup_idx hnd (by rw [List.getElem?_eq_getElem h1, h2]) hk
    show res.findIdx _ < res.findIdx _
    rw [key j _ hj2, key i _ hi]
    exact hj
  · cases h
/-- The edges rise in rank. -/
def Rises (rank : ByteArray → Nat) (l : List Ed) : Prop := ∀ x ∈ l, rank x.fr < rank x.to_
theorem Rises.ne {rank : ByteArray → Nat} {l : List Ed} (h : Rises rank l) : ∀ x ∈ l, x.fr ≠ x.to_ := fun x hx e => by have := h x hx; rw [e] at this; omega
theorem Rises.set {rank : ByteArray → Nat} {l : List Ed} (h : Rises rank l) {z : Ed} (hz : rank z.fr < rank z.to_) (i j : Nat) : Rises rank ((l.set i z).eraseIdx j) := fun x hx => by
  rcases List.mem_or_eq_of_mem_set (List.mem_of_mem_eraseIdx hx) with h1 | rfl
  · exact h x h1
  · exact hz
theorem parStep_rises {rank : ByteArray → Nat} {l r : List Ed} {i : Nat} (h : Rises rank l) (hr : parStep l i = some r) : Rises rank r := by
  unfold parStep at hr
  split at hr
  · cases hr
  · rename_i x hx
    split at hr
    · cases hr
    · split at hr
      · cases hr
      · rename_i y hy
        injection hr with hr
        subst hr
        exact h.set (z := ⟨x.fr, x.to_, joinF 2 x.t y.t⟩) (h x (List.mem_of_getElem? hx)) _ _
theorem serStep_rises {rank : ByteArray → Nat} {l r : List Ed} {i : Nat} (h : Rises rank l) (hr : serStep l i = some r) : Rises rank r := by
  unfold serStep at hr
  split at hr
  · cases hr
  · rename_i x hx
    split at hr
    · cases hr
    · split at hr
      · split at hr
        · cases hr
        · rename_i hcl y hy
          injection hr with hr
          subst hr
          obtain ⟨z, hz, hz2⟩ := onF_lt x.to_ l (by omega)
          rw [hz] at hy
          injection hy with hy
          subst hy
          have h1 := h x (List.mem_of_getElem? hx)
          have h2 := h z (List.mem_of_getElem? hz)
          rw [hz2] at h2
          exact h.set (z := ⟨x.fr, z.to_, _⟩) (Nat.lt_trans h1 h2) _ _
      · cases hr
structure RedI (N d : Nat) (rank : ByteArray → Nat) (l : List Ed) : Prop where
  v : EdsV N d l
  r : Rises rank l
theorem RedI.le {N d d' : Nat} {rank : ByteArray → Nat} {l : List Ed} (h : RedI N d rank l) (hd : d ≤ d') : RedI N d' rank l := ⟨h.v.le hd, h.r⟩
theorem parF_ok {N d : Nat} {rank : ByteArray → Nat} {l r : List Ed} (h : RedI N d rank l) (hr : parF l = some r) : RedI N (d + 1) rank r ∧ r.length + 1 = l.length := by
  obtain ⟨k, _, _, hk⟩ := firstF_some _ _ hr
  obtain ⟨h1, h2⟩ := parStep_ok h.v hk
  exact ⟨⟨h1, parStep_rises h.r hk⟩, h2⟩
theorem serF_ok {N d : Nat} {rank : ByteArray → Nat} {l r : List Ed} (h : RedI N d rank l) (hr : serF l = some r) : RedI N (d + 1) rank r ∧ r.length + 1 = l.length := by
  obtain ⟨k, _, _, hk⟩ := firstF_some _ _ hr
  obtain ⟨h1, h2⟩ := serStep_ok h.v h.r.ne hk
  exact ⟨⟨h1, serStep_rises h.r hk⟩, h2⟩

theorem redStep_ok {N d : Nat} {rank : ByteArray → Nat} {l : List Ed} (h : RedI N d rank l) : RedI N (d + 2) rank (redStep l).1 ∧ ((redStep l).2 = true → (redStep l).1.length < l.length) ∧ (redStep l).1.length ≤ l.length := by
  unfold redStep
  cases hp : parF l with
  | none =>
    simp only [Option.getD_none, Option.isSome_none, Bool.false_or]
    cases hs : serF l with
    | none => exact ⟨h.le (by omega), fun h => by simp at h, Nat.le_refl _⟩
    | some r =>
      obtain ⟨h1, h2⟩ := serF_ok h hs
      exact ⟨h1.le (by omega), fun _ => by simp; omega, by simp; omega⟩
  | some r =>
    obtain ⟨h1, h2⟩ := parF_ok h hp
    simp only [Option.getD_some, Option.isSome_some, Bool.true_or]
    cases hs : serF r with
    | none => exact ⟨h1.le (by omega), fun _ => by simp; omega, by simp; omega⟩
    | some r' =>
      obtain ⟨h3, h4⟩ := serF_ok h1 hs
      exact ⟨h3, fun _ => by simp; omega, by simp; omega⟩
theorem redF_ok {N : Nat} {rank : ByteArray → Nat} : ∀ (n d : Nat) (l : List Ed), RedI N d rank l → RedI N (d + 2 * (n + 1)) rank (redF n l)
  | 0, d, l, h => h.le (by omega)
  | n + 1, d, l, h => by
    have h1 := (redStep_ok h).1
    unfold redF
    split
    · exact (redF_ok n (d + 2) _ h1).le (by omega)
    · exact h1.le (by omega)
/-- The kids of a Parallel node come sorted by their least leaf. -/
def insT (key : Tr → Int) (a : Tr) : List Tr → List Tr
  | [] => [a]
  | b :: l => if key a < key b then a :: b :: l else b :: insT key a l
def sortT (key : Tr → Int) : List Tr → List Tr
  | [] => []
  | a :: l => insT key a (sortT key l)
theorem insT_perm (key : Tr → Int) (a : Tr) : ∀ l, (insT key a l).Perm (a :: l)
  | [] => .refl _
  | b :: l => by
    unfold insT
    split
    · exact .refl _
    · exact ((insT_perm key a l).cons b).trans (List.Perm.swap _ _ _)
theorem sortT_perm (key : Tr → Int) : ∀ l, (sortT key l).Perm l
  | [] => .refl _
  | a :: l => (insT_perm key a _).trans ((sortT_perm key l).cons a)
def Asc (key : Tr → Int) (l : List Tr) : Prop := l.Pairwise fun x y => key x < key y
theorem insT_asc (key : Tr → Int) (a : Tr) : ∀ l, Asc key l → (∀ x ∈ l, key x ≠ key a) → Asc key (insT key a l)
  | [], _, _ => by simp [insT, Asc]
  | b :: l, h, hn => by
    unfold insT
    have hb := List.pairwise_cons.1 h
    split
    · rename_i hlt
      exact List.pairwise_cons.2 ⟨fun x hx => by
        rcases List.mem_cons.1 hx with rfl | hx
        · exact hlt
        · have := hb.1 x hx; omega, h⟩
    · rename_i hlt
      refine List.pairwise_cons.2 ⟨fun x hx => ?_, insT_asc key a l hb.2 fun x hx => hn x (by simp [hx])⟩
      rcases List.mem_cons.1 ((insT_perm key a l).mem_iff.1 hx) with rfl | hx
      · have := hn b (by simp); omega
      · exact hb.1 x hx
theorem sortT_asc (key : Tr → Int) : ∀ l : List Tr, l.Pairwise (fun x y => key x ≠ key y) → Asc key (sortT key l)
  | [], _ => List.Pairwise.nil
  | a :: l, h => by
    have h1 := List.pairwise_cons.1 h
    exact insT_asc key a _ (sortT_asc key l h1.2) fun x hx => (h1.1 x ((sortT_perm key l).mem_iff.1 hx)).symm
/-- An ascending arrangement is the only one. -/
theorem asc_unique (key : Tr → Int) : ∀ (l m : List Tr), l.Perm m → Asc key l → Asc key m → l = m
  | [], m, hp, _, _ => (List.nil_perm.1 hp).symm
  | a :: l, [], hp, _, _ => by simpa using hp.length_eq
  | a :: l, b :: m, hp, h1, h2 => by
    have e1 := List.pairwise_cons.1 h1
    have e2 := List.pairwise_cons.1 h2
    have hab : a = b := by
      rcases List.mem_cons.1 (hp.mem_iff.1 (List.mem_cons_self (a := a) (l := l))) with h | h
      · exact h
      · rcases List.mem_cons.1 (hp.mem_iff.2 (List.mem_cons_self (a := b) (l := m))) with h' | h'
        · exact h'.symm
        · have := e1.1 b h'; have := e2.1 a h; omega
    subst hab
    rw [asc_unique key l m ((List.perm_cons a).1 hp) e1.2 e2.2]
def minL : List Int → Int
  | [] => 0
  | [a] => a
  | a :: l => min a (minL l)
theorem minL_mem : ∀ l : List Int, l ≠ [] → minL l ∈ l
  | [], h => absurd rfl h
  | [a], _ => by simp [minL]
  | a :: b :: l, _ => by
    have := minL_mem (b :: l) (by simp)
    show min a (minL (b :: l)) ∈ _
    rcases Int.le_total a (minL (b :: l)) with h | h
    · rw [Int.min_eq_left h]; simp
    · rw [Int.min_eq_right h]; exact List.mem_cons_of_mem _ this
def sortedF : Nat → Tr → Tr
  | 0, t => t
  | d + 1, t => .node t.kind t.n (if t.kind = 2 then sortT (fun k => minL (lvF d k)) (t.kids.map (sortedF d)) else t.kids.map (sortedF d))
theorem flatMap_map_lv {N d : Nat} (h : ∀ t, TrV N d t → (lvF d (sortedF d t)).Perm (lvF d t)) : ∀ l : List Tr, (∀ k ∈ l, TrV N d k) → ((l.map (sortedF d)).flatMap (lvF d)).Perm (l.flatMap (lvF d))
  | [], _ => .refl _
  | a :: l, hl => by
    rw [List.map_cons, List.flatMap_cons, List.flatMap_cons]
    exact (h a (hl a (by simp))).append (flatMap_map_lv h l fun k hk => hl k (by simp [hk]))
theorem sortedF_kind : ∀ (d : Nat) (t : Tr), (sortedF d t).kind = t.kind
  | 0, _ => rfl
  | _ + 1, _ => rfl
theorem sortedF_ok {N : Nat} : ∀ (d : Nat) (t : Tr), TrV N d t → TrV N d (sortedF d t) ∧ (lvF d (sortedF d t)).Perm (lvF d t)
  | d + 1, t, h => by
    have ih := fun k hk => sortedF_ok (N := N) d k hk
    rcases h with ⟨h0, h1, h2, h3⟩ | ⟨h0, h1, h2, h3⟩
    · have : sortedF (d + 1) t = t := by
        obtain ⟨k, n, l⟩ := t
        simp only [Tr.kind_node, Tr.n_node, Tr.kids_node] at *
        subst h3
        unfold sortedF
        simp [Tr.kind_node, Tr.n_node, Tr.kids_node, h0]
      rw [this]
      exact ⟨.inl ⟨h0, h1, h2, h3⟩, .refl _⟩
    · have hk : ∀ L : List Tr, L.Perm (t.kids.map (sortedF d)) → TrV N (d + 1) (.node t.kind t.n L) ∧ (lvF (d + 1) (.node t.kind t.n L)).Perm (lvF (d + 1) t) := fun L hL => by
        refine ⟨.inr ⟨h0, h1, ?_, fun k hk => ?_⟩, ?_⟩
        · show 1 < L.length
          rw [hL.length_eq, List.length_map]; exact h2
        · obtain ⟨k', hk', rfl⟩ := List.mem_map.1 (hL.mem_iff.1 hk)
          exact ⟨by rw [sortedF_kind]; exact (h3 k' hk').1, (ih k' (h3 k' hk').2).1⟩
        · have hn : t.kind ≠ 0 := by omega
          show (if t.kind = 0 then [t.n] else L.flatMap (lvF d)).Perm (if t.kind = 0 then [t.n] else t.kids.flatMap (lvF d))
          rw [if_neg hn, if_neg hn]
          exact (flatMap_perm_of (lvF d) hL).trans (flatMap_map_lv (fun t ht => (ih t ht).2) t.kids fun k hk => (h3 k hk).2)
      unfold sortedF
      split
      · exact hk _ (sortT_perm _ _)
      · exact hk _ (.refl _)

theorem nodup_flat_part {α β : Type} (f : α → List β) : ∀ {l : List α}, (l.flatMap f).Nodup → l.Pairwise fun x y => ∀ a ∈ f x, a ∉ f y
  | [], _ => List.Pairwise.nil
  | a :: l, h => by
    rw [List.flatMap_cons, List.nodup_append] at h
    refine List.pairwise_cons.2 ⟨fun y hy b hb hby => ?_, nodup_flat_part f h.2.1⟩
    exact h.2.2 b hb b (List.mem_flatMap.2 ⟨y, hy, hby⟩) rfl
theorem nodup_flat_one {α β : Type} (f : α → List β) : ∀ {l : List α}, (l.flatMap f).Nodup → ∀ x ∈ l, (f x).Nodup
  | [], _, x, hx => by simp at hx
  | a :: l, h, x, hx => by
    rw [List.flatMap_cons, List.nodup_append] at h
    rcases List.mem_cons.1 hx with rfl | hx
    · exact h.1
    · exact nodup_flat_one f h.2.1 x hx
/-- The kids' least leaves part. -/
theorem keys_part {N d : Nat} {l : List Tr} (h : ∀ k ∈ l, TrV N d k) (hn : (l.flatMap (lvF d)).Nodup) : l.Pairwise fun x y => minL (lvF d x) ≠ minL (lvF d y) := by
  have hp := nodup_flat_part (lvF d) hn
  refine (List.Pairwise.and_mem.1 hp).imp fun ⟨hx, hy, hxy⟩ e => ?_
  have h1 := minL_mem _ (List.ne_nil_of_length_pos (lvF_pos (h _ hx)))
  have h2 := minL_mem _ (List.ne_nil_of_length_pos (lvF_pos (h _ hy)))
  rw [← e] at h2
  exact hxy _ h1 h2
end Go.Proofs.YtbgilebgdbgddaaGreatDoor
