/- tree.Check, depth, StackDepth at a valid tree -/
import Derived.Test.YtbgilebgdbgddaaGreatDoorFlw
import Derived.Test.YtbgilebgdbgddaaGreatDoorBas
import Derived.Laws.MakeOwn
set_option linter.unusedVariables false
set_option linter.unusedSimpArgs false
namespace Go.Proofs.YtbgilebgdbgddaaGreatDoor
open Go.RowKit
theorem run_lenMap {κ : Type} [DecidableEq κ] {kv : κ → Value} {t kt e ty : TypeId} (ht : Tryz.prog.underlying t = some (.map kt e)) {w : World} {b : Nat} {L : List (κ × Value)} (h : MapAt kv w b L) :
    (Builtin.len_ #[t] ty #[.map (some b)]).run Tryz.prog w = .ok (.int .i64 L.length) w := by
  obtain ⟨es, clock, h1, h2⟩ := h.ex
  have hl : es.size = L.length := by have := congrArg List.length h2; simpa using this
  simp [Builtin.len_, run_underlying ht, Go.MapKept.run_getObj_map h1, Result.andThen, hl]
  rfl
set_option maxRecDepth 100000 in
set_option maxHeartbeats 1000000 in
theorem check250 (N d : Nat) (hN : N ≤ 1000000) (t : Tr) (cs : List Value) (w : World) (ht : TreeE d w t cs) (hv : TrV N d t) (hnd : (lvF d t).Nodup) (hl : (lvF d t).length = N) :
    Calls Tryz.prog 250 #[.agg cs.toArray, .int .i64 N] w fun e w' => e = .returned (.int .i64 0) ∧ Bel w w' := by
  have hc := fun w' (hb : Bel w w') (L : List (Int × Value)) (b : Nat) (hm : MapAt (Value.int .i64) w' b L) (hL : ∀ k ∈ lvF d t, asGet L k = none) => check278 N b hN d t cs L w' (TreeE.mono d _ _ _ _ ht hb) hv hm hL hnd
  cases d with
  | zero => exact ht.elim
  | succ d =>
    obtain ⟨v, rfl, h1⟩ := ht
    obtain ⟨a1, c1, rfl, _⟩ := h1.ex
    clear h1
    have hmm := @run_makeMap Tryz.prog
    generalize hlv : lvF (d + 1) t = lv at *
    clear hlv hv
    generalize t.kind = kind at *
    generalize t.n = n at *
    generalize t.kids.length = nk at *
    go_enter Tryz.func250, Tryz.ntmps250
    go_wp2_with fail
    refine (hc _ (((Bel.refl w).alloc _).alloc _) [] (w.heap.size + 1) (by have := MapAt.made (kv := Value.int .i64) (w.alloc (.cells #[.int .i64 kind, .int .i64 n, .slice a1 nk c1] 332)); rwa [World.size_alloc] at this) (fun _ _ => rfl)).mono ?_
    rintro en w1 ⟨rfl, hm1, hg1⟩
    have hlen := run_lenMap (ty := 3) und399 hm1
    have hLl : (([] : List (Int × Value)) ++ lv.map fun k => (k, Value.bool true)).length = N := by simp [hl]
    rw [hLl] at hlen
    go_wp2_with fail
    go_ret
    exact ⟨rfl, grown_bel (((Bel.refl w).alloc _).alloc _) hg1 (Nat.le_succ _)⟩
theorem TrV.leaf {N d : Nat} {t : Tr} (h : TrV N d t) (hk : t.kind = 0) : 0 ≤ t.n ∧ t.n < N := by
  cases d with
  | zero => exact h.elim
  | succ d =>
    rcases h with ⟨_, h1, h2, _⟩ | ⟨h1, _⟩
    · exact ⟨h1, h2⟩
    · omega
def depStep (edge : List Bool) (f : Tr → Int) (acc : Int) (k : Tr) : Int := if k.kind ≠ 0 ∨ edge.getD k.n.toNat false = true then max acc (1 + f k) else acc
def depKids (edge : List Bool) (f : Tr → Int) : List Tr → Int
  | [] => 0
  | k :: ks => ks.foldl (depStep edge f) (f k)
def depthF (edge : List Bool) : Nat → Tr → Int
  | 0, _ => 0
  | d + 1, t => depKids edge (depthF edge d) t.kids
theorem foldl_bound {edge : List Bool} {f : Tr → Int} {d : Int} (hd : 0 ≤ d) (hf : ∀ k, 0 ≤ f k ∧ f k ≤ d) : ∀ (l : List Tr) (a : Int), 0 ≤ a → a ≤ d + 1 → 0 ≤ l.foldl (depStep edge f) a ∧ l.foldl (depStep edge f) a ≤ d + 1
  | [], a, h0, h1 => ⟨h0, h1⟩
  | k :: l, a, h0, h1 => by
    rw [List.foldl_cons]
    have := hf k
    apply foldl_bound hd hf l
    · unfold depStep; split <;> omega
    · unfold depStep; split <;> omega
theorem depKids_bound {edge : List Bool} {f : Tr → Int} {d : Int} (hd : 0 ≤ d) (hf : ∀ k, 0 ≤ f k ∧ f k ≤ d) : ∀ (l : List Tr), 0 ≤ depKids edge f l ∧ depKids edge f l ≤ d + 1
  | [] => ⟨Int.le_refl _, by simp [depKids]; omega⟩
  | k :: l => foldl_bound hd hf l _ (hf k).1 (by have := (hf k).2; omega)
theorem depthF_bound (edge : List Bool) : ∀ (d : Nat) (t : Tr), 0 ≤ depthF edge d t ∧ depthF edge d t ≤ d
  | 0, _ => by simp [depthF]
  | d + 1, t => by
    have := depKids_bound (edge := edge) (f := depthF edge d) (d := d) (by omega) (fun k => depthF_bound edge d k) t.kids
    rw [depthF]
    constructor
    · exact this.1
    · have := this.2; omega
theorem depKids_take {edge : List Bool} {f : Tr → Int} {l : List Tr} {k : Nat} (h : k < l.length) : depKids edge f (l.take (k + 1)) = if k = 0 then f l[k] else depStep edge f (depKids edge f (l.take k)) l[k] := by
  cases l with
  | nil => simp at h
  | cons a t =>
    cases k with
    | zero => simp [depKids]
    | succ k =>
      have hk : k < t.length := by simpa using h
      simp only [List.take_succ_cons, depKids, List.getElem_cons_succ]
      rw [List.take_succ_eq_append_getElem hk, List.foldl_append]
      simp
theorem slBool {w : World} {a : Option Addr} {n cap : Nat} {xs : List Bool} (h : SlAt BoolE 1 w (.slice a n cap) xs) {k : Nat} {c : Bool} (hk : xs[k]? = some c) :
    ∃ b off, a = some ⟨b, off, none⟩ ∧ w.cell? ⟨b, off + k, none⟩ = some (.bool c) := by
  obtain ⟨a', cap', hv, _, _, hx⟩ := h.ex
  obtain ⟨b, off, cs, ha, he, _, hcs⟩ := hx k c hk
  obtain rfl := he
  injection hv with h1 h2 h3
  have := hcs 0 _ rfl
  rw [Nat.mul_one, Nat.add_zero] at this
  exact ⟨b, off, h1.trans ha, this⟩
set_option maxRecDepth 100000 in
set_option maxHeartbeats 4000000 in
theorem depth251 (edge : List Bool) (ve : Value) : ∀ (d : Nat), d ≤ 1000000 → ∀ (t : Tr) (cs : List Value) (w : World), TreeE d w t cs → TrV edge.length d t → SlAt BoolE 1 w ve edge →
    Calls Tryz.prog 251 #[.agg cs.toArray, ve] w fun e w' => e = .returned (.int .i64 (depthF edge d t)) ∧ Bel w w' := by
  intro d
  induction d with
  | zero => intro _ t cs w ht; exact ht.elim
  | succ d ih =>
    intro hd t cs w ht hok he
    have ih := ih (by omega)
    obtain ⟨vk, rfl, hks⟩ := ht
    obtain ⟨ak, ck, rfl, hk1, hk2, _⟩ := hks.ex
    obtain ⟨ae, ce, rfl, he1, he2, _⟩ := he.ex
    obtain ⟨kind, n, kids⟩ := t
    simp only [Tr.kind_node, Tr.n_node, Tr.kids_node] at *
    have hDF := Lib.hid (show depthF edge (d + 1) (.node kind n kids) = depKids edge (depthF edge d) kids from rfl)
    have hkv : ∀ k ∈ kids, TrV edge.length d k := by
      rcases hok with ⟨_, _, _, h⟩ | ⟨_, _, _, h⟩
      · simp only [Tr.kids_node] at h; subst h; intro k hk; simp at hk
      · exact fun k hk => (h k hk).2
    have hb251 := fun k => depthF_bound edge d k
    rw [hDF.out]
    clear hok
    generalize hff : depthF edge d = ff at *
    clear hff hDF
    have hkb := fun l => depKids_bound (edge := edge) (f := ff) (d := d) (by omega) hb251 l
    go_enter Tryz.func251, Tryz.ntmps251
    go_wp2_with fail
    have hW : Bel w (w.alloc (.cells #[.int .i64 kind, .int .i64 n, .slice ak kids.length ck] 332)) := (Bel.refl w).alloc _
    generalize (w.alloc (.cells #[.int .i64 kind, .int .i64 n, .slice ak kids.length ck] 332)) = W at *
    go_loopw [5, 11] (fun v x wr => ∃ k : Nat, k ≤ kids.length ∧ x = .int .i64 k ∧ v = .int .i64 (depKids edge ff (kids.take k)) ∧ Bel w wr) (fun _ x _ => kids.length - (intOf x).toNat)
    case atStart => exact ⟨0, Nat.zero_le _, rfl, rfl, hW⟩
    case round =>
      clear hW
      obtain ⟨k, hk, rfl, rfl, hB⟩ := hrel
      by_cases hlt : k < kids.length
      · have hgk := List.getElem?_eq_getElem hlt
        obtain ⟨b', off, d', vk, hd', ha', hvk, g0, g1, g2⟩ := hks.tree hgk
        have hE : TreeE d w kids[k] [.int .i64 kids[k].kind, .int .i64 kids[k].n, vk] := by subst hd'; exact ⟨vk, rfl, hvk⟩
        have hT := depKids_take (edge := edge) (f := ff) hlt
        have hkbk := hkb (kids.take k)
        have hbk := hb251 kids[k]
        have hc := fun w' (hb : Bel wr w') => ih kids[k] _ w' (TreeE.mono d _ _ _ _ hE (hB.trans hb)) (hkv _ (List.getElem_mem hlt)) (he.bel (Flat.mono _) (hB.trans hb))
        have hv1 := hkv _ (List.getElem_mem hlt)
        obtain ⟨a1, c1, rfl, _⟩ := hvk.ex
        subst ha'
        have HT := Lib.hid hT
        clear hT hE hvk hgk hkb hb251 ih
        replace g0 := hB.cell g0; replace g1 := hB.cell g1; replace g2 := hB.cell g2
        generalize depKids edge ff (kids.take k) = acc at *
        by_cases hk0 : k = 0
        · subst hk0
          have hT2 := Lib.hid (show depKids edge ff (kids.take (0 + 1)) = ff kids[0] by rw [HT.out, if_pos rfl])
          clear HT
          simp only [Nat.zero_mul, Nat.add_zero] at g0 g1 g2
          generalize kids[0] = kd at *
          generalize ff kd = fk at *
          generalize kd.kids.length = kl at *
          go_wp2_with fail
          refine (hc _ ((Bel.refl wr).alloc _)).mono ?_
          rintro en w2 ⟨rfl, hb2⟩
          have hbb : Bel wr w2 := ((Bel.refl wr).alloc _).trans hb2
          go_wp2_with fail
          go_roundw
          case rel => exact ⟨1, by omega, by go_num, by rw [hT2.out], hB.trans hbb⟩
          case measure => simp [intOf]; omega
        · have hkz : ((k : Int) == 0) = false := by simp; omega
          have hT2 := Lib.hid (show depKids edge ff (kids.take (k + 1)) = depStep edge ff acc kids[k] by rw [HT.out, if_neg hk0])
          clear HT
          generalize kids[k] = kd at *
          obtain ⟨kk, kn, kks⟩ := kd
          simp only [Tr.kind_node, Tr.n_node, Tr.kids_node] at *
          generalize kks.length = kl at *
          generalize hfk : ff (.node kk kn kks) = fk at *
          have hst : ∀ q, (q = true ↔ (kk ≠ 0 ∨ edge.getD kn.toNat false = true)) → depStep edge ff acc (.node kk kn kks) = if q = true then max acc (1 + fk) else acc := by
            intro q hq
            unfold depStep
            simp only [Tr.kind_node, Tr.n_node, hfk]
            by_cases h : q = true
            · rw [if_pos h, if_pos (hq.1 h)]
            · rw [if_neg h, if_neg (fun e => h (hq.2 e))]
          clear hfk
          by_cases hz : kk = 0
          · subst hz
            obtain ⟨hn0, hn1⟩ := hv1.leaf rfl
            simp only [Tr.n_node] at hn0 hn1
            obtain ⟨m, rfl⟩ := Int.eq_ofNat_of_zero_le hn0
            have hm : m < edge.length := by omega
            have hgm := List.getElem?_eq_getElem hm
            have hst2 := hst edge[m] (by simp [hm])
            have heB := (he.bel (Flat.mono _) hB).bel (Flat.mono _) ((Bel.refl wr).alloc (.cells #[.int .i64 0, .int .i64 m, .slice a1 kl c1] 332))
            obtain ⟨be, oe, rfl, e0⟩ := slBool heB hgm
            have e1 := ((Bel.refl wr).alloc (.cells #[.int .i64 0, .int .i64 m, .slice a1 kl c1] 332))
            generalize edge[m] = eb at *
            clear hst hgm
            cases eb
            · have hT3 := Lib.hid (show depKids edge ff (kids.take (k + 1)) = acc by rw [hT2.out, hst2]; simp)
              clear hst2 hT2
              go_wp2_with fail
              go_roundw
              case rel => exact ⟨k + 1, by omega, by go_num, by rw [hT3.out], hB.alloc _⟩
              case measure => simp [intOf]; omega
            · have hT3 := Lib.hid (show depKids edge ff (kids.take (k + 1)) = max acc (1 + fk) by rw [hT2.out, hst2]; simp)
              clear hst2 hT2
              go_wp2_with fail
              refine (hc _ ((Bel.refl wr).alloc _)).mono ?_
              rintro en w2 ⟨rfl, hb2⟩
              have hbb : Bel wr w2 := ((Bel.refl wr).alloc _).trans hb2
              go_wp2_with fail
              go_roundw
              case rel => exact ⟨k + 1, by omega, by go_num, by rw [hT3.out], hB.trans hbb⟩
              case measure => simp [intOf]; omega
          · have hzb : (kk == 0) = false := by simpa using hz
            have hzb2 : (kk != 0) = true := by simpa using hz
            have hT3 := Lib.hid (show depKids edge ff (kids.take (k + 1)) = max acc (1 + fk) by rw [hT2.out, hst true (by simp [hz])]; simp)
            clear hst hT2 hv1
            go_wp2_with fail
            refine (hc _ ((Bel.refl wr).alloc _)).mono ?_
            rintro en w2 ⟨rfl, hb2⟩
            have hbb : Bel wr w2 := ((Bel.refl wr).alloc _).trans hb2
            go_wp2_with fail
            go_roundw
            case rel => exact ⟨k + 1, by omega, by go_num, by rw [hT3.out], hB.trans hbb⟩
            case measure => simp [intOf]; omega
      · obtain rfl : k = kids.length := by omega
        rw [List.take_length]
        go_wp2_with fail
        go_ret
        exact ⟨rfl, hB⟩
set_option maxHeartbeats 1000000 in
theorem stackDepth231 (edge : List Bool) (ve : Value) (d : Nat) (hd : d ≤ 1000000) (hN : edge.length ≤ 1000000) (t : Tr) (cs : List Value) (w : World) (ht : TreeE d w t cs) (hv : TrV edge.length d t) (hnd : (lvF d t).Nodup) (hl : (lvF d t).length = edge.length) (he : SlAt BoolE 1 w ve edge) :
    Calls Tryz.prog 231 #[.agg cs.toArray, ve] w fun e w' => e = .returned (.tuple #[.int .i64 (depthF edge d t), .int .i64 0]) ∧ Bel w w' := by
  have h1 := fun w' (hb : Bel w w') => check250 edge.length d hN t cs w' (TreeE.mono d _ _ _ _ ht hb) hv hnd hl
  have h2 := fun w' (hb : Bel w w') => depth251 edge ve d hd t cs w' (TreeE.mono d _ _ _ _ ht hb) hv (he.bel (Flat.mono _) hb)
  obtain ⟨ae, ce, rfl, _⟩ := he.ex
  clear he hnd hl hv
  generalize depthF edge d t = D at *
  cases d with
  | zero => exact ht.elim
  | succ d =>
    obtain ⟨v, rfl, hs⟩ := ht
    obtain ⟨a1, c1, rfl, _⟩ := hs.ex
    clear hs
    generalize t.kind = kind at *
    generalize t.n = n at *
    generalize t.kids.length = nk at *
    go_enter Tryz.func231, Tryz.ntmps231
    go_wp2_with fail
    refine (h1 _ ((Bel.refl w).alloc _)).mono ?_
    rintro en w1 ⟨rfl, hb1⟩
    have qt := (Blk.new w #[.int .i64 kind, .int .i64 n, .slice a1 nk c1] 332).bel hb1
    have hB := ((Bel.refl w).alloc (.cells #[.int .i64 kind, .int .i64 n, .slice a1 nk c1] 332)).trans hb1
    have q0 := qt.cell 0 rfl; have q1 := qt.cell 1 rfl; have q2 := qt.cell 2 rfl
    go_wp2_with fail
    refine (h2 _ hB).mono ?_
    rintro en w2 ⟨rfl, hb2⟩
    go_wp2_with fail
    exact bodyPost_ret (v := .tuple #[.int .i64 D, .int .i64 0]) (by simp [results, Tryz.results231, go_sem]) rfl ⟨rfl, hB.trans hb2⟩
end Go.Proofs.YtbgilebgdbgddaaGreatDoor
/- make([]int, n), make([]bool, n) -/
namespace Go.Proofs.YtbgilebgdbgddaaGreatDoor
open Go.RowKit
theorem und294 : Tryz.prog.underlying 294 = some (.slice 4) := by kernel_rfl
theorem info4 : (Tryz.prog.info? 4).map (fun i => (i.zero, i.size, i.bytes)) = some (some (.bool false), 1, 1) := by kernel_rfl
theorem made_one (z : Value) (n : Nat) : madeCells #[z] (n * 1) = Array.replicate n z := by
  rw [Nat.mul_one]
  unfold madeCells
  apply Array.ext
  · simp
  · intro i h1 h2
    simp [Nat.mod_one]
theorem mk27 (n : Nat) (hn : n ≤ 1000000) (w : World) : (Instr.makeSlice 27 (.int .i64 n) (.int .i64 n)).run Tryz.prog w = .ok (.slice (some ⟨w.heap.size, 0, none⟩) n n) (w.alloc (.cells (Array.replicate n (.int .i64 0)) 3)) := by
  obtain ⟨i0, hi, hz0, hz1, hz2⟩ := info_parts info3
  have := run_makeSlice (P := Tryz.prog) w 27 3 i0 (.int .i64 0) und27 hi hz0 .i64 .i64 n n (by omega) (Int.le_refl _) (by rw [hz1]; simp; omega) (by rw [hz2]; omega) (by omega)
  rw [this, hz1]
  simp only [Int.toNat_natCast]
  rw [show (Value.int IntKind.i64 0).cells = #[.int .i64 0] from rfl, made_one]
theorem mk294 (n : Nat) (hn : n ≤ 1000000) (w : World) : (Instr.makeSlice 294 (.int .i64 n) (.int .i64 n)).run Tryz.prog w = .ok (.slice (some ⟨w.heap.size, 0, none⟩) n n) (w.alloc (.cells (Array.replicate n (.bool false)) 4)) := by
  obtain ⟨i0, hi, hz0, hz1, hz2⟩ := info_parts info4
  have := run_makeSlice (P := Tryz.prog) w 294 4 i0 (.bool false) und294 hi hz0 .i64 .i64 n n (by omega) (Int.le_refl _) (by rw [hz1]; simp; omega) (by rw [hz2]; omega) (by omega)
  rw [this, hz1]
  simp only [Int.toNat_natCast]
  rw [show (Value.bool false).cells = #[.bool false] from rfl, made_one]
end Go.Proofs.YtbgilebgdbgddaaGreatDoor
/- codegen.Tree at a valid tree -/
namespace Go.Proofs.YtbgilebgdbgddaaGreatDoor
open Go.RowKit
def slotsF : Int → List Contact → List Int
  | _, [] => []
  | s, c :: l => if seesB c.kind then s :: slotsF (s + 1) l else 0 :: slotsF s l
def seesN (l : List Contact) : Nat := l.countP fun c => seesB c.kind
theorem slotsF_len : ∀ (l : List Contact) (s : Int), (slotsF s l).length = l.length
  | [], _ => rfl
  | c :: l, s => by
    rw [slotsF]
    split <;> simp [slotsF_len l]
theorem slotsF_append : ∀ (a b : List Contact) (s : Int), slotsF s (a ++ b) = slotsF s a ++ slotsF (s + seesN a) b
  | [], b, s => by simp [slotsF, seesN]
  | c :: l, b, s => by
    simp only [List.cons_append, slotsF, slotsF_append l b]
    unfold seesN
    rw [List.countP_cons]
    split
    · simp [*]; congr 1; omega
    · simp [*]
theorem eg253 : ∀ args w, (callFunc 253 args).run Tryz.prog w = .ok (.enter 253 args) w := enters_of Tryz.func253 (by kernel_rfl) rfl
theorem clo_253 (c : Contact) (w : World) (h0 : 0 ≤ c.kind) (h4 : c.kind < 4) :
    Calls Tryz.prog 253 #[.agg (contactC c).toArray] w fun e w' => e = .returned (.bool false) ∧ Bel w w' := by
  obtain ⟨ck, sp, na, cf, ct⟩ := c
  dsimp only at *
  have h1 : decide (ck < 0) = false := by simp <;> omega
  have h2 : decide (4 ≤ ck) = false := by simp <;> omega
  have h3 : ¬ ck < 0 := by omega
  have h5 : ¬ 4 ≤ ck := by omega
  unfold contactC
  dsimp only
  go_enter Tryz.func253, Tryz.ntmps253
  go_wp2_with fail
  go_ret
  exact ⟨rfl, (Bel.refl _).alloc _⟩
set_option maxRecDepth 100000 in
set_option maxHeartbeats 4000000 in
theorem tree232 (r : Rung) (cs ct : List Value) (t : Tr) (d : Nat) (slot : Int) (w : World) (henv : Env w) (hr : RungE w r cs) (ht : TreeE d w t ct) (hN : r.contacts.length ≤ 1000) (hv : TrV r.contacts.length d t) (hnd : (lvF d t).Nodup) (hl : (lvF d t).length = r.contacts.length)
    (hk : ∀ c ∈ r.contacts, 0 ≤ c.kind ∧ c.kind < 4) (hs0 : 0 ≤ slot) (hs1 : slot ≤ 16384) (hcode : (layF ⟨r.contacts, slotsF slot r.contacts⟩ d t).length < 1000000000) :
    Calls Tryz.prog 232 #[.agg cs.toArray, .agg ct.toArray, .int .i64 slot] w fun e w' => ∃ v, e = .returned (.tuple #[v, .int .i64 0]) ∧ w'.ownsRow w.heap.size 54 4 v (layF ⟨r.contacts, slotsF slot r.contacts⟩ d t).length ((layF ⟨r.contacts, slotsF slot r.contacts⟩ d t).flatMap insC) ∧ Bel w w' := by
  have hr0 := Lib.hid hr
  have h1 := fun w' (hb : Bel w w') => check250 r.contacts.length d (by omega) t ct w' (TreeE.mono d _ _ _ _ ht hb) hv hnd hl
  have ht0 := Lib.hid ht
  have hvo := hv.ok
  clear hnd hl hv
  obtain ⟨vc, vo, rfl, hc, ho⟩ := hr
  obtain ⟨ac, cc, rfl, _⟩ := hc.ex
  obtain ⟨ao, co, rfl, _⟩ := ho.ex
  obtain ⟨lbl, cons, os, jp⟩ := r
  dsimp only at *
  clear ho
  generalize os.length = no at *
  cases d with
  | zero => exact ht.elim
  | succ d =>
  obtain ⟨vk, rfl, hks⟩ := ht
  obtain ⟨ak, ck, rfl, _⟩ := hks.ex
  clear hks
  generalize hkd : t.kind = kind at *
  generalize hnn : t.n = n at *
  generalize t.kids.length = nk at *
  have hcont := fun w' (hb : Bel w w') => contF_252 (Flat.mono _) (p := fun _ : Contact => false) 253 #[] eg253 cons (.slice ac cons.length cc) w' (hc.bel (Flat.mono _) hb) (fun c cs' w'' _ he _ hm => by
    obtain rfl := he
    exact clo_253 c w'' (hk c hm).1 (hk c hm).2)
  have hanyf : (cons.any fun _ : Contact => false) = false := by simp
  have hd1 : decide (slot < 0) = false := by simp <;> omega
  have hd2 : decide (16384 < slot) = false := by simp <;> omega
  have hd3 : ¬ slot < 0 := by omega
  have hd4 : ¬ 16384 < slot := by omega
  go_enter Tryz.func232, Tryz.ntmps232
  go_wp2_with fail
  have hB : Bel w ((w.alloc (.cells #[.string lbl, .slice ac cons.length cc, .slice ao no co, .string jp] 33)).alloc (.cells #[.int .i64 kind, .int .i64 n, .slice ak nk ck] 332)) := ((Bel.refl w).alloc _).alloc _
  have qr : Blk ((w.alloc (.cells #[.string lbl, .slice ac cons.length cc, .slice ao no co, .string jp] 33)).alloc (.cells #[.int .i64 kind, .int .i64 n, .slice ak nk ck] 332)) w.heap.size #[.string lbl, .slice ac cons.length cc, .slice ao no co, .string jp] 33 := (Blk.new w _ _).alloc _
  have qt : Blk ((w.alloc (.cells #[.string lbl, .slice ac cons.length cc, .slice ao no co, .string jp] 33)).alloc (.cells #[.int .i64 kind, .int .i64 n, .slice ak nk ck] 332)) (w.heap.size + 1) #[.int .i64 kind, .int .i64 n, .slice ak nk ck] 332 := Blk.new1 w _ _ _
  generalize ((w.alloc (.cells #[.string lbl, .slice ac cons.length cc, .slice ao no co, .string jp] 33)).alloc (.cells #[.int .i64 kind, .int .i64 n, .slice ak nk ck] 332)) = W at *
  refine (h1 W hB).mono ?_
  rintro en w1 ⟨rfl, hb1⟩
  replace hB := hB.trans hb1
  replace qr := qr.bel hb1
  replace qt := qt.bel hb1
  have r1 := qr.cell 1 rfl
  go_wp2_with fail
  refine (hcont w1 hB).mono ?_
  rintro en w2 ⟨rfl, hb2⟩
  rw [hanyf]
  replace hB := hB.trans hb2
  replace qr := qr.bel hb2
  replace qt := qt.bel hb2
  clear r1 hcont h1
  have r0 := qr.cell 0 rfl; have r1 := qr.cell 1 rfl; have r2 := qr.cell 2 rfl; have r3 := qr.cell 3 rfl
  have s0 := fun o => (qr.alloc o).cell 0 rfl; have s1 := fun o => (qr.alloc o).cell 1 rfl; have s2 := fun o => (qr.alloc o).cell 2 rfl; have s3 := fun o => (qr.alloc o).cell 3 rfl
  have hmk := mk27 cons.length (by omega)
  go_wp2_with fail
  go_region
  have hB3 : Bel w2 ((w2.alloc (.cells (Array.replicate cons.length (.int .i64 0)) 3)).alloc (.cells #[.string lbl, .slice ac cons.length cc, .slice ao no co, .string jp, .slice (some ⟨w2.heap.size, 0, none⟩) cons.length cons.length, .slice none 0 0] 364)).drew := (((Bel.refl w2).alloc _).alloc _).drew
  have qs : Blk ((w2.alloc (.cells (Array.replicate cons.length (.int .i64 0)) 3)).alloc (.cells #[.string lbl, .slice ac cons.length cc, .slice ao no co, .string jp, .slice (some ⟨w2.heap.size, 0, none⟩) cons.length cons.length, .slice none 0 0] 364)).drew w2.heap.size (Array.replicate cons.length (.int .i64 0)) 3 := ((Blk.new w2 _ _).alloc _).drewN 1
  have qm : Blk ((w2.alloc (.cells (Array.replicate cons.length (.int .i64 0)) 3)).alloc (.cells #[.string lbl, .slice ac cons.length cc, .slice ao no co, .string jp, .slice (some ⟨w2.heap.size, 0, none⟩) cons.length cons.length, .slice none 0 0] 364)).drew (w2.heap.size + 1) #[.string lbl, .slice ac cons.length cc, .slice ao no co, .string jp, .slice (some ⟨w2.heap.size, 0, none⟩) cons.length cons.length, .slice none 0 0] 364 := (Blk.new1 w2 _ _ _).drewN 1
  generalize ((w2.alloc (.cells (Array.replicate cons.length (.int .i64 0)) 3)).alloc (.cells #[.string lbl, .slice ac cons.length cc, .slice ao no co, .string jp, .slice (some ⟨w2.heap.size, 0, none⟩) cons.length cons.length, .slice none 0 0] 364)).drew = W3 at *
  have hcs2 : SlAt ContactE 5 w2 (.slice ac cons.length cc) cons := hc.bel (Flat.mono _) hB
  have htr2 := TreeE.mono _ _ _ _ _ ht0.out hB
  have hrs := qr.lt
  have hTBs := qt.lt
  replace qr := qr.bel hB3
  replace qt := qt.bel hB3
  have henv2 := henv.bel hB
  obtain ⟨sb, hsb⟩ : ∃ sb, sb = w2.heap.size := ⟨_, rfl⟩
  rw [← hsb] at qs qm hrs hTBs ⊢
  have hsb' : w2.heap.size ≤ sb := by omega
  clear hsb
  have hqs : Array.replicate cons.length (Value.int .i64 0) = ((slotsF slot (cons.take 0) ++ List.replicate (cons.length - 0) 0).map (Value.int .i64)).toArray := by simp [slotsF]
  rw [hqs] at qs
  clear hqs s0 s1 s2 s3 r0 r1 r2 r3 hmk
  have r1 := qr.cell 1 rfl
  go_wp2_with fail
  clear r1
  go_loopw [2, 39] (fun sv x wr => ∃ k : Nat, k ≤ cons.length ∧ x = .int .i64 k ∧ sv = .int .i64 (slot + seesN (cons.take k)) ∧ Bel w2 wr ∧ Blk wr w.heap.size #[.string lbl, .slice ac cons.length cc, .slice ao no co, .string jp] 33 ∧ Blk wr (w.heap.size + 1) #[.int .i64 kind, .int .i64 n, .slice ak nk ck] 332 ∧ Blk wr sb ((slotsF slot (cons.take k) ++ List.replicate (cons.length - k) 0).map (Value.int .i64)).toArray 3 ∧ Blk wr (sb + 1) #[.string lbl, .slice ac cons.length cc, .slice ao no co, .string jp, .slice (some ⟨sb, 0, none⟩) cons.length cons.length, .slice none 0 0] 364) (fun _ x _ => cons.length - (intOf x).toNat)
  case atStart => exact ⟨0, Nat.zero_le _, rfl, by simp [seesN], hB3, qr, qt, qs, qm⟩
  case round =>
    clear hB3 qr qt qs qm
    obtain ⟨k, hk2, rfl, rfl, hB3, qr, qt, qs, qm⟩ := hrel
    by_cases hlt : k < cons.length
    · have hg := List.getElem?_eq_getElem hlt
      obtain ⟨b, off, rfl, c0, c1, c2, c3, c4⟩ := (hcs2.bel (Flat.mono _) hB3).contact hg
      have hTa : slotsF slot (cons.take (k + 1)) = slotsF slot (cons.take k) ++ (if seesB cons[k].kind then [slot + (seesN (cons.take k) : Int)] else [0]) := by
        rw [List.take_succ_eq_append_getElem hlt, slotsF_append]
        simp only [slotsF]
      have hTb : seesN (cons.take (k + 1)) = seesN (cons.take k) + if seesB cons[k].kind then 1 else 0 := by
        unfold seesN
        rw [List.take_succ_eq_append_getElem hlt, List.countP_append]; simp [List.countP_cons]
      have hsn : seesN (cons.take k) ≤ k := by
        have := List.countP_le_length (p := fun c : Contact => seesB c.kind) (l := cons.take k)
        unfold seesN; simp at this ⊢; omega
      have hsl := slotsF_len (cons.take k) slot
      rw [List.length_take, Nat.min_eq_left (by omega)] at hsl
      have hrep : List.replicate (cons.length - k) (0 : Int) = 0 :: List.replicate (cons.length - (k + 1)) 0 := by
        rw [show cons.length - k = (cons.length - (k + 1)) + 1 by omega]; rfl
      have hTa' := Lib.hid hTa; have hTb' := Lib.hid hTb; have hrep' := Lib.hid hrep
      clear hTa hTb hrep hg
      generalize cons[k] = c at *
      generalize slotsF slot (cons.take k) = sl at *
      generalize seesN (cons.take k) = sn at *
      obtain ⟨ck2, sp, na, cf, ctt⟩ := c
      dsimp only at *
      generalize hq : seesB ck2 = q at *
      have Hq := Lib.hid hq
      clear hq
      cases q
      · have e1 := Lib.hid (show slotsF slot (cons.take (k + 1)) ++ List.replicate (cons.length - (k + 1)) 0 = sl ++ List.replicate (cons.length - k) 0 by
          rw [hTa'.out, hrep'.out]; simp)
        have e2 := Lib.hid (show seesN (cons.take (k + 1)) = sn by rw [hTb'.out]; simp)
        clear hTa' hTb'
        go_wp2_with fail
        refine (sees230 ck2 sp na cf ctt _).mono ?_
        rintro en w5 ⟨rfl, hb5⟩
        rw [Hq.out]
        go_wp2_with fail
        have hbb : Bel wr w5 := ((Bel.refl wr).alloc _).trans hb5
        go_roundw
        case rel => exact ⟨k + 1, by omega, by go_num, by rw [e2.out], hB3.trans hbb, qr.bel hbb, qt.bel hbb, by rw [e1.out]; exact qs.bel hbb, qm.bel hbb⟩
        case measure => simp [intOf]; omega
      · have e1 := Lib.hid (show (slotsF slot (cons.take (k + 1)) ++ List.replicate (cons.length - (k + 1)) 0) = (sl ++ List.replicate (cons.length - k) 0).set k (slot + sn) by
          rw [hTa'.out, hrep'.out]; simp [List.set_append, hsl])
        have e2 := Lib.hid (show seesN (cons.take (k + 1)) = sn + 1 by rw [hTb'.out]; simp)
        clear hTa' hTb'
        go_wp2_with fail
        refine (sees230 ck2 sp na cf ctt _).mono ?_
        rintro en w5 ⟨rfl, hb5⟩
        rw [Hq.out]
        have hbb : Bel wr w5 := ((Bel.refl wr).alloc _).trans hb5
        replace qs := qs.bel hbb; replace qm := qm.bel hbb; replace qr := qr.bel hbb; replace qt := qt.bel hbb
        have m4 := qm.cell 4 rfl
        have sk : w5.cell? ⟨sb, k, none⟩ = some (.int .i64 0) := qs.cell k (by rw [hrep'.out]; simp [hsl])
        have sf := qs.frozen k
        clear c0 c1 c2 c3 c4
        go_wp2_with fail
        go_roundw
        case rel =>
          refine ⟨k + 1, by omega, by go_num, by rw [e2.out]; push_cast; congr 1; omega, (hB3.trans hbb).setCell (by omega) _, qr.set_other (by simp; omega) _, qt.set_other (by simp; omega) _, ?_, qm.set_other (by simp) _⟩
          have := qs.set k (.int .i64 (slot + sn))
          rw [e1.out, List.map_set]
          simpa using this
        case measure => simp [intOf]; omega
    · obtain rfl : k = cons.length := by omega
      rw [List.take_length, Nat.sub_self] at qs
      simp only [List.replicate_zero, List.append_nil] at qs
      have hmk0 : MkAt w2 wr (sb + 1) (.string lbl) (.slice ac cons.length cc) (.slice ao no co) (.string jp) sb ⟨cons, slotsF slot cons⟩ [] :=
        ⟨hB3, by omega, qs, _, qm, World.ownsRow_nil _ _ _ _⟩
      have t0 := qt.cell 0 rfl; have t1 := qt.cell 1 rfl; have t2 := qt.cell 2 rfl
      go_wp2_with fail
      refine (lay_any w2 henv2 (sb + 1) (.string lbl) (.slice ao no co) (.string jp) (.slice ac cons.length cc) sb ⟨cons, slotsF slot cons⟩ hcs2 hk (slotsF_len _ _) (d + 1) t _ [] wr htr2 hvo hmk0 (by simpa using hcode)).mono ?_
      rintro en w6 ⟨rfl, hm6, ht6⟩
      obtain ⟨v6, hb6, ho6⟩ := hm6.ex
      have m5 := hb6.cell 5 rfl
      obtain ⟨A6, k6, rfl, _⟩ := own_slice ho6
      simp only [List.nil_append] at *
      clear t0 t1 t2
      go_wp2_with fail
      exact bodyPost_ret (v := .tuple #[.slice A6 (layF ⟨cons, slotsF slot cons⟩ (d + 1) t).length k6, .int .i64 0]) (by simp [results, Tryz.results232, go_sem]) rfl (by first | exact ⟨_, rfl, own_base ho6 hB.size, hB.trans hm6.bel⟩ | exact ⟨⟨_, rfl⟩, own_base ho6 hB.size, hB.trans hm6.bel⟩ | (simp; exact ⟨own_base ho6 hB.size, hB.trans hm6.bel⟩))
end Go.Proofs.YtbgilebgdbgddaaGreatDoor
