/- graph.gather: its closures -/
import Derived.Test.YtbgilebgdbgddaaGreatDoorNod
set_option linter.unusedVariables false
set_option linter.unusedSimpArgs false
namespace Go.Proofs.YtbgilebgdbgddaaGreatDoor
open Go.RowKit
def visitF (steps : ByteArray → List ByteArray) : Nat → ByteArray → List ByteArray → List ByteArray
  | 0, _, seen => seen
  | d + 1, n, seen => if n ∈ seen then seen else (steps n).foldl (fun s m => visitF steps d m s) (seen ++ [n])
theorem foldl_sub {α : Type} {f : List ByteArray → α → List ByteArray} (hf : ∀ s a x, x ∈ s → x ∈ f s a) : ∀ (l : List α) (s : List ByteArray) (x : ByteArray), x ∈ s → x ∈ l.foldl f s
  | [], _, _, h => h
  | a :: l, s, x, h => foldl_sub hf l _ x (hf s a x h)
theorem visit_sub (steps : ByteArray → List ByteArray) : ∀ (d : Nat) (n : ByteArray) (seen : List ByteArray) (x : ByteArray), x ∈ seen → x ∈ visitF steps d n seen
  | 0, _, _, _, h => h
  | d + 1, n, seen, x, h => by
    rw [visitF]
    split
    · exact h
    · exact foldl_sub (fun s a y hy => visit_sub steps d a s y hy) _ _ _ (by simp [h])
/-- How many of the universe are not seen. -/
def unseen (U seen : List ByteArray) : Nat := (U.filter fun x => !decide (x ∈ seen)).length
theorem unseen_mono {U s s' : List ByteArray} (h : ∀ x, x ∈ s → x ∈ s') : unseen U s' ≤ unseen U s := by
  unfold unseen
  induction U with
  | nil => simp
  | cons a l ih =>
    simp only [List.filter_cons]
    by_cases h1 : a ∈ s
    · simp [h1, h a h1]; exact ih
    · by_cases h2 : a ∈ s'
      · simp [h1, h2]; exact Nat.le_succ_of_le ih
      · simp [h1, h2]; exact ih
theorem unseen_add {U s : List ByteArray} {n : ByteArray} (hU : n ∈ U) (hn : n ∉ s) : unseen U (s ++ [n]) < unseen U s := by
  unfold unseen
  induction U with
  | nil => simp at hU
  | cons a l ih =>
    simp only [List.filter_cons]
    by_cases e : a = n
    · subst e
      have := unseen_mono (U := l) (s := s) (s' := s ++ [a]) (fun x hx => by simp [hx])
      unfold unseen at this
      simp [hn]
      simp at this
      omega
    · have hl : n ∈ l := by rcases List.mem_cons.1 hU with h | h; exact absurd h.symm e; exact h
      have := ih hl
      by_cases h1 : a ∈ s
      · simp [h1]; simpa using this
      · simp [h1, e]; simpa using this
theorem slAt_grown {α : Type} {f : α → List Value} {sz : Nat} {κ : Type} [DecidableEq κ] {kv : κ → Value} {w w' : World} {b : Nat} {L : List (κ × Value)} {v : Value} {xs : List α} (h : SlAt (Flat f) sz w v xs) (hm : MapAt kv w b L) (hg : w.grownBy w' (some b)) : SlAt (Flat f) sz w' v xs := by
  obtain ⟨a, cap, hv, hl, hc, hx⟩ := h.ex
  refine ⟨a, cap, hv, hl, hc, fun i x hi => ?_⟩
  obtain ⟨b', off, cs, ha, he, hsz, hcs⟩ := hx i x hi
  exact ⟨b', off, cs, ha, he, hsz, fun j u hu => grown_cell hm hg (hcs j u hu)⟩
theorem slStr {w : World} {a : Option Addr} {n cap : Nat} {xs : List ByteArray} (h : SlAt StrE 1 w (.slice a n cap) xs) {k : Nat} {c : ByteArray} (hk : xs[k]? = some c) :
    ∃ b off, a = some ⟨b, off, none⟩ ∧ w.cell? ⟨b, off + k, none⟩ = some (.string c) := by
  obtain ⟨a', cap', hv, _, _, hx⟩ := h.ex
  obtain ⟨b, off, cs, ha, he, _, hcs⟩ := hx k c hk
  obtain rfl := he
  injection hv with h1 h2 h3
  have := hcs 0 _ rfl
  rw [Nat.mul_one, Nat.add_zero] at this
  exact ⟨b, off, h1.trans ha, this⟩
theorem eg334 : ∀ args w, (callFunc 334 args).run Tryz.prog w = .ok (.enter 334 args) w := enters_of Tryz.func334 (by kernel_rfl) rfl
set_option maxRecDepth 100000 in
set_option maxHeartbeats 4000000 in
theorem visit_any (steps : ByteArray → List ByteArray) (U : List ByteArray) (hU : ∀ n ∈ U, ∀ m ∈ steps n, m ∈ U) (hsl : ∀ n, (steps n).length ≤ 1000000)
    (gs : Nat) (lbs : Array Value) (egs : ∀ args w, (callFunc gs args).run Tryz.prog w = .ok (.enter gs args) w) (sb tb vb mb : Nat) (W0 : World)
    (qs : Blk W0 sb #[.map (some mb)] 91) (qt : Blk W0 tb #[.func (.func gs) #[] lbs] 303) (qv : Blk W0 vb #[.func (.func 334) #[] #[.pointer (some ⟨sb, 0, none⟩), .pointer (some ⟨tb, 0, none⟩), .pointer (some ⟨vb, 0, none⟩)]] 226)
    (hne : sb ≠ mb ∧ tb ≠ mb ∧ vb ≠ mb)
    (hst : ∀ n w', W0.grownBy w' (some mb) → Calls Tryz.prog gs (#[.string n] ++ lbs) w' fun e w'' => ∃ v, e = .returned v ∧ SlAt StrE 1 w'' v (steps n) ∧ Bel w' w'') :
    ∀ (d : Nat) (n : ByteArray) (seen : List ByteArray) (w : World), n ∈ U → unseen U seen < d → W0.grownBy w (some mb) → (∃ L, MapAt Value.string w mb L ∧ SeenIs L seen) →
    Calls Tryz.prog 334 #[.string n, .pointer (some ⟨sb, 0, none⟩), .pointer (some ⟨tb, 0, none⟩), .pointer (some ⟨vb, 0, none⟩)] w fun e w' => e = .returned (.tuple #[]) ∧ w.grownBy w' (some mb) ∧ ∃ L, MapAt Value.string w' mb L ∧ SeenIs L (visitF steps d n seen) := by
  intro d
  induction d with
  | zero => intro n seen w _ h; omega
  | succ d ih =>
    intro n seen w hnU hd hg0 ⟨L, hm, hs⟩
    have cs : ∀ w', W0.grownBy w' (some mb) → (w'.cell? ⟨sb, 0, none⟩ = some (.map (some mb)) ∧ w'.cell? ⟨tb, 0, none⟩ = some (.func (.func gs) #[] lbs) ∧ w'.cell? ⟨vb, 0, none⟩ = some (.func (.func 334) #[] #[.pointer (some ⟨sb, 0, none⟩), .pointer (some ⟨tb, 0, none⟩), .pointer (some ⟨vb, 0, none⟩)])) := fun w' hg =>
      ⟨(grown_blk qs hg (by simp [hne.1])).cell 0 rfl, (grown_blk qt hg (by simp [hne.2.1])).cell 0 rfl, (grown_blk qv hg (by simp [hne.2.2])).cell 0 rfl⟩
    have c1 := (cs w hg0).1
    have hr := run_look strKey und91 (zero4 w) hm n false
    rw [hs.get] at hr
    by_cases hin : n ∈ seen
    · have hv : visitF steps (d + 1) n seen = seen := by simp [visitF, hin]
      rw [hv]
      simp only [hin, decide_true] at hr
      go_enter Tryz.func334, Tryz.ntmps334
      go_wp2_with fail
      exact bodyPost_ret (v := .tuple #[]) (by simp [results, Tryz.results334, go_sem]) rfl ⟨rfl, grown_of_bel (Bel.refl _) _, L, hm, hs⟩
    · have hv : visitF steps (d + 1) n seen = (steps n).foldl (fun s m => visitF steps d m s) (seen ++ [n]) := by simp [visitF, hin]
      rw [hv]
      simp only [hin, decide_false] at hr
      obtain ⟨w1, hrun, hm1, hg1⟩ := run_put strKey und91 hm n (.bool true)
      have hs1 := hs.put n
      have hgw := hg1
      replace hg1 := hg0.trans hg1
      have c2 := (cs w1 hg1).2.1
      have hun := unseen_add hnU hin
      go_enter Tryz.func334, Tryz.ntmps334
      go_wp2_with fail
      refine (hst n w1 hg1).mono ?_
      rintro en w2 ⟨v, rfl, hsv, hb2⟩
      obtain ⟨a, cap, rfl, hl1, hl2, _⟩ := hsv.ex
      have hg2 := hg1.trans (grown_of_bel hb2 _)
      replace hgw := hgw.trans (grown_of_bel hb2 _)
      have hm2 := hm1.bel hb2
      have hsub := hU n hnU
      have hsn := hsl n
      clear c1 c2 hr hrun
      generalize hst' : steps n = ms at *
      go_wp2_with fail
      go_loopw [16] (fun x wr => ∃ k : Nat, k ≤ ms.length ∧ x = .int .i64 k ∧ (W0.grownBy wr (some mb) ∧ w.grownBy wr (some mb)) ∧ SlAt StrE 1 wr (.slice a ms.length cap) ms ∧ ∃ L, MapAt Value.string wr mb L ∧ SeenIs L ((ms.take k).foldl (fun s m => visitF steps d m s) (seen ++ [n]))) (fun x _ => ms.length - (intOf x).toNat)
      case atStart => exact ⟨0, Nat.zero_le _, rfl, ⟨hg2, hgw⟩, hsv, _, hm2, hs1⟩
      case round =>
        clear hg2 hsv hm2 hs1 hm hs hg0 hgw
        obtain ⟨k, hk, rfl, ⟨hg, hgw⟩, hsv, L, hm, hs⟩ := hrel
        by_cases hlt : k < ms.length
        · have hgk := List.getElem?_eq_getElem hlt
          obtain ⟨b, off, rfl, c0⟩ := slStr hsv hgk
          have hT := Lib.hid (show (ms.take (k + 1)).foldl (fun s m => visitF steps d m s) (seen ++ [n]) = visitF steps d ms[k] ((ms.take k).foldl (fun s m => visitF steps d m s) (seen ++ [n])) by
            rw [List.take_succ_eq_append_getElem hlt, List.foldl_append]; rfl)
          have hunk : unseen U ((ms.take k).foldl (fun s m => visitF steps d m s) (seen ++ [n])) < d := by
            have := unseen_mono (U := U) (s := seen ++ [n]) (s' := (ms.take k).foldl (fun s m => visitF steps d m s) (seen ++ [n])) (fun x hx => foldl_sub (fun s a y hy => visit_sub steps d a s y hy) _ _ _ hx)
            omega
          have hmem := hsub ms[k] (List.getElem_mem hlt)
          have c3 := (cs wr hg).2.2
          generalize ms[k] = m at *
          generalize (ms.take k).foldl (fun s m => visitF steps d m s) (seen ++ [n]) = sn at *
          clear hgk
          go_wp2_with fail
          refine (ih m sn wr hmem hunk hg ⟨L, hm, hs⟩).mono ?_
          rintro en w3 ⟨rfl, hg3, L3, hm3, hs3⟩
          go_wp2_with fail
          go_roundw
          case rel => exact ⟨k + 1, by omega, by go_num, ⟨hg.trans hg3, hgw.trans hg3⟩, slAt_grown hsv hm hg3, L3, hm3, by rw [hT.out]; exact hs3⟩
          case measure => simp [intOf]; omega
        · go_wp2_with fail
          obtain rfl : k = ms.length := by omega
          rw [List.take_length] at hs
          go_end0
          exact ⟨rfl, hgw, L, hm, by rw [hst']; exact hs⟩
end Go.Proofs.YtbgilebgdbgddaaGreatDoor
/- graph.Reachable$1, Ancestors$1; slices.Index, Contains at strings -/
namespace Go.Proofs.YtbgilebgdbgddaaGreatDoor
open Go.RowKit
def dC : Contact := ⟨0, 0, 0, .empty, .empty⟩
def succF (cons : List Contact) (n : ByteArray) : List ByteArray := (numsF (fun c => decide (c.from_ = n)) 0 cons).map fun i => (cons.getD i dC).to_
def predF (cons : List Contact) (n : ByteArray) : List ByteArray := (numsF (fun c => decide (c.to_ = n)) 0 cons).map fun i => (cons.getD i dC).from_
theorem numsF_lt (p : Contact → Bool) (a : List Contact) : ∀ i j, j ∈ numsF p i a → i ≤ j ∧ j < i + a.length := by
  induction a with
  | nil => intro i j h; simp [numsF] at h
  | cons c l ih =>
    intro i j h
    simp only [numsF] at h
    split at h
    · rcases List.mem_cons.1 h with rfl | h
      · simp
      · have := ih _ _ h; simp; omega
    · have := ih _ _ h; simp; omega
theorem natC_len (n : Nat) : (natC n).length = 1 := rfl
theorem slNat {w : World} {a : Option Addr} {n cap : Nat} {xs : List Nat} (h : SlAt (Flat natC) 1 w (.slice a n cap) xs) {k : Nat} {c : Nat} (hk : xs[k]? = some c) :
    ∃ b off, a = some ⟨b, off, none⟩ ∧ w.cell? ⟨b, off + k, none⟩ = some (.int .i64 c) := by
  obtain ⟨a', cap', hv, _, _, hx⟩ := h.ex
  obtain ⟨b, off, cs, ha, he, _, hcs⟩ := hx k c hk
  obtain rfl := he
  injection hv with h1 h2 h3
  have := hcs 0 _ rfl
  rw [Nat.mul_one, Nat.add_zero] at this
  exact ⟨b, off, h1.trans ha, this⟩
set_option maxRecDepth 100000 in
set_option maxHeartbeats 4000000 in
theorem steps_317 (rb : Nat) (r : Rung) (cs : List Value) (n : ByteArray) (w : World) (hr : RungE w r cs) (hq : Blk w rb cs.toArray 33) (hn : r.contacts.length ≤ 1000) :
    Calls Tryz.prog 317 #[.string n, .pointer (some ⟨rb, 0, none⟩)] w fun e w' => ∃ v, e = .returned v ∧ SlAt StrE 1 w' v (succF r.contacts n) ∧ Bel w w' := by
  have hr0 := Lib.hid hr
  obtain ⟨vc, vo, rfl, hc, ho⟩ := hr
  obtain ⟨ac, cc, rfl, hc1, hc2, _⟩ := hc.ex
  obtain ⟨ao, co, rfl, _⟩ := ho.ex
  clear ho
  generalize hno : r.coils.length = no at *
  have q0 := hq.cell 0 rfl; have q1 := hq.cell 1 rfl; have q2 := hq.cell 2 rfl; have q3 := hq.cell 3 rfl
  obtain ⟨ls, hls⟩ : ∃ ls, ls = numsF (fun c => decide (c.from_ = n)) 0 r.contacts := ⟨_, rfl⟩
  have hgo : succF r.contacts n = ls.map fun i => (r.contacts.getD i dC).to_ := by rw [hls]; rfl
  rw [hgo]
  have hcal := outgoing_any r _ n w hr0.out hn
  have hnl := numsF_len (fun c => decide (c.from_ = n)) r.contacts 0
  have hnt := numsF_lt (fun c => decide (c.from_ = n)) r.contacts 0
  rw [← hls] at hcal hnl hnt
  clear hls hgo
  go_enter Tryz.func317, Tryz.ntmps317
  go_wp2_with fail
  refine hcal.mono ?_
  rintro en w1 ⟨v, rfl, ho, hb1⟩
  have hsl : SlAt (Flat natC) 1 w1 v ls := own_read natC_len ho rfl _ (fun _ _ => rfl)
  obtain ⟨a, cap, rfl, hl1, hl2, _⟩ := hsl.ex
  replace hq := hq.bel hb1
  clear q0 q1 q2 q3 ho hr0 hcal
  go_wp2_with fail
  go_loopw [4, 11] (fun lv x wr => ∃ k : Nat, k ≤ ls.length ∧ x = .int .i64 k ∧ Bel w1 wr ∧ wr.ownsRow w1.heap.size 9 1 lv k (((ls.take k).map fun i => (r.contacts.getD i dC).to_).flatMap strC)) (fun _ x _ => ls.length - (intOf x).toNat)
  case atStart => exact ⟨0, Nat.zero_le _, rfl, Bel.refl _, World.ownsRow_nil _ _ _ _⟩
  case round =>
    obtain ⟨k, hk, rfl, hB, ho⟩ := hrel
    by_cases hlt : k < ls.length
    · have hg := List.getElem?_eq_getElem hlt
      obtain ⟨b, off, rfl, c0⟩ := slNat (hsl.bel (Flat.mono _) hB) hg
      have hT := Lib.hid (show ((ls.take (k + 1)).map fun i => (r.contacts.getD i dC).to_).flatMap strC = ((ls.take k).map fun i => (r.contacts.getD i dC).to_).flatMap strC ++ strC (r.contacts.getD ls[k] dC).to_ by
        rw [List.take_succ_eq_append_getElem hlt, List.map_append, List.flatMap_append]; simp)
      have hm := (hnt _ (List.getElem_mem hlt)).2
      rw [Nat.zero_add] at hm
      generalize ls[k] = m at *
      have hg2 := List.getElem?_eq_getElem hm
      have hgd : r.contacts.getD m dC = r.contacts[m] := by simp [hg2]
      rw [hgd] at hT
      obtain ⟨b2, off2, rfl, d0, d1, d2, d3, d4⟩ := (hc.bel (Flat.mono _) (hb1.trans hB)).contact hg2
      generalize r.contacts[m] = c at *
      obtain ⟨ck, sp, na, cf, ctt⟩ := c
      dsimp only at *
      generalize ((ls.take k).map fun i => (r.contacts.getD i dC).to_) = sx at *
      clear hg hg2 hgd hnt
      have q1 := (hq.bel hB).cell 1 rfl
      obtain ⟨A, c, rfl, _⟩ := own_slice ho
      have hnb : Blk (wr.alloc (.cells #[.string ctt] 9)) wr.heap.size #[.string ctt] 9 := Blk.new wr _ _
      have ho6 := own_bel ho ((Bel.refl wr).alloc (.cells #[.string ctt] 9))
      have hnews : ∀ u ∈ strC ctt, u.oneCell' = true := by simp [strC, Value.oneCell']
      have hba : w1.heap.size ≤ (wr.alloc (.cells #[.string ctt] 9)).heap.size := by have := hB.size; simp; omega
      go_wp2_with (first | (at_builtin; apply list_app und56 info9 rfl (by decide) (by decide) rfl (.tmp 15) (.tmp 22) rfl rfl ho6 (m := 1) (news := strC ctt) rfl rfl hnb.news hnews (by decide) (by omega) hba; intro g cap w7 ho7 hgr htf hat))
      go_roundw
      case rel => exact ⟨k + 1, by omega, by go_num, htf.toBel (hB.alloc _), by rw [hT.out]; exact ho7⟩
      case measure => simp [intOf]; omega
    · go_wp2_with fail
      obtain rfl : k = ls.length := by omega
      rw [List.take_length] at ho
      go_ret
      exact ⟨_, rfl, own_read strC_len ho (by simp) StrE (fun _ _ => rfl), hb1.trans hB⟩
set_option maxRecDepth 100000 in
set_option maxHeartbeats 4000000 in
theorem steps_319 (rb : Nat) (r : Rung) (cs : List Value) (n : ByteArray) (w : World) (hr : RungE w r cs) (hq : Blk w rb cs.toArray 33) (hn : r.contacts.length ≤ 1000) :
    Calls Tryz.prog 319 #[.string n, .pointer (some ⟨rb, 0, none⟩)] w fun e w' => ∃ v, e = .returned v ∧ SlAt StrE 1 w' v (predF r.contacts n) ∧ Bel w w' := by
  have hr0 := Lib.hid hr
  obtain ⟨vc, vo, rfl, hc, ho⟩ := hr
  obtain ⟨ac, cc, rfl, hc1, hc2, _⟩ := hc.ex
  obtain ⟨ao, co, rfl, _⟩ := ho.ex
  clear ho
  generalize hno : r.coils.length = no at *
  have q0 := hq.cell 0 rfl; have q1 := hq.cell 1 rfl; have q2 := hq.cell 2 rfl; have q3 := hq.cell 3 rfl
  obtain ⟨ls, hls⟩ : ∃ ls, ls = numsF (fun c => decide (c.to_ = n)) 0 r.contacts := ⟨_, rfl⟩
  have hgo : predF r.contacts n = ls.map fun i => (r.contacts.getD i dC).from_ := by rw [hls]; rfl
  rw [hgo]
  have hcal := incoming_any r _ n w hr0.out hn
  have hnl := numsF_len (fun c => decide (c.to_ = n)) r.contacts 0
  have hnt := numsF_lt (fun c => decide (c.to_ = n)) r.contacts 0
  rw [← hls] at hcal hnl hnt
  clear hls hgo
  go_enter Tryz.func319, Tryz.ntmps319
  go_wp2_with fail
  refine hcal.mono ?_
  rintro en w1 ⟨v, rfl, ho, hb1⟩
  have hsl : SlAt (Flat natC) 1 w1 v ls := own_read natC_len ho rfl _ (fun _ _ => rfl)
  obtain ⟨a, cap, rfl, hl1, hl2, _⟩ := hsl.ex
  replace hq := hq.bel hb1
  clear q0 q1 q2 q3 ho hr0 hcal
  go_wp2_with fail
  go_loopw [4, 11] (fun lv x wr => ∃ k : Nat, k ≤ ls.length ∧ x = .int .i64 k ∧ Bel w1 wr ∧ wr.ownsRow w1.heap.size 9 1 lv k (((ls.take k).map fun i => (r.contacts.getD i dC).from_).flatMap strC)) (fun _ x _ => ls.length - (intOf x).toNat)
  case atStart => exact ⟨0, Nat.zero_le _, rfl, Bel.refl _, World.ownsRow_nil _ _ _ _⟩
  case round =>
    obtain ⟨k, hk, rfl, hB, ho⟩ := hrel
    by_cases hlt : k < ls.length
    · have hg := List.getElem?_eq_getElem hlt
      obtain ⟨b, off, rfl, c0⟩ := slNat (hsl.bel (Flat.mono _) hB) hg
      have hT := Lib.hid (show ((ls.take (k + 1)).map fun i => (r.contacts.getD i dC).from_).flatMap strC = ((ls.take k).map fun i => (r.contacts.getD i dC).from_).flatMap strC ++ strC (r.contacts.getD ls[k] dC).from_ by
        rw [List.take_succ_eq_append_getElem hlt, List.map_append, List.flatMap_append]; simp)
      have hm := (hnt _ (List.getElem_mem hlt)).2
      rw [Nat.zero_add] at hm
      generalize ls[k] = m at *
      have hg2 := List.getElem?_eq_getElem hm
      have hgd : r.contacts.getD m dC = r.contacts[m] := by simp [hg2]
      rw [hgd] at hT
      obtain ⟨b2, off2, rfl, d0, d1, d2, d3, d4⟩ := (hc.bel (Flat.mono _) (hb1.trans hB)).contact hg2
      generalize r.contacts[m] = c at *
      obtain ⟨ck, sp, na, cf, ctt⟩ := c
      dsimp only at *
      generalize ((ls.take k).map fun i => (r.contacts.getD i dC).from_) = sx at *
      clear hg hg2 hgd hnt
      have q1 := (hq.bel hB).cell 1 rfl
      obtain ⟨A, c, rfl, _⟩ := own_slice ho
      have hnb : Blk (wr.alloc (.cells #[.string cf] 9)) wr.heap.size #[.string cf] 9 := Blk.new wr _ _
      have ho6 := own_bel ho ((Bel.refl wr).alloc (.cells #[.string cf] 9))
      have hnews : ∀ u ∈ strC cf, u.oneCell' = true := by simp [strC, Value.oneCell']
      have hba : w1.heap.size ≤ (wr.alloc (.cells #[.string cf] 9)).heap.size := by have := hB.size; simp; omega
      go_wp2_with (first | (at_builtin; apply list_app und56 info9 rfl (by decide) (by decide) rfl (.tmp 15) (.tmp 22) rfl rfl ho6 (m := 1) (news := strC cf) rfl rfl hnb.news hnews (by decide) (by omega) hba; intro g cap w7 ho7 hgr htf hat))
      go_roundw
      case rel => exact ⟨k + 1, by omega, by go_num, htf.toBel (hB.alloc _), by rw [hT.out]; exact ho7⟩
      case measure => simp [intOf]; omega
    · go_wp2_with fail
      obtain rfl : k = ls.length := by omega
      rw [List.take_length] at ho
      go_ret
      exact ⟨_, rfl, own_read strC_len ho (by simp) StrE (fun _ _ => rfl), hb1.trans hB⟩
theorem index_228 (xs : List ByteArray) (v : Value) (s : ByteArray) (w : World) (hs : SlAt StrE 1 w v xs) :
    Calls Tryz.prog 228 #[v, .string s] w fun e w' => e = .returned (.int .i64 (idxOf (fun x => decide (x = s)) xs)) ∧ Bel w w' := by
  obtain ⟨a, cap, rfl, hl, hcap, _⟩ := hs.ex
  go_enter Tryz.func228, Tryz.ntmps228
  go_wp2_with fail
  go_loopw [8] (fun i wr => ∃ k : Nat, k ≤ xs.length ∧ i = .int .i64 k ∧ (∀ x ∈ xs.take k, decide (x = s) = false) ∧ Bel w wr) (fun i _ => xs.length - (intOf i).toNat)
  case atStart => exact ⟨0, Nat.zero_le _, rfl, by simp, Bel.refl _⟩
  case round =>
    obtain ⟨k, hk, rfl, hno, hb⟩ := hrel
    have Hno := Lib.hid hno; clear hno
    by_cases hlt : k < xs.length
    · obtain ⟨b, off, rfl, c0⟩ := slStr (hs.bel (Flat.mono _) hb) (List.getElem?_eq_getElem hlt)
      by_cases he : xs[k] = s
      · have H := Lib.hid (idxOf_hit (p := fun x => decide (x = s)) hlt Hno.out (by simp [he]))
        rw [he] at c0
        have e0 : (s.toList == s.toList) = true := by simp
        go_wp2_with fail
        go_ret
        exact ⟨by rw [H.out]; rfl, hb⟩
      · have Hn := Lib.hid (all_snoc (p := fun x => decide (x = s)) Hno.out (x := xs[k]) (by simp [he]))
        rw [← take_succ_of hlt] at Hn
        have e0 : (s.toList == xs[k].toList) = false := by rw [strEq]; simp; exact fun h => he h.symm
        generalize xs[k] = x at *
        go_wp2_with fail
        go_roundw
        case rel => exact ⟨k + 1, by omega, by go_num, Hn.out, hb⟩
        case measure => simp [intOf]; omega
    · have H := Lib.hid (idxOf_none (p := fun x => decide (x = s)) (xs := xs) (fun y hy => Hno.out y (by rwa [List.take_of_length_le (by omega)])))
      go_wp2_with fail
      go_ret
      exact ⟨by rw [H.out]; rfl, hb⟩
theorem contains_301 (xs : List ByteArray) (v : Value) (s : ByteArray) (w : World) (hs : SlAt StrE 1 w v xs) :
    Calls Tryz.prog 301 #[v, .string s] w fun e w' => e = .returned (.bool (decide (s ∈ xs))) ∧ Bel w w' := by
  have H := Lib.hid (index_228 xs v s w hs)
  have HA := Lib.hid (idxOf_any (fun x => decide (x = s)) xs)
  have HB : (xs.any fun x => decide (x = s)) = decide (s ∈ xs) := by
    rw [Bool.eq_iff_iff]; simp
  rw [HB] at HA
  obtain ⟨a, cap, rfl, hl, hcap, _⟩ := hs.ex
  go_enter Tryz.func301, Tryz.ntmps301
  go_wp2_with (go_at_call 228; refine H.out.mono ?_; rintro en w1 ⟨rfl, hb1⟩)
  all_goals go_ret
  all_goals exact ⟨by rw [← HA.out]; simp [*], hb1⟩
end Go.Proofs.YtbgilebgdbgddaaGreatDoor
