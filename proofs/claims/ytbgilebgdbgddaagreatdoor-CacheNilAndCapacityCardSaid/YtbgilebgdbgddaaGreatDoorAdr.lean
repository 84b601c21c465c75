/- The walk of addr.Parse. No condition. -/
import Derived.Test.YtbgilebgdbgddaaGreatDoorPut
import Derived.Test.YtbgilebgdbgddaaGreatDoorSrt
set_option linter.unusedVariables false
set_option linter.unusedSimpArgs false
namespace Go.Proofs.YtbgilebgdbgddaaGreatDoor
open Go.RowKit
def lettersL : List ByteArray := [⟨#[73]⟩, ⟨#[81]⟩, ⟨#[77]⟩]
def parseAddrF (s : ByteArray) : Int × Int × Int :=
  if s.size = 0 then (0, 0, 6) else
  if Lib.idxOfS lettersL (s.extract 0 1) < 0 then (0, 0, 6) else
  if numB (s.extract 1 s.size) = true then (if 256 ≤ decV 0 (s.extract 1 s.size).data.toList then (0, 0, 3) else (Lib.idxOfS lettersL (s.extract 0 1), (decV 0 (s.extract 1 s.size).data.toList : Int), 0)) else (0, 0, 6)

theorem letters_idx (x : ByteArray) (w : World) (n : Nat) (hE : Env (w.drewN n)) :
    Calls Tryz.prog 228 #[.slice (some ⟨2, 0, none⟩) 3 3, .string x] (w.drewN n) fun e w' => e = .returned (.int .i64 (Lib.idxOfS lettersL x)) ∧ w' = w.drewN n := by
  have h := Tryz.slices_Index_string 2 0 3 3 lettersL x (w.drewN n) (by decide) (by decide) (fun j hj => by
    have : j < 3 := hj
    have hl := hE.letter
    rcases j with _ | _ | _ | j
    · exact hl 0 _ rfl
    · exact hl 1 _ rfl
    · exact hl 2 _ rfl
    · omega)
  exact h
theorem Env.drewN {w : World} (h : Env w) (n : Nat) : Env (w.drewN n) := h.bel ((Bel.refl w).drewN n)

def AdrPost (r : Int × Int × Int) (w : World) (e : Ending) (w' : World) : Prop := e = .returned (.tuple #[.agg #[.int .i64 r.1, .int .i64 r.2.1], .int .i64 r.2.2]) ∧ Bel w w'
theorem extract_size (s : ByteArray) (h : 0 < s.size) : (s.extract 1 s.size).size = s.size - 1 := by
  simp [ByteArray.size_extract]
set_option maxRecDepth 100000 in
set_option maxHeartbeats 1000000 in
theorem parseAddr_any (s : ByteArray) (w : World) (hs : s.size ≤ 140737488355328) (hE : Env w) :
    Calls Tryz.prog 244 #[.string s] w (AdrPost (parseAddrF s) w) := by
  by_cases hz : s.size = 0
  · have HF := Lib.hid (show parseAddrF s = (0, 0, 6) by simp [parseAddrF, hz])
    have hq := strNil hz
    subst hq
    go_enter Tryz.func244, Tryz.ntmps244
    go_wp2_with fail
    exact bodyPost_ret (v := .tuple #[.agg #[.int .i64 0, .int .i64 0], .int .i64 6]) (by simp [results, Tryz.results244, go_sem]) rfl (by unfold AdrPost; rw [HF.out]; exact ⟨rfl, by repeat (first | exact Bel.refl _ | refine Bel.drewN ?_ _ | refine Bel.alloc ?_ _ | refine Bel.setCell ?_ (by simp) _ | (refine Bel.trans ?_ (by assumption)))⟩)
  obtain ⟨e0, e1⟩ := strNe hz
  have hz' : 0 < s.size := by omega
  generalize hd : s.extract 1 s.size = d
  generalize hl : s.extract 0 1 = l
  generalize hi : Lib.idxOfS lettersL l = k
  have HF := Lib.hid (show parseAddrF s = if k < 0 then (0, 0, 6) else if numB d = true then (if 256 ≤ decV 0 d.data.toList then (0, 0, 3) else (k, (decV 0 d.data.toList : Int), 0)) else (0, 0, 6) by simp [parseAddrF, hz, hd, hl, hi])
  have hds : d.size ≤ 140737488355328 := by rw [← hd, extract_size s hz']; omega
  have Hd := Lib.hid hd
  have Hl := Lib.hid hl
  have Hi := Lib.hid hi
  clear hz hi
  by_cases hk : k < 0
  · go_enter Tryz.func244, Tryz.ntmps244
    go_wp2_with fail
    go_quiet ((go_at_call 228; exact Calls.quiet_of_same (letters_idx l _ _ (by exact (hE.bel ((Bel.refl w).alloc _)).drewN _))))
    rw [Hi.out]
    go_wp2_with fail
    exact bodyPost_ret (v := .tuple #[.agg #[.int .i64 0, .int .i64 0], .int .i64 6]) (by simp [results, Tryz.results244, go_sem, *]) rfl (by unfold AdrPost; rw [HF.out, if_pos hk]; exact ⟨rfl, by repeat (first | exact Bel.refl _ | refine Bel.drewN ?_ _ | refine Bel.alloc ?_ _ | refine Bel.setCell ?_ (by simp) _ | (refine Bel.trans ?_ (by assumption)))⟩)
  have hk0 : 0 ≤ k := by omega
  by_cases hdz : d.size = 0
  · replace HF := Lib.hid (HF.out.trans (show _ = ((0, 0, 6) : Int × Int × Int) by rw [if_neg hk]; simp [numB, hdz]))
    have hq := strNil hdz
    subst hq
    clear hk
    go_enter Tryz.func244, Tryz.ntmps244
    go_wp2_with fail
    go_quiet ((go_at_call 228; exact Calls.quiet_of_same (letters_idx l _ _ (by exact (hE.bel ((Bel.refl w).alloc _)).drewN _))))
    rw [Hi.out]
    go_wp2_with fail
    exact bodyPost_ret (v := .tuple #[.agg #[.int .i64 0, .int .i64 0], .int .i64 6]) (by simp [results, Tryz.results244, go_sem, *]) rfl (by unfold AdrPost; rw [HF.out]; exact ⟨rfl, by repeat (first | exact Bel.refl _ | refine Bel.drewN ?_ _ | refine Bel.alloc ?_ _ | refine Bel.setCell ?_ (by simp) _ | (refine Bel.trans ?_ (by assumption)))⟩)
  obtain ⟨d0, d1⟩ := strNe hdz
  have hdz' : 0 < d.size := by omega
  have hp : (0 : Int) < (d.size : Int) := by omega
  by_cases hdg : digB d = true
  · have HD := Lib.hid hdg
    by_cases hc : 1 < d.size ∧ (d[0]'hdz').toNat = 48
    · obtain ⟨hc1, hc2⟩ := hc
      replace HF := Lib.hid (HF.out.trans (show _ = ((0, 0, 6) : Int × Int × Int) by rw [if_neg hk]; simp [numB, hdz, hdg, hc1, get0 d hdz', hc2]))
      have hc1' : (1 : Int) < (d.size : Int) := by omega
      have hc2' : (((d[0]'hdz').toNat : Int) == 48) = true := by simp [hc2]
      clear hdg hdz hc2 hk
      go_enter Tryz.func244, Tryz.ntmps244
      go_wp2_with fail
      go_quiet ((go_at_call 228; exact Calls.quiet_of_same (letters_idx l _ _ (by exact (hE.bel ((Bel.refl w).alloc _)).drewN _))))
      rw [Hi.out]
      go_wp2_with (go_at_call 242; refine (trim_dig d _ (by omega)).mono ?_; rintro e w1 ⟨t, rfl, ht, hb1⟩; have q1 := ((Blk.new w #[.int .i64 0, .int .i64 0] 52).drewN _).bel hb1; have q1a := q1.cell 0 rfl; have q1b := q1.cell 1 rfl; have q1c := q1.frozen 0; have q1d := q1.frozen 1; have ht1 : t.toList = [] := ht.2 HD.out; have ht2 : t.toList.isEmpty = true := by rw [ht1]; rfl)
      exact bodyPost_ret (v := .tuple #[.agg #[.int .i64 0, .int .i64 0], .int .i64 6]) (by simp [results, Tryz.results244, go_sem, *]) rfl (by unfold AdrPost; rw [HF.out]; exact ⟨rfl, by repeat (first | exact Bel.refl _ | refine Bel.drewN ?_ _ | refine Bel.alloc ?_ _ | refine Bel.setCell ?_ (by simp) _ | (refine Bel.trans ?_ (by assumption)))⟩)
    · have hn : numB d = true := by
        have h2 : (decide (1 < d.size) && (d.get! 0).toNat == 48) = false := by
          rw [Bool.eq_false_iff]
          intro h
          simp only [Bool.and_eq_true, decide_eq_true_eq, beq_iff_eq, get0 d hdz'] at h
          exact hc h
        simp [numB, hdz, hdg, h2]
      replace HF := Lib.hid (HF.out.trans (show _ = if 256 ≤ decV 0 d.data.toList then ((0, 0, 3) : Int × Int × Int) else (k, (decV 0 d.data.toList : Int), 0) by rw [if_neg hk, if_pos hn]))
      have Hz := Lib.hid hdz
      have hc2' : 1 < d.size → (((d[0]'hdz').toNat : Int) == 48) = false := by
        intro h
        simp
        intro h'
        exact hc ⟨h, by omega⟩
      clear hdg hdz hc hn hk
      by_cases hv : 256 ≤ decV 0 d.data.toList
      · have hvi : (256 : Int) ≤ (decV 0 d.data.toList : Int) := by omega
        by_cases h1s : 1 < d.size
        all_goals
          (try have hc3 := hc2' h1s)
          clear hc2'
          go_enter Tryz.func244, Tryz.ntmps244
          go_wp2_with fail
          go_quiet ((go_at_call 228; exact Calls.quiet_of_same (letters_idx l _ _ (by exact (hE.bel ((Bel.refl w).alloc _)).drewN _))))
          rw [Hi.out]
          go_wp2_with (first | (go_at_call 242; refine (trim_dig d _ (by omega)).mono ?_; rintro e w1 ⟨t, rfl, ht, hb1⟩; have q1 := ((Blk.new w #[.int .i64 0, .int .i64 0] 52).drewN _).bel hb1; have q1a := q1.cell 0 rfl; have q1b := q1.cell 1 rfl; have q1c := q1.frozen 0; have q1d := q1.frozen 1; have ht1 : t.toList = [] := ht.2 HD.out; have ht2 : t.toList.isEmpty = true := by rw [ht1]; rfl) | (go_at_call 243; refine (atoi_any d _ hds Hz.out HD.out ((hE.bel (((Bel.refl w).alloc _).drewN _)).bel hb1)).mono ?_; rintro e w2 ⟨⟨v, er, rfl, hor⟩, hb2⟩; have q2 := q1.bel hb2; have q2a := q2.cell 0 rfl; have q2b := q2.cell 1 rfl; have q2c := q2.frozen 0; have q2d := q2.frozen 1; rcases hor with ⟨rfl, rfl, hlt⟩ | ⟨⟨t', p', rfl⟩, hge⟩))
          all_goals exact bodyPost_ret (v := .tuple #[.agg #[.int .i64 0, .int .i64 0], .int .i64 3]) (by simp [results, Tryz.results244, go_sem, *]) rfl (by unfold AdrPost; rw [HF.out, if_pos hv]; exact ⟨rfl, by repeat (first | exact Bel.refl _ | refine Bel.drewN ?_ _ | refine Bel.alloc ?_ _ | refine Bel.setCell ?_ (by simp) _ | (refine Bel.trans ?_ (by assumption)))⟩)
      · have hvi : ¬ (256 : Int) ≤ (decV 0 d.data.toList : Int) := by omega
        by_cases h1s : 1 < d.size
        all_goals
          (try have hc3 := hc2' h1s)
          clear hc2'
          go_enter Tryz.func244, Tryz.ntmps244
          go_wp2_with fail
          go_quiet ((go_at_call 228; exact Calls.quiet_of_same (letters_idx l _ _ (by exact (hE.bel ((Bel.refl w).alloc _)).drewN _))))
          rw [Hi.out]
          go_wp2_with (first | (go_at_call 242; refine (trim_dig d _ (by omega)).mono ?_; rintro e w1 ⟨t, rfl, ht, hb1⟩; have q1 := ((Blk.new w #[.int .i64 0, .int .i64 0] 52).drewN _).bel hb1; have q1a := q1.cell 0 rfl; have q1b := q1.cell 1 rfl; have q1c := q1.frozen 0; have q1d := q1.frozen 1; have ht1 : t.toList = [] := ht.2 HD.out; have ht2 : t.toList.isEmpty = true := by rw [ht1]; rfl) | (go_at_call 243; refine (atoi_small d _ hds Hz.out HD.out (by omega)).mono ?_; rintro e w2 ⟨rfl, hb2⟩; have q2 := q1.bel hb2; have q2a := q2.cell 0 rfl; have q2b := q2.cell 1 rfl; have q2c := q2.frozen 0; have q2d := q2.frozen 1))
          all_goals exact bodyPost_ret (v := .tuple #[.agg #[.int .i64 k, .int .i64 (decV 0 d.data.toList : Int)], .int .i64 0]) (by simp [results, Tryz.results244, go_sem, *]) rfl (by unfold AdrPost; rw [HF.out, if_neg hv]; exact ⟨rfl, by repeat (first | exact Bel.refl _ | refine Bel.drewN ?_ _ | refine Bel.alloc ?_ _ | refine Bel.setCell ?_ (by simp) _ | (refine Bel.trans ?_ (by assumption)))⟩)
  · replace HF := Lib.hid (HF.out.trans (show _ = ((0, 0, 6) : Int × Int × Int) by rw [if_neg hk]; simp [numB, hdg]))
    have HD := Lib.hid hdg
    clear hdg hdz hk
    go_enter Tryz.func244, Tryz.ntmps244
    go_wp2_with fail
    go_quiet ((go_at_call 228; exact Calls.quiet_of_same (letters_idx l _ _ (by exact (hE.bel ((Bel.refl w).alloc _)).drewN _))))
    rw [Hi.out]
    go_wp2_with (go_at_call 242; refine (trim_dig d _ (by omega)).mono ?_; rintro e w1 ⟨t, rfl, ht, hb1⟩; have q1 := ((Blk.new w #[.int .i64 0, .int .i64 0] 52).drewN _).bel hb1; have q1a := q1.cell 0 rfl; have q1b := q1.cell 1 rfl; have q1c := q1.frozen 0; have q1d := q1.frozen 1; have ht1 : ¬ t.toList = [] := fun h => HD.out (ht.1 h); have ht2 : t.toList.isEmpty = false := by simpa using ht1)
    exact bodyPost_ret (v := .tuple #[.agg #[.int .i64 0, .int .i64 0], .int .i64 6]) (by simp [results, Tryz.results244, go_sem, *]) rfl (by unfold AdrPost; rw [HF.out]; exact ⟨rfl, by repeat (first | exact Bel.refl _ | refine Bel.drewN ?_ _ | refine Bel.alloc ?_ _ | refine Bel.setCell ?_ (by simp) _ | (refine Bel.trans ?_ (by assumption)))⟩)
end Go.Proofs.YtbgilebgdbgddaaGreatDoor
/- The parser in memory; its small methods -/
namespace Go.Proofs.YtbgilebgdbgddaaGreatDoor
open Go.RowKit
structure PS where
  i : Int
  q : Int
  m : Int
  rungs : List Rung
  sized : Bool
  lines : List Int
  jumps : List Int
/-- A rung whose rows are owned. -/
def RungO (B : Nat) (w : World) (r : Rung) (c4 : List Value) : Prop := ∃ vc vo, c4 = [.string r.label, vc, vo, .string r.jump] ∧ w.ownsRow B 108 5 vc r.contacts.length (r.contacts.flatMap contactC) ∧ w.ownsRow B 131 3 vo r.coils.length (r.coils.flatMap coilC)
theorem RungO.tfr {T : List TypeId} {B B0 : Nat} {w w' : World} {r : Rung} {c : List Value} (h : RungO B w r c) (hf : TFr T B0 w w') (h1 : 108 ∉ T) (h2 : 131 ∉ T) : RungO B w' r c := by
  obtain ⟨vc, vo, e, hc, ho⟩ := h
  exact ⟨vc, vo, e, own_tfr hc hf h1, own_tfr ho hf h2⟩
theorem RungO.bel {B : Nat} {w w' : World} {r : Rung} {c : List Value} (h : RungO B w r c) (hb : Bel w w') : RungO B w' r c := h.tfr (TFr.of_bel [] 0 hb) (by simp) (by simp)
theorem RungO.base {B B' : Nat} {w : World} {r : Rung} {c : List Value} (h : RungO B w r c) (hB : B' ≤ B) : RungO B' w r c := by
  obtain ⟨vc, vo, e, hc, ho⟩ := h
  exact ⟨vc, vo, e, own_base hc hB, own_base ho hB⟩
theorem RungO.read {B : Nat} {w : World} {r : Rung} {c : List Value} (h : RungO B w r c) : RungE w r c := by
  obtain ⟨vc, vo, e, hc, ho⟩ := h
  exact ⟨vc, vo, e, own_read (f := contactC) (fun _ => rfl) hc rfl _ (fun _ _ => rfl), own_read (f := coilC) (fun _ => rfl) ho rfl _ (fun _ _ => rfl)⟩
theorem RungO.len {B : Nat} {w : World} {r : Rung} {c : List Value} (h : RungO B w r c) : c.length = 4 := by
  obtain ⟨vc, vo, rfl, _⟩ := h; rfl
theorem rung226 (Bp g n c : Nat) (v0 v1 v2 v4 v5 v6 : Value) (w : World) (hq : Blk w Bp #[v0, v1, v2, .slice (some ⟨g, 0, none⟩) n c, v4, v5, v6] 275) (hn : 0 < n) (h64 : n ≤ 64) :
    Calls Tryz.prog 226 #[.pointer (some ⟨Bp, 0, none⟩)] w fun e w' => e = .returned (.pointer (some ⟨g, (n - 1) * 4, none⟩)) ∧ Bel w w' := by
  have k3 := hq.cell 3 rfl
  have n0 : IntKind.i64.wrap ((n : Int) - 1) = (n : Int) - 1 := by simp [IntKind.wrap, IntKind.bits, IntKind.signed]; omega
  have n1 : (0 : Int) ≤ (n : Int) - 1 := by omega
  have n2 : (n : Int) - 1 < (n : Int) := by omega
  have n3 : ((n : Int) - 1).toNat = n - 1 := by omega
  clear hq
  go_enter Tryz.func226, Tryz.ntmps226
  go_wp2_with fail
  go_region
  all_goals go_wp2_with fail
  all_goals go_ret
  all_goals exact ⟨rfl, (Bel.refl _).drew⟩
theorem sizes245 (Bp : Nat) (i q m : Int) (v3 v4 v5 v6 : Value) (w : World) (hq : Blk w Bp #[.int .i64 i, .int .i64 q, .int .i64 m, v3, v4, v5, v6] 275) :
    Calls Tryz.prog 245 #[.pointer (some ⟨Bp, 0, none⟩)] w fun e w' => e = .returned (.agg #[.int .i64 i, .int .i64 q, .int .i64 m, .int .i64 0]) ∧ Bel w w' := by
  have k0 := fun o => (hq.alloc o).cell 0 rfl; have k1 := fun o => (hq.alloc o).cell 1 rfl; have k2 := fun o => (hq.alloc o).cell 2 rfl
  have hlt := hq.lt
  clear hq
  go_enter Tryz.func245, Tryz.ntmps245
  go_wp2_with fail
  go_region
  all_goals go_wp2_with fail
  have z := Blk.new w #[.int .i64 i, .int .i64 q, .int .i64 m, .int .i64 0] 41
  have y0 := z.cell 0 rfl; have y1 := z.cell 1 rfl; have y2 := z.cell 2 rfl; have y3 := z.cell 3 rfl
  exact bodyPost_ret (v := .agg #[.int .i64 i, .int .i64 q, .int .i64 m, .int .i64 0]) (by simp [results, Tryz.results245, go_sem, y0, y1, y2, y3]) rfl ⟨rfl, ((Bel.refl w).alloc _).drew⟩
def addressF (i q m : Int) (s : ByteArray) : Int × Int × Int := if (parseAddrF s).2.2 = 0 then ((parseAddrF s).1, (parseAddrF s).2.1, checkAddrF ⟨i, q, m, 0⟩ (parseAddrF s).1 (parseAddrF s).2.1) else parseAddrF s
set_option maxHeartbeats 4000000 in
theorem address227 (Bp : Nat) (i q m : Int) (v3 v4 v5 v6 : Value) (s : ByteArray) (w : World) (hs : s.size ≤ 140737488355328) (henv : Env w) (hq : Blk w Bp #[.int .i64 i, .int .i64 q, .int .i64 m, v3, v4, v5, v6] 275) :
    Calls Tryz.prog 227 #[.pointer (some ⟨Bp, 0, none⟩), .string s] w fun e w' => e = .returned (.tuple #[.agg #[.int .i64 (addressF i q m s).1, .int .i64 (addressF i q m s).2.1], .int .i64 (addressF i q m s).2.2]) ∧ Bel w w' := by
  have hpa := fun W (hb : Bel w W) => parseAddr_any s W hs (henv.bel hb)
  unfold AdrPost at hpa
  have hA := Lib.hid (show addressF i q m s = if (parseAddrF s).2.2 = 0 then ((parseAddrF s).1, (parseAddrF s).2.1, checkAddrF ⟨i, q, m, 0⟩ (parseAddrF s).1 (parseAddrF s).2.1) else parseAddrF s from rfl)
  go_enter Tryz.func227, Tryz.ntmps227
  go_wp2_with fail
  have hB : Bel w (w.alloc (.cells #[.int .i64 0, .int .i64 0] 52)) := (Bel.refl w).alloc _
  have q4 : Blk (w.alloc (.cells #[.int .i64 0, .int .i64 0] 52)) w.heap.size #[.int .i64 0, .int .i64 0] 52 := Blk.new w _ _
  generalize (w.alloc (.cells #[.int .i64 0, .int .i64 0] 52)) = W at *
  refine (hpa W hB).mono ?_
  rintro en w1 ⟨rfl, hb1⟩
  replace hB := hB.trans hb1
  replace q4 := q4.bel hb1
  replace hq := hq.bel hB
  clear hpa
  generalize parseAddrF s = R at *
  obtain ⟨sp, n, er⟩ := R
  dsimp only at *
  by_cases he : er = 0
  · subst he
    have hA2 := Lib.hid (show addressF i q m s = (sp, n, checkAddrF ⟨i, q, m, 0⟩ sp n) by rw [hA.out, if_pos rfl])
    clear hA
    have q6 : Blk (w1.alloc (.cells #[.int .i64 sp, .int .i64 n] 52)) w1.heap.size #[.int .i64 sp, .int .i64 n] 52 := Blk.new w1 _ _
    have hb2 : Bel w1 (w1.alloc (.cells #[.int .i64 sp, .int .i64 n] 52)) := (Bel.refl w1).alloc _
    go_wp2_with fail
    generalize (w1.alloc (.cells #[.int .i64 sp, .int .i64 n] 52)) = W2 at *
    have hq2 := hq.bel hb2
    have q42 := q4.bel hb2
    have hb12 := hB.trans hb2
    have c0 := q6.cell 0 rfl; have c1 := q6.cell 1 rfl
    have hS1 : (W2.cell? ⟨w1.heap.size, 0, none⟩ = some (.int .i64 sp) ∧ W2.cell? ⟨w1.heap.size, 1, none⟩ = some (.int .i64 n)) ∧ Bel W2 W2 := by
      refine ⟨?_, Bel.refl _⟩
      repeat' apply And.intro
      all_goals assumption
    go_region_held3 (fun w' => (w'.cell? ⟨w1.heap.size, 0, none⟩ = some (.int .i64 sp) ∧ w'.cell? ⟨w1.heap.size, 1, none⟩ = some (.int .i64 n)) ∧ Bel W2 w') (exact keep2 hS1 (by (repeat (first | exact Bel.refl _ | exact And.right (by assumption) | refine Bel.trans ?_ (by assumption) | refine Bel.drew ?_ | refine Bel.alloc ?_ _ | refine Bel.setCell ?_ (by first | exact Nat.le_refl _ | (simp; done) | (simp; omega) | omega) _)))) (first | (go_at_call 245; refine (sizes245 Bp i q m v3 v4 v5 v6 _ (hq2.bel (And.right (by assumption)))).mono ?_; rintro en w3 ⟨rfl, hb3⟩) | (go_at_call 177; refine (checkAddr_any i q m 0 sp n _).mono ?_; rintro en w4 ⟨rfl, hb4⟩))
    have hb24 : Bel w w4 := hb12.trans (((Bel.refl W2).drew.trans hb3).trans hb4)
    have q44 := q42.bel (((Bel.refl W2).drew.trans hb3).trans hb4)
    have q64 := q6.bel (((Bel.refl W2).drew.trans hb3).trans hb4)
    have d0 := q64.cell 0 rfl; have d1 := q64.cell 1 rfl
    have l0 := q44.cell 0 rfl; have l1 := q44.cell 1 rfl
    have m0 := q44.frozen 0; have m1 := q44.frozen 1
    clear c0 c1 hS1
    obtain ⟨CE', hCE⟩ : ∃ CE', CE' = checkAddrF ⟨i, q, m, 0⟩ sp n := ⟨_, rfl⟩
    rw [← hCE]
    go_wp2_with fail
    have z := (q44.set 0 (.int .i64 sp)).set 1 (.int .i64 n)
    have y0 := z.cell 0 rfl; have y1 := z.cell 1 rfl
    exact bodyPost_ret (v := .tuple #[.agg #[.int .i64 sp, .int .i64 n], .int .i64 CE']) (by simp [results, Tryz.results227, go_sem, y0, y1]) rfl ⟨by rw [hA2.out, hCE], (hb24.setCell (by exact Nat.le_refl _) _).setCell (by exact Nat.le_refl _) _⟩
  · have hA2 := Lib.hid (show addressF i q m s = (sp, n, er) by rw [hA.out, if_neg he])
    have hz : (er == 0) = false := by simpa using he
    clear hA he
    have q6 : Blk (w1.alloc (.cells #[.int .i64 sp, .int .i64 n] 52)) w1.heap.size #[.int .i64 sp, .int .i64 n] 52 := Blk.new w1 _ _
    have q41 := q4.alloc (.cells #[.int .i64 sp, .int .i64 n] 52)
    have l0 := q41.cell 0 rfl; have l1 := q41.cell 1 rfl
    have m0 := q41.frozen 0; have m1 := q41.frozen 1
    have hbz : Bel w (w1.alloc (.cells #[.int .i64 sp, .int .i64 n] 52)) := hB.alloc _
    go_wp2_with fail
    have z := (q41.set 0 (.int .i64 sp)).set 1 (.int .i64 n)
    have y0 := z.cell 0 rfl; have y1 := z.cell 1 rfl
    exact bodyPost_ret (v := .tuple #[.agg #[.int .i64 sp, .int .i64 n], .int .i64 er]) (by simp [results, Tryz.results227, go_sem, y0, y1]) rfl ⟨by rw [hA2.out], (hbz.setCell (by exact Nat.le_refl _) _).setCell (by exact Nat.le_refl _) _⟩
end Go.Proofs.YtbgilebgdbgddaaGreatDoor
