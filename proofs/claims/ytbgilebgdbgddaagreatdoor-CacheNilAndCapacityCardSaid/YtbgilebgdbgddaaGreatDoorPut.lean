/- codegen.put -/
import Derived.Test.YtbgilebgdbgddaaGreatDoorBas
import Derived.OwnWalk
import Derived.Test.YtbgilebgdbgddaaGreatDoorLex
set_option linter.unusedVariables false
set_option linter.unusedSimpArgs false
namespace Go.Proofs.YtbgilebgdbgddaaGreatDoor
open Go.RowKit
set_option maxHeartbeats 1000000 in
theorem put_any (Bm base n : Nat) (c0 c1 c2 c3 c4 v : Value) (xs : List Value) (x : Ins) (w : World) (hb : Blk w Bm #[c0, c1, c2, c3, c4, v] 364) (ho : w.ownsRow base 54 4 v n xs) (hB : base ≤ w.heap.size) (hB1 : base ≤ Bm) (hn : n < 1000000000) :
    Calls Tryz.prog 280 #[.pointer (some ⟨Bm, 0, none⟩), .agg #[.int .i64 x.op, .int .i64 x.space, .int .i64 x.na, .int .i64 x.n]] w fun e w' => e = .returned (.tuple #[]) ∧ ∃ v', Blk w' Bm #[c0, c1, c2, c3, c4, v'] 364 ∧ w'.ownsRow base 54 4 v' (n + 1) (xs ++ insC x) ∧ TFr [364, 54] base w w' := by
  obtain ⟨op, sp, na, nn⟩ := x
  obtain ⟨A, c, rfl, _⟩ := own_slice ho
  obtain ⟨i0, hi, hz0, hz1, hz2⟩ := info_parts info54
  have q5 : ∀ o, (w.alloc o).drew.cell? ⟨Bm, 5, none⟩ = some (.slice A n c) := fun o => ((hb.alloc o).drewN 1).cell 5 rfl
  have q6 : ∀ o o1, ((w.alloc o).alloc o1).drew.cell? ⟨Bm, 5, none⟩ = some (.slice A n c) := fun o o1 => (((hb.alloc o).alloc o1).drewN 1).cell 5 rfl
  go_enter Tryz.func280, Tryz.ntmps280
  go_wp2_with fail
  obtain ⟨W, hW⟩ : ∃ W, W = ((w.alloc (Obj.cells #[.int .i64 op, .int .i64 sp, .int .i64 na, .int .i64 nn] 54)).alloc (Obj.cells #[.int .i64 op, .int .i64 sp, .int .i64 na, .int .i64 nn] 54)).drew := ⟨_, rfl⟩
  have hw : Bel w W := by rw [hW]; exact (((Bel.refl w).alloc _).alloc _).drew
  have hown := own_bel ho hw
  have hq := hb.bel hw
  have hnb : Blk W (w.heap.size + 1) #[.int .i64 op, .int .i64 sp, .int .i64 na, .int .i64 nn] 54 := by rw [hW]; exact (Blk.new1 w _ _ _).drewN 1
  have hnews : ∀ u ∈ insC ⟨op, sp, na, nn⟩, u.oneCell' = true := by simp [insC, Value.oneCell']
  have hba : base ≤ W.heap.size := Nat.le_trans hB hw.size
  go_region_law (first | (rw [← hW]; apply step_app und42 info54 rfl (by decide) (by decide) rfl (.tmp 8) (.tmp 10) rfl rfl hown (m := 1) (news := insC ⟨op, sp, na, nn⟩) rfl rfl hnb.news hnews (by decide) (by omega) hba; intro g cap w1 hown hgr htf hat; have q1 := htf.blk hq (.inr (by decide)); have q2 := q1.cell 5 rfl; have q3 := q1.frozen 5))
  all_goals
    (go_wp2_with fail
     go_end0
     exact ⟨rfl, _, q1.set 5 _, own_set hown q1 (by decide) _ _, (((TFr.of_bel [364, 54] base hw).trans (htf.wider (by simp))).trans (TFr.setC q1 (by simp) hB1 5 _))⟩)
end Go.Proofs.YtbgilebgdbgddaaGreatDoor
/- -/
namespace Go.Proofs.YtbgilebgdbgddaaGreatDoor
open Go.RowKit
def seesB (k : Int) : Bool := k == 2 || k == 3
theorem SlAt.contact {w : World} {a : Option Addr} {n cap : Nat} {xs : List Contact} (h : SlAt ContactE 5 w (.slice a n cap) xs) {k : Nat} {c : Contact} (hk : xs[k]? = some c) :
    ∃ b off, a = some ⟨b, off, none⟩ ∧ w.cell? ⟨b, off + k * 5, none⟩ = some (.int .i64 c.kind) ∧ w.cell? ⟨b, off + k * 5 + 1, none⟩ = some (.int .i64 c.space) ∧ w.cell? ⟨b, off + k * 5 + 2, none⟩ = some (.int .i64 c.n) ∧ w.cell? ⟨b, off + k * 5 + 3, none⟩ = some (.string c.from_) ∧ w.cell? ⟨b, off + k * 5 + 4, none⟩ = some (.string c.to_) := by
  obtain ⟨a', cap', hv, _, _, hx⟩ := h.ex
  obtain ⟨b, off, cs, ha, he, _, hcs⟩ := hx k c hk
  obtain rfl := he
  injection hv with h1 h2 h3
  exact ⟨b, off, h1.trans ha, hcs 0 _ rfl, hcs 1 _ rfl, hcs 2 _ rfl, hcs 3 _ rfl, hcs 4 _ rfl⟩
theorem sees_any (k s n : Int) (f t : ByteArray) (w : World) :
    Calls Tryz.prog 233 #[.agg #[.int .i64 k, .int .i64 s, .int .i64 n, .string f, .string t]] w fun e w' => e = .returned (.bool (seesB k)) ∧ Bel w w' := by
  go_enter Tryz.func233, Tryz.ntmps233
  go_wp2
  all_goals go_ret
  all_goals exact ⟨by simp [seesB, *], (Bel.refl _).alloc _⟩
theorem edge_count (r : Rung) (cs : List Value) (w : World) (h : RungE w r cs) :
    Calls Tryz.prog 210 #[.agg cs.toArray] w fun e w' => e = .returned (.int .i64 (r.contacts.countP fun c => seesB c.kind)) ∧ Bel w w' := by
  obtain ⟨vc, vo, rfl, hc, ho⟩ := h
  obtain ⟨a, cap, rfl, hl, hcap, _⟩ := hc.ex
  go_enter Tryz.func210, Tryz.ntmps210
  go_wp2
  go_loopw [3, 9] (fun n i wr => ∃ k : Nat, k ≤ r.contacts.length ∧ i = .int .i64 k ∧ n = .int .i64 ((r.contacts.take k).countP fun c => seesB c.kind) ∧ Bel w wr) (fun _ i _ => r.contacts.length - (intOf i).toNat)
  case atStart => exact ⟨0, Nat.zero_le _, rfl, rfl, (Bel.refl _).alloc _⟩
  case round =>
    obtain ⟨k, hk, rfl, rfl, hb⟩ := hrel
    by_cases hlt : k < r.contacts.length
    · have hg := List.getElem?_eq_getElem hlt
      obtain ⟨b, off, rfl, c0, c1, c2, c3, c4⟩ := (hc.bel (Flat.mono _) hb).contact hg
      have hcn : ((r.contacts.take k).countP fun c => seesB c.kind) ≤ k := by
        have := List.countP_le_length (p := fun c : Contact => seesB c.kind) (l := r.contacts.take k)
        simp at this; omega
      have HS : Hid ((r.contacts.take (k + 1)).countP (fun c => seesB c.kind) = (r.contacts.take k).countP (fun c => seesB c.kind) + if seesB r.contacts[k].kind then 1 else 0) := by
        show _ = _
        rw [List.take_succ_eq_append_getElem hlt, List.countP_append]; simp [List.countP_cons]
      generalize r.contacts[k] = c at *
      obtain ⟨ck, cs, cn, cf, ct⟩ := c
      dsimp only at *
      clear hg
      generalize hsk : seesB ck = q at *
      have Hq := Lib.hid hsk; clear hsk
      cases q
      all_goals
        go_wp2_with (go_at_call 233; refine (sees_any ck cs cn cf ct _).mono ?_; rintro e w1 ⟨rfl, hb1⟩; rw [Hq.out])
        go_roundw
        case rel => exact ⟨k + 1, by omega, by go_num, by rw [HS.out]; simp, ((hb.alloc _).trans hb1)⟩
        case measure => simp [intOf]; omega
    · go_wp2_with fail
      go_ret
      refine ⟨?_, hb⟩
      rw [List.take_of_length_le (by omega)]; rfl
end Go.Proofs.YtbgilebgdbgddaaGreatDoor
/- Walks: lex.Number, addr.within, addr.CheckSize, addr.Width, addr.CheckAddr, addr.Parse. -/
namespace Go.Proofs.YtbgilebgdbgddaaGreatDoor
open Go.RowKit

def numberF (s : ByteArray) (most : Int) : Int × Int :=
  if numB s = true then (if most < (decV 0 s.data.toList : Int) then (0, 3) else (decV 0 s.data.toList, 0)) else (0, 6)

theorem get0 (s : ByteArray) (h : 0 < s.size) : s.get! 0 = s[0] := by
  simp [ByteArray.get!, getElem!_pos, h]; rfl

set_option maxHeartbeats 1000000 in
theorem number_any (s : ByteArray) (most : Int) (w : World) (hs : s.size ≤ 140737488355328) (h0 : 0 ≤ most) (h1 : most ≤ 1000000) (hE : Env w) :
    Calls Tryz.prog 224 #[.string s, .int .i64 most] w fun e w' => e = .returned (.tuple #[.int .i64 (numberF s most).1, .int .i64 (numberF s most).2]) ∧ Bel w w' := by
  by_cases hz : s.size = 0
  · have HF := Lib.hid (show numberF s most = (0, 6) by simp [numberF, numB, hz])
    have hq := strNil hz
    subst hq
    go_enter Tryz.func224, Tryz.ntmps224
    go_wp2_with fail
    go_ret2
    exact ⟨by rw [HF.out]; rfl, Bel.refl _⟩
  obtain ⟨e0, e1⟩ := strNe hz
  have hz' : 0 < s.size := by omega
  by_cases hd : digB s = true
  · by_cases hc : 1 < s.size ∧ (s[0]'hz').toNat = 48
    · obtain ⟨hc1, hc2⟩ := hc
      have HF := Lib.hid (show numberF s most = (0, 6) by simp [numberF, numB, hz, hd, hc1, get0 s hz', hc2])
      have HD := Lib.hid hd
      have hp : (0 : Int) < (s.size : Int) := by omega
      have hc1' : (1 : Int) < (s.size : Int) := by omega
      have hc2' : (((s[0]'hz').toNat : Int) == 48) = true := by simp [hc2]
      clear hd hz hc2
      go_enter Tryz.func224, Tryz.ntmps224
      go_wp2_with (go_at_call 242; refine (trim_dig s _ (by omega)).mono ?_; rintro e w1 ⟨t, rfl, ht, hb1⟩; have ht1 : t.toList = [] := ht.2 HD.out; have ht2 : t.toList.isEmpty = true := by rw [ht1]; rfl)
      go_ret2
      exact ⟨by rw [HF.out]; rfl, hb1⟩
    · have hn : numB s = true := by
        have h2 : (decide (1 < s.size) && (s.get! 0).toNat == 48) = false := by
          rw [Bool.eq_false_iff]
          intro h
          simp only [Bool.and_eq_true, decide_eq_true_eq, beq_iff_eq, get0 s hz'] at h
          exact hc h
        simp [numB, hz, hd, h2]
      have HD := Lib.hid hd
      have Hz := Lib.hid hz
      have hp : (0 : Int) < (s.size : Int) := by omega
      have hc2' : 1 < s.size → (((s[0]'hz').toNat : Int) == 48) = false := by
        intro h
        simp
        intro h'
        exact hc ⟨h, by omega⟩
      clear hd hz hc
      by_cases hv : most < (decV 0 s.data.toList : Int)
      · have HF := Lib.hid (show numberF s most = (0, 3) by simp [numberF, hn, hv])
        clear hn
        by_cases h1s : 1 < s.size
        all_goals
          (try have hc3 := hc2' h1s)
          clear hc2'
          go_enter Tryz.func224, Tryz.ntmps224
          go_wp2_with (first | (go_at_call 242; refine (trim_dig s _ (by omega)).mono ?_; rintro e w1 ⟨t, rfl, ht, hb1⟩; have ht1 : t.toList = [] := ht.2 HD.out; have ht2 : t.toList.isEmpty = true := by rw [ht1]; rfl) | (go_at_call 243; refine (atoi_any s _ hs Hz.out HD.out (hE.bel hb1)).mono ?_; rintro e w2 ⟨⟨v, er, rfl, hor⟩, hb2⟩; rcases hor with ⟨rfl, rfl, hlt⟩ | ⟨⟨t', p', rfl⟩, hge⟩))
          all_goals go_ret2
          all_goals exact ⟨by rw [HF.out]; rfl, hb1.trans hb2⟩
      · have HF := Lib.hid (show numberF s most = ((decV 0 s.data.toList : Int), 0) by simp [numberF, hn, hv])
        clear hn
        by_cases h1s : 1 < s.size
        all_goals
          (try have hc3 := hc2' h1s)
          clear hc2'
          go_enter Tryz.func224, Tryz.ntmps224
          go_wp2_with (first | (go_at_call 242; refine (trim_dig s _ (by omega)).mono ?_; rintro e w1 ⟨t, rfl, ht, hb1⟩; have ht1 : t.toList = [] := ht.2 HD.out; have ht2 : t.toList.isEmpty = true := by rw [ht1]; rfl) | (go_at_call 243; refine (atoi_small s _ hs Hz.out HD.out (by omega)).mono ?_; rintro e w2 ⟨rfl, hb2⟩))
          all_goals go_ret2
          all_goals exact ⟨by rw [HF.out]; rfl, hb1.trans hb2⟩
  · have HF := Lib.hid (show numberF s most = (0, 6) by simp [numberF, numB, hd])
    have HD := Lib.hid hd
    have hp : (0 : Int) < (s.size : Int) := by omega
    clear hd hz
    go_enter Tryz.func224, Tryz.ntmps224
    go_wp2_with (go_at_call 242; refine (trim_dig s _ (by omega)).mono ?_; rintro e w1 ⟨t, rfl, ht, hb1⟩; have ht1 : ¬ t.toList = [] := fun h => HD.out (ht.1 h); have ht2 : t.toList.isEmpty = false := by simpa using ht1)
    go_ret2
    exact ⟨by rw [HF.out]; rfl, hb1⟩

def withinB (n most : Int) : Bool := decide (0 ≤ n) && decide (n ≤ most)
theorem within_any (n most : Int) (w : World) :
    Calls Tryz.prog 102 #[.int .i64 n, .int .i64 most] w fun e w' => e = .returned (.bool (withinB n most)) ∧ w = w' := by
  by_cases h : 0 ≤ n
  · have HF := Lib.hid (show withinB n most = decide (n ≤ most) by simp [withinB, h])
    go_enter Tryz.func102, Tryz.ntmps102
    go_wp2
    go_ret
    exact ⟨by rw [HF.out]; rfl, rfl⟩
  · have HF := Lib.hid (show withinB n most = false by simp [withinB, h])
    have h' : n < 0 := by omega
    go_enter Tryz.func102, Tryz.ntmps102
    go_wp2
    go_ret
    exact ⟨by rw [HF.out]; rfl, rfl⟩

def checkSizeF (s : Size) : Int := if (withinB s.e 16384 && withinB s.i 256 && withinB s.q 256 && withinB s.m 256) = true then 0 else 3
set_option maxHeartbeats 1000000 in
theorem checkSize_any (i q m e : Int) (w : World) :
    Calls Tryz.prog 95 #[.agg #[.int .i64 i, .int .i64 q, .int .i64 m, .int .i64 e]] w fun en w' => en = .returned (.int .i64 (checkSizeF ⟨i, q, m, e⟩)) ∧ Bel w w' := by
  generalize h1 : withinB e 16384 = b1
  generalize h2 : withinB i 256 = b2
  generalize h3 : withinB q 256 = b3
  generalize h4 : withinB m 256 = b4
  have HF := Lib.hid (show checkSizeF ⟨i, q, m, e⟩ = if (b1 && b2 && b3 && b4) = true then 0 else 3 by simp [checkSizeF, h1, h2, h3, h4])
  have H1 := Lib.hid h1; have H2 := Lib.hid h2; have H3 := Lib.hid h3; have H4 := Lib.hid h4
  clear h1 h2 h3 h4
  cases b1
  · go_enter Tryz.func95, Tryz.ntmps95
    go_wp2_with (go_at_call 102; refine (within_any e 16384 _).mono ?_; rintro en w1 ⟨rfl, rfl⟩; rw [H1.out])
    go_ret
    exact ⟨by rw [HF.out]; rfl, (Bel.refl _).alloc _⟩
  cases b2
  · go_enter Tryz.func95, Tryz.ntmps95
    go_wp2_with fail
    refine (within_any e 16384 _).mono ?_; rintro en w1 ⟨rfl, rfl⟩; rw [H1.out]
    go_wp2_with fail
    refine (within_any i 256 _).mono ?_; rintro en w1 ⟨rfl, rfl⟩; rw [H2.out]
    go_wp2_with fail
    go_ret
    exact ⟨by rw [HF.out]; rfl, (Bel.refl _).alloc _⟩
  cases b3
  · go_enter Tryz.func95, Tryz.ntmps95
    go_wp2_with fail
    refine (within_any e 16384 _).mono ?_; rintro en w1 ⟨rfl, rfl⟩; rw [H1.out]
    go_wp2_with fail
    refine (within_any i 256 _).mono ?_; rintro en w1 ⟨rfl, rfl⟩; rw [H2.out]
    go_wp2_with fail
    refine (within_any q 256 _).mono ?_; rintro en w1 ⟨rfl, rfl⟩; rw [H3.out]
    go_wp2_with fail
    go_ret
    exact ⟨by rw [HF.out]; rfl, (Bel.refl _).alloc _⟩
  cases b4
  all_goals
    go_enter Tryz.func95, Tryz.ntmps95
    go_wp2_with fail
    refine (within_any e 16384 _).mono ?_; rintro en w1 ⟨rfl, rfl⟩; rw [H1.out]
    go_wp2_with fail
    refine (within_any i 256 _).mono ?_; rintro en w1 ⟨rfl, rfl⟩; rw [H2.out]
    go_wp2_with fail
    refine (within_any q 256 _).mono ?_; rintro en w1 ⟨rfl, rfl⟩; rw [H3.out]
    go_wp2_with fail
    refine (within_any m 256 _).mono ?_; rintro en w1 ⟨rfl, rfl⟩; rw [H4.out]
    go_wp2_with fail
    go_ret
    exact ⟨by rw [HF.out]; rfl, (Bel.refl _).alloc _⟩

def widthF (s : Size) (sp : Int) : Int := if sp = 0 then s.i else if sp = 1 then s.q else if sp = 2 then s.m else 0
theorem width_any (i q m e sp : Int) (w : World) :
    Calls Tryz.prog 211 #[.agg #[.int .i64 i, .int .i64 q, .int .i64 m, .int .i64 e], .int .i64 sp] w fun en w' => en = .returned (.int .i64 (widthF ⟨i, q, m, e⟩ sp)) ∧ Bel w w' := by
  by_cases h0 : sp = 0
  · have HF := Lib.hid (show widthF ⟨i, q, m, e⟩ sp = i by simp [widthF, h0])
    go_enter Tryz.func211, Tryz.ntmps211
    go_wp2
    go_ret
    exact ⟨by first | rfl | (rw [HF.out]; rfl), (Bel.refl _).alloc _⟩
  by_cases h1 : sp = 1
  · have HF := Lib.hid (show widthF ⟨i, q, m, e⟩ sp = q by simp [widthF, h1])
    clear h0
    go_enter Tryz.func211, Tryz.ntmps211
    go_wp2
    go_ret
    exact ⟨by first | rfl | (rw [HF.out]; rfl), (Bel.refl _).alloc _⟩
  by_cases h2 : sp = 2
  · have HF := Lib.hid (show widthF ⟨i, q, m, e⟩ sp = m by simp [widthF, h2])
    clear h0 h1
    go_enter Tryz.func211, Tryz.ntmps211
    go_wp2
    go_ret
    exact ⟨by first | rfl | (rw [HF.out]; rfl), (Bel.refl _).alloc _⟩
  · have HF := Lib.hid (show widthF ⟨i, q, m, e⟩ sp = 0 by simp [widthF, h0, h1, h2])
    go_enter Tryz.func211, Tryz.ntmps211
    go_wp2
    go_ret
    exact ⟨by first | rfl | (rw [HF.out]; rfl), (Bel.refl _).alloc _⟩

def checkAddrF (s : Size) (sp n : Int) : Int := if withinB sp 2 = true then (if n < 0 then 3 else if widthF s sp ≤ n then 3 else 0) else 8
set_option maxHeartbeats 1000000 in
theorem checkAddr_any (i q m e sp n : Int) (w : World) :
    Calls Tryz.prog 177 #[.agg #[.int .i64 i, .int .i64 q, .int .i64 m, .int .i64 e], .agg #[.int .i64 sp, .int .i64 n]] w fun en w' => en = .returned (.int .i64 (checkAddrF ⟨i, q, m, e⟩ sp n)) ∧ Bel w w' := by
  generalize h1 : withinB sp 2 = b1
  have H1 := Lib.hid h1
  cases b1
  · have HF := Lib.hid (show checkAddrF ⟨i, q, m, e⟩ sp n = 8 by simp [checkAddrF, h1])
    clear h1
    go_enter Tryz.func177, Tryz.ntmps177
    go_wp2_with (go_at_call 102; refine (within_any sp 2 _).mono ?_; rintro en w1 ⟨rfl, rfl⟩; rw [H1.out])
    go_ret
    exact ⟨by rw [HF.out]; rfl, ((Bel.refl _).alloc _).alloc _⟩
  by_cases hn : n < 0
  · have HF := Lib.hid (show checkAddrF ⟨i, q, m, e⟩ sp n = 3 by simp [checkAddrF, h1, hn])
    clear h1
    go_enter Tryz.func177, Tryz.ntmps177
    go_wp2_with (go_at_call 102; refine (within_any sp 2 _).mono ?_; rintro en w1 ⟨rfl, rfl⟩; rw [H1.out])
    go_quiet (fail)
    go_wp2_with fail
    go_ret
    exact ⟨by rw [HF.out]; rfl, (((Bel.refl _).alloc _).alloc _).drewN _⟩
  · have HF := Lib.hid (show checkAddrF ⟨i, q, m, e⟩ sp n = if widthF ⟨i, q, m, e⟩ sp ≤ n then 3 else 0 by simp [checkAddrF, h1, hn])
    clear h1
    generalize hw : widthF ⟨i, q, m, e⟩ sp = wd at *
    have HW := Lib.hid hw
    clear hw
    have hd : decide (n < 0) = false := by simpa using hn
    by_cases hwn : wd ≤ n
    all_goals
      go_enter Tryz.func177, Tryz.ntmps177
      go_wp2_with (go_at_call 102; refine (within_any sp 2 _).mono ?_; rintro en w1 ⟨rfl, rfl⟩; rw [H1.out])
      go_region_held3 (fun w' => (w'.cell? ⟨w.heap.size, 0, none⟩ = some (.int .i64 i) ∧ w'.cell? ⟨w.heap.size, 1, none⟩ = some (.int .i64 q) ∧ w'.cell? ⟨w.heap.size, 2, none⟩ = some (.int .i64 m) ∧ w'.cell? ⟨w.heap.size, 3, none⟩ = some (.int .i64 e) ∧ w'.cell? ⟨w.heap.size + 1, 0, none⟩ = some (.int .i64 sp) ∧ w'.cell? ⟨w.heap.size + 1, 1, none⟩ = some (.int .i64 n)) ∧ Bel w w') (first | exact keep6 (by assumption) (by assumption) | (refine ⟨?_, (((Bel.refl _).alloc _).alloc _).drew⟩; go_keep))
        (first | (go_at_call 211; refine (width_any i q m e sp _).mono ?_; rintro en w1 ⟨rfl, hb1⟩; rw [HW.out]))
      have hB : Bel w _ := And.right (by assumption)
      go_wp2_with fail
      go_ret
      exact ⟨by rw [HF.out]; first | rw [if_pos hwn] | rw [if_neg (by omega)]
                rfl, hB⟩
end Go.Proofs.YtbgilebgdbgddaaGreatDoor
