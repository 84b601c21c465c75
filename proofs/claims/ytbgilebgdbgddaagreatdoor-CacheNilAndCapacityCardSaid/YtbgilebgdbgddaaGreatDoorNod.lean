/- graph.Nodes -/
import Derived.Test.YtbgilebgdbgddaaGreatDoorSmp
import Derived.Test.YtbgilebgdbgddaaGreatDoorPrc
import Derived.Test.YtbgilebgdbgddaaGreatDoorIdx
import Derived.Lib.SliceRun
set_option linter.unusedVariables false
set_option linter.unusedSimpArgs false
namespace Go.Proofs.YtbgilebgdbgddaaGreatDoor
open Go.RowKit
def strC (s : ByteArray) : List Value := [.string s]
def sL : ByteArray := ⟨#[76]⟩
def sR : ByteArray := ⟨#[82]⟩
def addN (l : List ByteArray) (n : ByteArray) : List ByteArray := if n ∈ l then l else l ++ [n]
def nodesF (cs : List Contact) : List ByteArray := (cs.flatMap fun c => [c.from_, c.to_]).foldl addN [sL, sR]
/-- The map says what is in the list. -/
def SeenIs (L : List (ByteArray × Value)) (l : List ByteArray) : Prop := ∀ s, asGet L s = if s ∈ l then some (.bool true) else none
theorem SeenIs.put {L : List (ByteArray × Value)} {l : List ByteArray} (h : SeenIs L l) (n : ByteArray) : SeenIs (asPut L n (.bool true)) (l ++ [n]) := by
  intro s
  rw [asGet_put, h s]
  by_cases e : s = n
  · simp [e]
  · simp [e]
theorem SeenIs.get {L : List (ByteArray × Value)} {l : List ByteArray} (h : SeenIs L l) (n : ByteArray) : (asGet L n).getD (.bool false) = .bool (decide (n ∈ l)) := by
  rw [h n]; split <;> simp [*]
theorem own_mapgrown {κ : Type} [DecidableEq κ] {kv : κ → Value} {w w' : World} {b base n sz : Nat} {e : TypeId} {v : Value} {xs : List Value} {L : List (κ × Value)} (ho : w.ownsRow base e sz v n xs) (hm : MapAt kv w b L) (hg : w.grownBy w' (some b)) : w'.ownsRow base e sz v n xs := by
  refine ⟨ho.1, ?_⟩
  rcases ho.2 with h1 | ⟨g, cap, cur, hv, hb, hh, r⟩
  · exact .inl h1
  · exact .inr ⟨g, cap, cur, hv, hb, (grown_blk (t := e) hh hg (fun h => map_ne_blk hm (t := e) hh (by injection h))), r⟩
theorem und91 : Tryz.prog.underlying 91 = some (.map 9 4) := by kernel_rfl
set_option maxRecDepth 100000 in
set_option maxHeartbeats 4000000 in
theorem nodes_any (r : Rung) (cs : List Value) (w : World) (hr : RungE w r cs) (hn : r.contacts.length ≤ 1000) :
    Calls Tryz.prog 290 #[.agg cs.toArray] w fun e w' => ∃ v, e = .returned v ∧ w'.ownsRow w.heap.size 9 1 v (nodesF r.contacts).length ((nodesF r.contacts).flatMap strC) ∧ Bel w w' := by
  obtain ⟨vc, vo, rfl, hc, ho⟩ := hr
  obtain ⟨ac, cc, rfl, hc1, hc2, _⟩ := hc.ex
  obtain ⟨ao, co, rfl, _⟩ := ho.ex
  obtain ⟨lb, ct, os, jp⟩ := r
  dsimp only at *
  clear ho
  generalize os.length = no at *
  have hmm := @run_makeMap Tryz.prog
  go_enter Tryz.func290, Tryz.ntmps290
  go_wp2_with fail
  obtain ⟨W, hW⟩ : ∃ W, W = ((w.alloc (.cells #[.string lb, .slice ac ct.length cc, .slice ao no co, .string jp] 33)).alloc (.cells #[.string ⟨#[76]⟩, .string ⟨#[82]⟩] 9)) := ⟨_, rfl⟩
  rw [← hW]
  have hB : Bel w W := by rw [hW]; exact ((Bel.refl w).alloc _).alloc _
  have qr : Blk W w.heap.size #[.string lb, .slice ac ct.length cc, .slice ao no co, .string jp] 33 := by rw [hW]; exact (Blk.new w _ _).alloc _
  have ql : Blk W (w.heap.size + 1) #[.string ⟨#[76]⟩, .string ⟨#[82]⟩] 9 := by rw [hW]; exact Blk.new1 w _ _ _
  have hs2 : W.heap.size = w.heap.size + 2 := by rw [hW]; simp
  clear hW
  have hm0 : MapAt Value.string (W.alloc (.map #[] 0)) (w.heap.size + 1 + 1) [] := by have := MapAt.made (kv := Value.string) W; rwa [hs2] at this
  obtain ⟨w1, hrun1, hm1, hg1⟩ := run_put strKey und91 hm0 ⟨#[76]⟩ (.bool true)
  rw [hrun1]
  clear hrun1
  go_wp2_with fail
  obtain ⟨w2, hrun2, hm2, hg2⟩ := run_put strKey und91 hm1 ⟨#[82]⟩ (.bool true)
  rw [hrun2]
  clear hrun2
  have hg := (grown_of_bel ((Bel.refl W).alloc (.map #[] 0)) (some (w.heap.size + 1 + 1))).trans (hg1.trans hg2)
  have hm : ∃ L, MapAt Value.string w2 (w.heap.size + 1 + 1) L ∧ SeenIs L [sL, sR] := ⟨_, hm2, by
    have h0 : SeenIs [] [] := fun s => by simp [asGet]
    exact (h0.put sL).put sR⟩
  replace hB : Bel w w2 := grown_bel hB hg (by omega)
  replace qr := grown_blk qr hg (by simp; omega)
  replace ql := grown_blk ql hg (by simp)
  clear hm0 hm1 hm2 hg hg1 hg2 hs2
  have ho : w2.ownsRow w.heap.size 9 1 (.slice (some ⟨w.heap.size + 1, 0, none⟩) 2 2) 2 ([sL, sR].flatMap strC) :=
    ⟨rfl, .inr ⟨_, _, _, rfl, Nat.le_succ _, ql, Nat.le_refl _, by decide, rfl, rfl⟩⟩
  have r1 := qr.cell 1 rfl
  generalize hMB : w.heap.size + 1 + 1 = MB at *
  have hMB' : w.heap.size ≤ MB := by omega
  clear hMB ql
  go_wp2_with fail
  go_loopw [3, 15] (fun lv x wr => ∃ k : Nat, k ≤ ct.length ∧ x = .int .i64 k ∧ Bel w wr ∧ Blk wr w.heap.size #[.string lb, .slice ac ct.length cc, .slice ao no co, .string jp] 33 ∧ ((nodesF (ct.take k)).length ≤ 2 + 2 * k ∧ wr.ownsRow w.heap.size 9 1 lv (nodesF (ct.take k)).length ((nodesF (ct.take k)).flatMap strC)) ∧ ∃ L, MapAt Value.string wr MB L ∧ SeenIs L (nodesF (ct.take k))) (fun _ x _ => ct.length - (intOf x).toNat)
  case atStart => exact ⟨0, Nat.zero_le _, rfl, hB, qr, ⟨by simp [nodesF], by simpa [nodesF] using ho⟩, by simpa [nodesF] using hm⟩
  case round =>
    clear hB qr ho hm r1
    obtain ⟨k, hk, rfl, hB, qr, ⟨hn2, ho⟩, L, hm, hsn⟩ := hrel
    by_cases hlt : k < ct.length
    · have hg := List.getElem?_eq_getElem hlt
      obtain ⟨b, off, rfl, c0, c1, c2, c3, c4⟩ := (hc.bel (Flat.mono _) hB).contact hg
      have hT := Lib.hid (show nodesF (ct.take (k + 1)) = addN (addN (nodesF (ct.take k)) ct[k].from_) ct[k].to_ by
        unfold nodesF; rw [List.take_succ_eq_append_getElem hlt, List.flatMap_append, List.foldl_append]; rfl)
      generalize ct[k] = c at *
      obtain ⟨ck, sp, na, cf, ctt⟩ := c
      dsimp only at *
      generalize nodesF (ct.take k) = nl at *
      clear hg
      go_wp2_with fail
      have hW : Bel wr ((wr.alloc (.cells #[.int .i64 ck, .int .i64 sp, .int .i64 na, .string cf, .string ctt] 108)).alloc (.cells #[.string cf, .string ctt] 9)) := ((Bel.refl wr).alloc _).alloc _
      have ql : Blk ((wr.alloc (.cells #[.int .i64 ck, .int .i64 sp, .int .i64 na, .string cf, .string ctt] 108)).alloc (.cells #[.string cf, .string ctt] 9)) (wr.heap.size + 1) #[.string cf, .string ctt] 9 := Blk.new1 wr _ _ _
      obtain ⟨lb', hlb'⟩ : ∃ x, x = wr.heap.size + 1 := ⟨_, rfl⟩
      rw [← hlb'] at ql ⊢
      have hne : ∀ g, u3.ownBlock = some g → g ≠ lb' := fun g hg => by have := (ho.lt g hg).2; omega
      have hlb2 : w.heap.size ≤ lb' := by have := hB.size; omega
      clear hlb'
      generalize ((wr.alloc (.cells #[.int .i64 ck, .int .i64 sp, .int .i64 na, .string cf, .string ctt] 108)).alloc (.cells #[.string cf, .string ctt] 9)) = W1 at *
      replace hB := hB.trans hW
      replace qr := qr.bel hW
      replace ho := own_bel ho hW
      replace hm := hm.bel hW
      clear c0 c1 c2 c3 c4
      go_loopw [3, 25] (fun lv x wr => ∃ j : Nat, j ≤ 2 ∧ x = .int .i64 j ∧ Bel w wr ∧ Blk wr w.heap.size #[.string lb, .slice (some ⟨b, off, none⟩) ct.length cc, .slice ao no co, .string jp] 33 ∧ (wr.cell? ⟨lb', 0, none⟩ = some (.string cf) ∧ wr.cell? ⟨lb', 1, none⟩ = some (.string ctt) ∧ lb' < wr.heap.size ∧ ∀ g, lv.ownBlock = some g → g ≠ lb') ∧ ((([cf, ctt].take j).foldl addN nl).length ≤ 2 + 2 * k + j ∧ wr.ownsRow w.heap.size 9 1 lv (([cf, ctt].take j).foldl addN nl).length ((([cf, ctt].take j).foldl addN nl).flatMap strC)) ∧ ∃ L, MapAt Value.string wr MB L ∧ SeenIs L (([cf, ctt].take j).foldl addN nl)) (fun _ x _ => 2 - (intOf x).toNat)
      case atStart => exact ⟨0, by omega, rfl, hB, qr, ⟨ql.cell 0 rfl, ql.cell 1 rfl, ql.lt, hne⟩, ⟨by simp; omega, ho⟩, L, hm, hsn⟩
      case round =>
        clear hB qr ho hm hsn hn2 ql hne
        obtain ⟨j, hj, rfl, hB, qr, ⟨g0, g1, hbl, hne⟩, ⟨hn2, ho⟩, L, hm, hsn⟩ := hrel
        by_cases hj2 : j < 2
        · have hgj : wr.cell? ⟨lb', j, none⟩ = some (.string ([cf, ctt].getD j .empty)) := by
            rcases (show j = 0 ∨ j = 1 by omega) with rfl | rfl
            · exact g0
            · exact g1
          have hJ : ([cf, ctt].take (j + 1)).foldl addN nl = addN (([cf, ctt].take j).foldl addN nl) ([cf, ctt].getD j .empty) := by
            rcases (show j = 0 ∨ j = 1 by omega) with rfl | rfl <;> rfl
          have HJ := Lib.hid hJ
          clear hJ
          generalize [cf, ctt].getD j .empty = s at *
          generalize ([cf, ctt].take j).foldl addN nl = nj at *
          have hr := run_look strKey und91 (zero4 wr) hm s false
          rw [hsn.get] at hr
          by_cases hin : s ∈ nj
          · have hA : addN nj s = nj := by simp [addN, hin]
            rw [hA] at HJ
            simp only [hin, decide_true] at hr
            go_wp2_with fail
            go_roundw
            case rel => exact ⟨j + 1, by omega, by go_num, hB, qr, ⟨g0, g1, hbl, hne⟩, ⟨by rw [HJ.out]; omega, by rw [HJ.out]; exact ho⟩, L, hm, by rw [HJ.out]; exact hsn⟩
            case measure => simp [intOf]; omega
          · have hA : addN nj s = nj ++ [s] := by simp [addN, hin]
            rw [hA] at HJ
            simp only [hin, decide_false] at hr
            obtain ⟨w5, hrun, hm5, hg5⟩ := run_put strKey und91 hm s (.bool true)
            replace hB := grown_bel hB hg5 hMB'
            replace qr := grown_blk qr hg5 (fun h => map_ne_blk hm qr (by injection h))
            replace ho := own_mapgrown ho hm hg5
            have g0' := grown_cell hm hg5 g0
            have g1' := grown_cell hm hg5 g1
            have hbl' := Nat.lt_of_lt_of_le hbl hg5.size
            replace hsn := hsn.put s
            obtain ⟨A, c, rfl, _⟩ := own_slice ho
            have hnb : Blk (w5.alloc (.cells #[.string s] 9)) w5.heap.size #[.string s] 9 := Blk.new w5 _ _
            have ho6 := own_bel ho ((Bel.refl w5).alloc (.cells #[.string s] 9))
            have hnews : ∀ u ∈ strC s, u.oneCell' = true := by simp [strC, Value.oneCell']
            have hba : w.heap.size ≤ (w5.alloc (.cells #[.string s] 9)).heap.size := by have := hB.size; simp; omega
            go_wp2_with (first | (at_builtin; apply list_app und56 info9 rfl (by decide) (by decide) rfl (.tmp 35) (.tmp 37) rfl rfl ho6 (m := 1) (news := strC s) rfl rfl hnb.news hnews (by decide) (by omega) hba; intro g cap w7 ho7 hgr htf hat))
            replace htf := (TFr.of_bel [9] w.heap.size ((Bel.refl w5).alloc (.cells #[.string s] 9))).trans htf
            go_roundw
            case rel =>
              refine ⟨j + 1, by omega, by go_num, htf.toBel hB, htf.blk qr (.inr (by decide)), ⟨?_, ?_, Nat.lt_of_lt_of_le hbl' htf.size, ?_⟩, ⟨by rw [HJ.out, List.length_append]; simp only [List.length_singleton]; omega, by rw [HJ.out, List.flatMap_append, List.length_append]; simpa using ho7⟩, _, hm5.tfr htf, by rw [HJ.out]; exact hsn⟩
              · exact hgr.cell (((Bel.refl w5).alloc _).cell g0') (fun e => hne _ e.symm rfl)
              · exact hgr.cell (((Bel.refl w5).alloc _).cell g1') (fun e => hne _ e.symm rfl)
              · intro g' hg'
                have hgg : g' = g := by simpa [Value.ownBlock] using hg'.symm
                subst hgg
                rcases hat with h | h
                · exact hne _ h
                · rw [h]; simp; omega
            case measure => simp [intOf]; omega
        · have hj2' : j = 2 := by omega
          subst hj2'
          go_wp2_with fail
          go_roundw
          case rel => exact ⟨k + 1, by omega, by go_num, hB, qr, ⟨by rw [hT.out]; exact Nat.le_trans hn2 (by omega), by rw [hT.out]; exact ho⟩, L, hm, by rw [hT.out]; exact hsn⟩
          case measure => simp [intOf]; omega
    · go_wp2_with fail
      obtain rfl : k = ct.length := by omega
      rw [List.take_length] at ho
      go_ret
      exact ⟨_, rfl, ho, hB⟩
end Go.Proofs.YtbgilebgdbgddaaGreatDoor
/- graph.numbers, Outgoing, Incoming -/
namespace Go.Proofs.YtbgilebgdbgddaaGreatDoor
open Go.RowKit
def natC (n : Nat) : List Value := [.int .i64 n]
def numsF (p : Contact → Bool) : Nat → List Contact → List Nat
  | _, [] => []
  | i, c :: l => if p c then i :: numsF p (i + 1) l else numsF p (i + 1) l
theorem numsF_append (p : Contact → Bool) (a b : List Contact) : ∀ i, numsF p i (a ++ b) = numsF p i a ++ numsF p (i + a.length) b := by
  induction a with
  | nil => intro i; simp [numsF]
  | cons c l ih =>
    intro i
    simp only [List.cons_append, numsF, ih, List.length_cons]
    rw [show i + 1 + l.length = i + (l.length + 1) by omega]
    split <;> simp
theorem numsF_len (p : Contact → Bool) (a : List Contact) : ∀ i, (numsF p i a).length ≤ a.length := by
  induction a with
  | nil => intro i; simp [numsF]
  | cons c l ih =>
    intro i
    have := ih (i + 1)
    simp only [numsF]
    split <;> simp <;> omega
set_option maxRecDepth 100000 in
set_option maxHeartbeats 4000000 in
theorem numbers_any {p : Contact → Bool} (g0 : Nat) (lb : Array Value) (eg : ∀ args w, (callFunc g0 args).run Tryz.prog w = .ok (.enter g0 args) w) (r : Rung) (cs : List Value) (w : World) (hr : RungE w r cs) (hn : r.contacts.length ≤ 1000)
    (hcall : ∀ c w', Bel w w' → Calls Tryz.prog g0 (#[.agg (contactC c).toArray] ++ lb) w' fun e w'' => e = .returned (.bool (p c)) ∧ Bel w' w'') :
    Calls Tryz.prog 314 #[.agg cs.toArray, .func (.func g0) #[] lb] w fun e w' => ∃ v, e = .returned v ∧ w'.ownsRow w.heap.size 3 1 v (numsF p 0 r.contacts).length ((numsF p 0 r.contacts).flatMap natC) ∧ Bel w w' := by
  obtain ⟨vc, vo, rfl, hc, ho⟩ := hr
  obtain ⟨ac, cc, rfl, hc1, hc2, _⟩ := hc.ex
  obtain ⟨ao, co, rfl, _⟩ := ho.ex
  obtain ⟨lbl, ct, os, jp⟩ := r
  dsimp only at *
  clear ho
  generalize os.length = no at *
  go_enter Tryz.func314, Tryz.ntmps314
  go_wp2_with fail
  go_loopw [5, 11] (fun lv x wr => ∃ k : Nat, k ≤ ct.length ∧ x = .int .i64 k ∧ Bel w wr ∧ wr.ownsRow w.heap.size 3 1 lv (numsF p 0 (ct.take k)).length ((numsF p 0 (ct.take k)).flatMap natC)) (fun _ x _ => ct.length - (intOf x).toNat)
  case atStart => exact ⟨0, Nat.zero_le _, rfl, (Bel.refl w).alloc _, World.ownsRow_nil _ _ _ _⟩
  case round =>
    obtain ⟨k, hk, rfl, hB, ho⟩ := hrel
    by_cases hlt : k < ct.length
    · have hg := List.getElem?_eq_getElem hlt
      obtain ⟨b, off, rfl, c0, c1, c2, c3, c4⟩ := (hc.bel (Flat.mono _) hB).contact hg
      have hT : numsF p 0 (ct.take (k + 1)) = numsF p 0 (ct.take k) ++ if p ct[k] then [k] else [] := by
        rw [List.take_succ_eq_append_getElem hlt, numsF_append]
        simp [numsF, Nat.min_eq_left (Nat.le_of_lt hlt)]
      have hln := numsF_len p (ct.take k) 0
      rw [List.length_take] at hln
      obtain ⟨ls, hls⟩ : ∃ l, l = numsF p 0 (ct.take k) := ⟨_, rfl⟩
      rw [← hls] at ho hT hln
      generalize ct[k] = c at *
      have hcc := hcall c
      obtain ⟨ck, sp, na, cf, ctt⟩ := c
      dsimp only at *
      generalize hpc : p ⟨ck, sp, na, cf, ctt⟩ = pc at *
      have hT' := Lib.hid hT
      clear hg hT hls hcall
      obtain ⟨A, c, rfl, _⟩ := own_slice ho
      go_wp2_with fail
      refine (hcc _ (hB.alloc _)).mono ?_
      rintro en w1 ⟨rfl, hb1⟩
      have hbb : Bel wr w1 := ((Bel.refl wr).alloc _).trans hb1
      replace hB := hB.trans hbb
      cases pc
      · go_wp2_with fail
        go_roundw
        case rel => exact ⟨k + 1, by omega, by go_num, hB, by rw [hT'.out]; simpa using own_bel ho hbb⟩
        case measure => simp [intOf]; omega
      · have hnb : Blk (w1.alloc (.cells #[.int .i64 k] 3)) w1.heap.size #[.int .i64 k] 3 := Blk.new w1 _ _
        have ho6 := own_bel ho (hbb.alloc (.cells #[.int .i64 k] 3))
        have hnews : ∀ u ∈ natC k, u.oneCell' = true := by simp [natC, Value.oneCell']
        have hba : w.heap.size ≤ (w1.alloc (.cells #[.int .i64 k] 3)).heap.size := by have := hB.size; simp; omega
        go_wp2_with (first | (at_builtin; apply list_app und27 info3 rfl (by decide) (by decide) rfl (.tmp 19) (.tmp 21) rfl rfl ho6 (m := 1) (news := natC k) rfl rfl hnb.news hnews (by decide) (by omega) hba; intro g cap w7 ho7 hgr htf hat))
        go_roundw
        case rel => exact ⟨k + 1, by omega, by go_num, htf.toBel (hB.alloc _), by rw [hT'.out]; simp only [if_true, List.flatMap_append, List.length_append]; simpa using ho7⟩
        case measure => simp [intOf]; omega
    · go_wp2_with fail
      obtain rfl : k = ct.length := by omega
      rw [List.take_length] at ho
      go_ret
      exact ⟨_, rfl, ho, hB⟩
theorem eg336 : ∀ args w, (callFunc 336 args).run Tryz.prog w = .ok (.enter 336 args) w := enters_of Tryz.func336 (by kernel_rfl) rfl
theorem eg315 : ∀ args w, (callFunc 315 args).run Tryz.prog w = .ok (.enter 315 args) w := enters_of Tryz.func315 (by kernel_rfl) rfl
theorem clo_336 (b : Nat) (s : ByteArray) (c : Contact) (w : World) (hb : w.cell? ⟨b, 0, none⟩ = some (.string s)) :
    Calls Tryz.prog 336 #[.agg (contactC c).toArray, .pointer (some ⟨b, 0, none⟩)] w fun e w' => e = .returned (.bool (decide (c.from_ = s))) ∧ Bel w w' := by
  have hb' : ∀ o, (w.alloc o).cell? ⟨b, 0, none⟩ = some (.string s) := fun o => ((Bel.refl w).alloc o).cell hb
  rw [← strEq]
  unfold contactC
  go_enter Tryz.func336, Tryz.ntmps336
  go_wp2_with fail
  go_ret
  exact ⟨rfl, (Bel.refl _).alloc _⟩
theorem clo_315 (b : Nat) (s : ByteArray) (c : Contact) (w : World) (hb : w.cell? ⟨b, 0, none⟩ = some (.string s)) :
    Calls Tryz.prog 315 #[.agg (contactC c).toArray, .pointer (some ⟨b, 0, none⟩)] w fun e w' => e = .returned (.bool (decide (c.to_ = s))) ∧ Bel w w' := by
  have hb' : ∀ o, (w.alloc o).cell? ⟨b, 0, none⟩ = some (.string s) := fun o => ((Bel.refl w).alloc o).cell hb
  rw [← strEq]
  unfold contactC
  go_enter Tryz.func315, Tryz.ntmps315
  go_wp2_with fail
  go_ret
  exact ⟨rfl, (Bel.refl _).alloc _⟩
set_option maxHeartbeats 1000000 in
theorem outgoing_any (r : Rung) (cs : List Value) (s : ByteArray) (w : World) (hr : RungE w r cs) (hn : r.contacts.length ≤ 1000) :
    Calls Tryz.prog 318 #[.agg cs.toArray, .string s] w fun e w' => ∃ v, e = .returned v ∧ w'.ownsRow w.heap.size 3 1 v (numsF (fun c => decide (c.from_ = s)) 0 r.contacts).length ((numsF (fun c => decide (c.from_ = s)) 0 r.contacts).flatMap natC) ∧ Bel w w' := by
  have hr0 := Lib.hid hr
  obtain ⟨vc, vo, rfl, hc, ho⟩ := hr
  obtain ⟨ac, cc, rfl, _⟩ := hc.ex
  obtain ⟨ao, co, rfl, _⟩ := ho.ex
  clear hc ho
  have hmf : ∀ (fn : Fn) (first cap : Array Value) (w : World), (Instr.makeFunc fn first cap).run Tryz.prog w = .ok (.func fn first cap) w := fun _ _ _ _ => rfl
  go_enter Tryz.func318, Tryz.ntmps318
  go_wp2_with fail
  have hW : Bel w ((w.alloc (.cells #[.string r.label, .slice ac r.contacts.length cc, .slice ao r.coils.length co, .string r.jump] 33)).alloc (.cells #[.string s] 9)) := ((Bel.refl w).alloc _).alloc _
  have qs : Blk ((w.alloc (.cells #[.string r.label, .slice ac r.contacts.length cc, .slice ao r.coils.length co, .string r.jump] 33)).alloc (.cells #[.string s] 9)) (w.heap.size + 1) #[.string s] 9 := Blk.new1 w _ _ _
  generalize ((w.alloc (.cells #[.string r.label, .slice ac r.contacts.length cc, .slice ao r.coils.length co, .string r.jump] 33)).alloc (.cells #[.string s] 9)) = W at *
  refine (numbers_any (p := fun c => decide (c.from_ = s)) 336 #[.pointer (some ⟨w.heap.size + 1, 0, none⟩)] eg336 r _ W (RungE.mono _ _ _ _ hr0.out hW) hn (fun c w' hb => clo_336 _ s c w' (hb.cell (qs.cell 0 rfl)))).mono ?_
  rintro en w1 ⟨v, rfl, ho, hb1⟩
  go_wp2_with fail
  go_ret
  exact ⟨_, rfl, own_base ho hW.size, hW.trans hb1⟩
set_option maxHeartbeats 1000000 in
theorem incoming_any (r : Rung) (cs : List Value) (s : ByteArray) (w : World) (hr : RungE w r cs) (hn : r.contacts.length ≤ 1000) :
    Calls Tryz.prog 294 #[.agg cs.toArray, .string s] w fun e w' => ∃ v, e = .returned v ∧ w'.ownsRow w.heap.size 3 1 v (numsF (fun c => decide (c.to_ = s)) 0 r.contacts).length ((numsF (fun c => decide (c.to_ = s)) 0 r.contacts).flatMap natC) ∧ Bel w w' := by
  have hr0 := Lib.hid hr
  obtain ⟨vc, vo, rfl, hc, ho⟩ := hr
  obtain ⟨ac, cc, rfl, _⟩ := hc.ex
  obtain ⟨ao, co, rfl, _⟩ := ho.ex
  clear hc ho
  have hmf : ∀ (fn : Fn) (first cap : Array Value) (w : World), (Instr.makeFunc fn first cap).run Tryz.prog w = .ok (.func fn first cap) w := fun _ _ _ _ => rfl
  go_enter Tryz.func294, Tryz.ntmps294
  go_wp2_with fail
  have hW : Bel w ((w.alloc (.cells #[.string r.label, .slice ac r.contacts.length cc, .slice ao r.coils.length co, .string r.jump] 33)).alloc (.cells #[.string s] 9)) := ((Bel.refl w).alloc _).alloc _
  have qs : Blk ((w.alloc (.cells #[.string r.label, .slice ac r.contacts.length cc, .slice ao r.coils.length co, .string r.jump] 33)).alloc (.cells #[.string s] 9)) (w.heap.size + 1) #[.string s] 9 := Blk.new1 w _ _ _
  generalize ((w.alloc (.cells #[.string r.label, .slice ac r.contacts.length cc, .slice ao r.coils.length co, .string r.jump] 33)).alloc (.cells #[.string s] 9)) = W at *
  refine (numbers_any (p := fun c => decide (c.to_ = s)) 315 #[.pointer (some ⟨w.heap.size + 1, 0, none⟩)] eg315 r _ W (RungE.mono _ _ _ _ hr0.out hW) hn (fun c w' hb => clo_315 _ s c w' (hb.cell (qs.cell 0 rfl)))).mono ?_
  rintro en w1 ⟨v, rfl, ho, hb1⟩
  go_wp2_with fail
  go_ret
  exact ⟨_, rfl, own_base ho hW.size, hW.trans hb1⟩
end Go.Proofs.YtbgilebgdbgddaaGreatDoor
/- slices.DeleteFunc at []string, of a row that is owned -/
namespace Go.Proofs.YtbgilebgdbgddaaGreatDoor
open Go.RowKit
theorem strC_len (s : ByteArray) : (strC s).length = 1 := rfl
theorem flatMap_strC (l : List ByteArray) : l.flatMap strC = l.map Value.string := by
  induction l with
  | nil => rfl
  | cons a l ih => simp [List.flatMap_cons, strC, ih]
theorem setCells_blk {n : Nat} {t : TypeId} : ∀ (vs : List Value) (o : Nat) (w : World) (arr : Array Value), Blk w n arr t → ∃ arr', Blk (w.setCells n o vs) n arr' t ∧ arr'.size = arr.size ∧ ∀ i, i < o → arr'[i]? = arr[i]?
  | [], _, _, arr, h => ⟨arr, h, rfl, fun _ _ => rfl⟩
  | v :: r, o, w, arr, h => by
    obtain ⟨a, h1, h2, h3⟩ := setCells_blk r (o + 1) _ _ (h.set o v)
    refine ⟨a, h1, by rw [h2]; simp, fun i hi => ?_⟩
    rw [h3 i (by omega)]
    simp [Array.getElem?_setIfInBounds]
    intro hh; omega
theorem setCells_tfr {n : Nat} {t : TypeId} {T : List TypeId} {B : Nat} (ht : t ∈ T) (hB : B ≤ n) : ∀ (vs : List Value) (o : Nat) (w : World) (arr : Array Value), Blk w n arr t → TFr T B w (w.setCells n o vs)
  | [], _, w, _, _ => TFr.refl T B w
  | v :: r, o, w, arr, h => (TFr.setC h ht hB o v).trans (setCells_tfr ht hB r (o + 1) _ _ (h.set o v))
theorem zero9 (w : World) : (zeroValue 9).run Tryz.prog w = .ok (.string .empty) w := by kernel_rfl
theorem list_clear {w : World} {t e : TypeId} {z : Value} (ht : Tryz.prog.underlying t = some (.slice e)) (hv : ∀ w, (zeroValue e).run Tryz.prog w = .ok z w) (hz : z.cells = #[z]) (h1 : z.oneCell' = true)
    {ops : Array Oper} {rest : List Oper} {o : Oper} {a : Act} {Q : Exit → Act → World → Prop} (hgd : o.guard = none) (s : Operand)
    (ho : o.op = .call { callee := .builtin .clear, args := #[s], argTypes := #[t] }) (b off n c : Nat) (hs : a.eval s = .slice (some ⟨b, off, none⟩) n c) (hn : 0 < n)
    (hc : ∀ j, j < n → (w.cell? ⟨b, off + j, none⟩).isSome = true) (hf : ∀ j, j < n → w.frozen? ⟨b, off + j, none⟩ = false)
    (h : wpList Tryz.prog ops Q rest (a.put o.dst (.tuple #[])) (w.setCells b off (List.replicate n z))) : wpList Tryz.prog ops Q (o :: rest) a w := by
  refine wpList_plain hgd fun K' hK' => ?_
  have hr := Lib.run_clear_slice (P := Tryz.prog) w t e o.type z ht hv hz h1 b off n c hn hc hf
  unfold Oper.wp execOp
  simp only [ho, resolve, invoke, builtin, Sem.run_bind, Sem.run_pure, Result.andThen_ok, List.map_toArray, List.map_cons, List.map_nil, hs, hr]
  exact hK' _ _ h
set_option maxRecDepth 100000 in
set_option maxHeartbeats 4000000 in
theorem delF_299 {p : ByteArray → Bool} (g0 : Nat) (lb : Array Value) (eg : ∀ args w, (callFunc g0 args).run Tryz.prog w = .ok (.enter g0 args) w) (xs : List ByteArray) (v : Value) (base : Nat) (w : World) (ho : w.ownsRow base 9 1 v xs.length (xs.flatMap strC)) (hn : xs.length ≤ 1000000)
    (hcall : ∀ x w', TFr [9] base w w' → x ∈ xs → Calls Tryz.prog g0 (#[.string x] ++ lb) w' fun e w'' => e = .returned (.bool (p x)) ∧ Bel w' w'') :
    Calls Tryz.prog 299 #[v, .func (.func g0) #[] lb] w fun e w' => ∃ v', e = .returned v' ∧ w'.ownsRow base 9 1 v' (xs.filter fun x => !p x).length ((xs.filter fun x => !p x).flatMap strC) ∧ TFr [9] base w w' := by
  have hs : SlAt StrE 1 w v xs := own_read strC_len ho rfl StrE (fun x _ => rfl)
  have hI := Lib.hid (idxF_291 (Flat.mono _) (p := p) g0 lb eg xs v w hs (fun x cs w' hb he _ hx => by
    obtain rfl := he
    exact hcall x w' (TFr.of_bel _ _ hb) hx))
  have hcases : (idxOf p xs = -1 ∧ xs.filter (fun x => !p x) = xs) ∨ ∃ k, k < xs.length ∧ idxOf p xs = (k : Int) ∧ (xs.take (k + 1)).filter (fun x => !p x) = xs.take k := by
    unfold idxOf
    cases h : xs.findIdx? p with
    | none =>
      rw [List.findIdx?_eq_none_iff] at h
      exact .inl ⟨rfl, by rw [List.filter_eq_self]; intro x hx; simp [h x hx]⟩
    | some k =>
      rw [List.findIdx?_eq_some_iff_getElem] at h
      obtain ⟨hk, hp, hbef⟩ := h
      refine .inr ⟨k, hk, rfl, ?_⟩
      rw [List.take_succ_eq_append_getElem hk, List.filter_append]
      have : (xs.take k).filter (fun x => !p x) = xs.take k := by
        rw [List.filter_eq_self]
        intro x hx
        obtain ⟨j, hj, rfl⟩ := List.getElem_of_mem hx
        rw [List.length_take] at hj
        simp only [List.getElem_take]
        have := hbef j (by omega)
        simpa using this
      rw [this]
      simp [hp]
  rcases hcases with ⟨hi, hf⟩ | ⟨k0, hk0, hi, hf⟩
  · rw [hi] at hI
    rw [hf]
    obtain ⟨A, cap, rfl, _, hcap⟩ := own_slice ho
    go_enter Tryz.func299, Tryz.ntmps299
    go_wp2_with (go_at_call 291; refine hI.out.mono ?_; rintro en w1 ⟨rfl, hb1⟩)
    go_ret
    exact ⟨_, rfl, own_bel ho hb1, TFr.of_bel _ _ hb1⟩
  rw [hi] at hI
  have hne : ¬ ((k0 : Int) == -1) = true := by simp
  have hne' : ((k0 : Int) == -1) = false := by simp
  have hmx : xs.length ≤ 9223372036854775807 := by omega
  rcases ho.2 with ⟨_, h0⟩ | ⟨gb, cap, cur, rfl, hbg, hh, hc1, hc2, hc3, hc4⟩
  · omega
  have hcur : ∀ m, (h : m < xs.length) → cur[m]? = some (.string xs[m]) := by
    intro m hm
    have h1 : (cur.toList.take (xs.length * 1))[m]? = some (.string xs[m]) := by
      rw [hc4, flatMap_strC, List.getElem?_map, List.getElem?_eq_getElem hm]; rfl
    rw [List.getElem?_take] at h1
    split at h1
    · simpa using h1
    · cases h1
  go_enter Tryz.func299, Tryz.ntmps299
  go_wp2_with (go_at_call 291; refine hI.out.mono ?_; rintro en w1 ⟨rfl, hb1⟩)
  have hq : Blk w1 gb cur 9 := Blk.bel hh hb1
  have hW : TFr [9] base w w1 := TFr.of_bel _ _ hb1
  go_loopw [5, 6] (fun xi xj wr => ∃ (i j : Nat) (arr : Array Value), k0 < j ∧ j ≤ xs.length ∧ xi = .int .i64 i ∧ xj = .int .i64 j ∧ i = ((xs.take j).filter fun x => !p x).length ∧ i < j ∧ Blk wr gb arr 9 ∧ arr.size = cap ∧ arr.toList.take i = ((xs.take j).filter fun x => !p x).map Value.string ∧ (∀ m, j ≤ m → (h : m < xs.length) → arr[m]? = some (.string xs[m])) ∧ TFr [9] base w wr) (fun _ xj _ => xs.length - (intOf xj).toNat)
  case atStart =>
    refine ⟨k0, k0 + 1, cur, by omega, by omega, rfl, by go_num, by rw [hf]; simp; omega, by omega, hq, by omega, ?_, fun m _ h => hcur m h, hW⟩
    rw [hf, List.map_take, ← flatMap_strC, ← hc4, List.take_take, Nat.mul_one, Nat.min_eq_left (by omega)]
  case round =>
    clear hq hW hI hcur hc4 hf ho hh hs
    obtain ⟨i, j, arr, hkj, hj, rfl, rfl, hil, hij, hq, hsz, hpre, hpost, hW⟩ := hrel
    by_cases hlt : j < xs.length
    · have hji : (j : Int) < xs.length := by omega
      have dj := hq.cell j (hpost j (Nat.le_refl _) hlt)
      have hcc := hcall xs[j] wr hW (List.getElem_mem hlt)
      have hT := Lib.hid (show (xs.take (j + 1)).filter (fun x => !p x) = (xs.take j).filter (fun x => !p x) ++ if p xs[j] then [] else [xs[j]] by
        rw [List.take_succ_eq_append_getElem hlt, List.filter_append]
        cases h : p xs[j] <;> simp [h])
      generalize hx : xs[j] = x at *
      generalize hpx : p x = px at *
      have hpre' := Lib.hid hpre
      have hpost' := Lib.hid hpost
      have hil' := Lib.hid hil
      clear hpre hpost hil hcall
      cases px
      · have hlp : ((xs.take (j + 1)).filter fun x => !p x).length = i + 1 := by rw [hT.out, List.length_append, ← hil'.out]; simp
        go_wp2_with fail
        refine hcc.mono ?_
        rintro en w2 ⟨rfl, hb2⟩
        replace hq := hq.bel hb2
        have fi := hq.frozen i
        have ei : ∃ u, w2.cell? ⟨gb, i, none⟩ = some u := ⟨arr[i]'(by omega), hq.cell i (by simp)⟩
        obtain ⟨u, ei⟩ := ei
        clear dj
        go_wp2_with fail
        go_roundw
        case rel =>
          refine ⟨i + 1, j + 1, arr.setIfInBounds i (.string x), by omega, by omega, by go_num, by go_num, hlp.symm, by omega, hq.set i _, by simpa using hsz, ?_, fun m h1 h2 => ?_, (hW.bel hb2).trans (TFr.setC hq (by simp) hbg i _)⟩
          · rw [hT.out]
            rw [Array.toList_setIfInBounds, List.take_add_one, List.take_set_of_le (Nat.le_refl _), hpre'.out]
            simp [List.getElem?_set, show i < arr.toList.length by simpa using (by omega : i < arr.size)]
            omega
          · have := hpost'.out m (by omega) h2
            rw [Array.getElem?_setIfInBounds_ne (by omega)]
            exact this
        case measure => simp [intOf]; omega
      · go_wp2_with fail
        refine hcc.mono ?_
        rintro en w2 ⟨rfl, hb2⟩
        go_wp2_with fail
        go_roundw
        case rel =>
          exact ⟨i, j + 1, arr, by omega, by omega, by go_num, by go_num, by rw [hT.out]; simpa using hil'.out, by omega, hq.bel hb2, hsz, by rw [hT.out]; simpa using hpre'.out, fun m h1 h2 => hpost'.out m (by omega) h2, hW.bel hb2⟩
        case measure => simp [intOf]; omega
    · obtain rfl : j = xs.length := by omega
      rw [List.take_length] at hil hpre
      have hni : ¬ ((xs.length : Int) < xs.length) := by omega
      have hci : ∀ j, j < xs.length - i → (wr.cell? ⟨gb, i + j, none⟩).isSome = true := fun j hj => by
        rw [hq.cell (i + j) (v := arr[i + j]'(by omega)) (by simp)]; rfl
      have hfi : ∀ j, j < xs.length - i → wr.frozen? ⟨gb, i + j, none⟩ = false := fun j _ => hq.frozen _
      have hil1 : ¬ i = cap := by omega
      have hil2 : (i : Int) ≤ xs.length := by omega
      have hil3 : (i : Int) ≤ cap := by omega
      have hil' := Lib.hid hil; have hpre' := Lib.hid hpre
      clear hil hpre
      obtain ⟨arr2, hq2, hsz2, hpr2⟩ := setCells_blk (List.replicate (xs.length - i) (.string .empty)) i wr arr hq
      have hW2 := hW.trans (setCells_tfr (T := [9]) (by simp) hbg (List.replicate (xs.length - i) (.string .empty)) i wr arr hq)
      have hr := Lib.run_clear_slice (P := Tryz.prog) wr 56 9 0 (.string .empty) und56 zero9 rfl rfl gb i (xs.length - i) (cap - i) (by omega) hci hfi
      go_wp2_with fail
      refine bodyPost_ret (v := .slice (some ⟨gb, 0, none⟩) i cap) (by simp [results, Tryz.results299, go_sem]) rfl ⟨_, rfl, ⟨by rw [flatMap_strC, List.length_map, Nat.mul_one], .inr ⟨gb, cap, arr2, by rw [← hil'.out], hbg, hq2, by rw [← hil'.out]; omega, hc2, by omega, ?_⟩⟩, hW2⟩
      rw [← hil'.out, Nat.mul_one, flatMap_strC, ← hpre'.out]
      apply List.ext_getElem?
      intro m
      rw [List.getElem?_take, List.getElem?_take]
      split
      · have := hpr2 m (by assumption)
        simpa using this
      · rfl
end Go.Proofs.YtbgilebgdbgddaaGreatDoor
