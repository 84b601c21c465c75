/- Walks of package lex's functions over one word: what they compute. No condition. -/
import Derived.Test.YtbgilebgdbgddaaGreatDoorBas
import Derived.Test.YtbgilebgdbgddaaGreatDoorShelf
import Derived.Shelf.Strings.SlTrimAscii
set_option linter.unusedVariables false
set_option linter.unusedSimpArgs false
namespace Go.Proofs.YtbgilebgdbgddaaGreatDoor
open Go.RowKit
def plainC (c : Nat) : Bool := c == 9 || (decide (32 ≤ c) && decide (c ≤ 126))
def plainB (s : ByteArray) : Bool := s.data.toList.all fun b => plainC b.toNat
def letterN (c : Nat) : Bool := (decide (97 ≤ c) && decide (c ≤ 122)) || (decide (65 ≤ c) && decide (c ≤ 90))
def nameC (i : Nat) (c : Nat) : Bool := letterN c || (i != 0 && (c == 95 || (decide (48 ≤ c) && decide (c ≤ 57))))
def nameFrom (i : Nat) : List UInt8 → Bool
  | [] => true
  | b :: l => nameC i b.toNat && nameFrom (i + 1) l
def isNameB (s : ByteArray) : Bool := s.size != 0 && decide (s.size ≤ 16) && nameFrom 0 s.data.toList

theorem bel_iter (w : World) (s : ByteArray) (p : Nat) : Bel w (w.iter s p) :=
  (Bel.refl w).alloc (.stringIter s p)

theorem take_succ_all (s : ByteArray) (p : Nat) (h : p < s.size) (f : UInt8 → Bool) : (s.data.toList.take (p + 1)).all f = ((s.data.toList.take p).all f && f s[p]) := by
  have h' : p < s.data.toList.length := by rw [Array.length_toList]; exact h
  rw [List.take_succ_eq_append_getElem h', List.all_append]
  simp; rfl

theorem all_of_bad (s : ByteArray) (p : Nat) (h : p < s.size) (f : UInt8 → Bool) (hf : f s[p] = false) : s.data.toList.all f = false := by
  have h' : p < s.data.toList.length := by rw [Array.length_toList]; exact h
  rw [List.all_eq_false]
  exact ⟨s[p], by simp [ByteArray.getElem_eq_getElem_data], by simp [hf]⟩

theorem strNe {s : ByteArray} (h : ¬ s.size = 0) : ¬ s.toList = [] ∧ s.toList.isEmpty = false := by
  have e : s.toList.length = s.size := by rw [ByteArray.toList_eq, Array.length_toList]; rfl
  have h1 : ¬ s.toList = [] := fun h' => h (by rw [← e, h']; rfl)
  exact ⟨h1, by simpa using h1⟩
theorem strNil {s : ByteArray} (h : s.size = 0) : s = ⟨#[]⟩ := by
  cases s with | mk d => simp [ByteArray.size] at h; subst h; rfl

set_option maxHeartbeats 1000000 in
theorem plain_any (s : ByteArray) (w : World) (hs : s.size ≤ 9223372036854775807) :
    Calls Tryz.prog 201 #[.string s] w fun e w' => e = .returned (.bool (plainB s)) ∧ Bel w w' := by
  go_enter Tryz.func201, Tryz.ntmps201
  go_wp2
  go_loopw [4] (fun _ wr => ∃ p : Nat, p ≤ s.size ∧ wr = w.iter s p ∧ (s.data.toList.take p).all (fun b => plainC b.toNat) = true) (fun _ wr => s.size - wr.iterPos w.heap.size)
  case atStart => exact ⟨0, Nat.zero_le _, rfl, by simp⟩
  case round =>
    obtain ⟨p, hp, rfl, hall⟩ := hrel
    have Hall := Lib.hid hall; clear hall
    by_cases hlt : p < s.size
    · by_cases ha : (s[p]'hlt).toNat < 128
      · have hn := run_next_any (P := Tryz.prog) w s p 0 hlt
        rw [decode_ascii s p hlt ha] at hn
        have HT := Lib.hid (take_succ_all s p hlt (fun b => plainC b.toNat))
        have HB := Lib.hid (all_of_bad s p hlt (fun b => plainC b.toNat))
        generalize hb : (s[p]'hlt) = b at *
        have Hb := Lib.hid hb; clear hb
        simp only [] at hn
        by_cases h9 : b.toNat = 9
        · have d9 : (((b.toNat : Nat) : Int) != 9) = false := by simp [h9]
          rw [h9] at hn ha
          go_wp2
          go_roundw
          case rel => exact ⟨p + 1, by omega, rfl, by rw [HT.out, Hall.out]; simp [plainC, h9]⟩
          case measure => simp; omega
        · have d9 : (((b.toNat : Nat) : Int) != 9) = true := by simp; omega
          by_cases h32 : b.toNat < 32
          · have d32 : (((b.toNat : Nat) : Int) < 32) := by omega
            go_wp2
            go_ret
            exact ⟨by rw [plainB, HB.out (by simp [plainC]; omega)]; rfl, bel_iter _ _ _⟩
          · have d32 : ¬ (((b.toNat : Nat) : Int) < 32) := by omega
            by_cases h126 : 126 < b.toNat
            · have d126 : (126 : Int) < ((b.toNat : Nat) : Int) := by omega
              go_wp2
              go_ret
              exact ⟨by rw [plainB, HB.out (by simp [plainC]; omega)]; rfl, bel_iter _ _ _⟩
            · have d126 : ¬ (126 : Int) < ((b.toNat : Nat) : Int) := by omega
              go_wp2
              go_roundw
              case rel => exact ⟨p + 1, by omega, rfl, by rw [HT.out, Hall.out]; simp [plainC]; omega⟩
              case measure => simp; omega
      · have hd := decode_high s p hlt (by omega)
        have hn := run_next_any (P := Tryz.prog) w s p 0 hlt
        have HB := Lib.hid (all_of_bad s p hlt (fun b => plainC b.toNat) (by simp [plainC]; omega))
        have hle := decode_le s p
        generalize (Utf8.decode s p).1 = r at *
        generalize (Utf8.decode s p).2 = k at *
        obtain ⟨h1, h2⟩ := hd
        have d9 : (((r : Nat) : Int) != 9) = true := by simp; omega
        have d32 : ¬ (((r : Nat) : Int) < 32) := by omega
        have d126 : (126 : Int) < ((r : Nat) : Int) := by omega
        go_wp2
        go_ret
        exact ⟨by rw [plainB, HB.out]; rfl, bel_iter _ _ _⟩
    · have hn := run_next_end (P := Tryz.prog) w s p 0 hlt
      go_wp2
      go_ret
      refine ⟨?_, bel_iter _ _ _⟩
      have := Hall.out
      rw [List.take_of_length_le (by rw [Array.length_toList]; show s.size ≤ p; omega)] at this
      rw [plainB, this]; rfl

theorem letter_any (c : Nat) (w : World) :
    Calls Tryz.prog 176 #[.int .i32 c] w fun e w' => e = .returned (.bool (letterN c)) ∧ w = w' := by
  go_enter Tryz.func176, Tryz.ntmps176
  go_wp2
  all_goals go_ret
  all_goals refine ⟨?_, rfl⟩
  all_goals simp [letterN]
  all_goals (first | done | omega | grind)

theorem nameFrom_snoc (l : List UInt8) (b : UInt8) : ∀ i, nameFrom i (l ++ [b]) = (nameFrom i l && nameC (i + l.length) b.toNat) := by
  induction l with
  | nil => intro i; simp [nameFrom]
  | cons a l ih => intro i; simp [nameFrom, ih, Bool.and_assoc, Nat.add_assoc, Nat.add_comm 1]
theorem nameFrom_take (s : ByteArray) (p : Nat) (h : p < s.size) : nameFrom 0 (s.data.toList.take (p + 1)) = (nameFrom 0 (s.data.toList.take p) && nameC p s[p].toNat) := by
  have h' : p < s.data.toList.length := by rw [Array.length_toList]; exact h
  rw [List.take_succ_eq_append_getElem h', nameFrom_snoc]
  simp [List.length_take]
  have : min p s.size = p := by omega
  rw [this]; rfl
theorem nameFrom_prefix (l r : List UInt8) : ∀ i, nameFrom i (l ++ r) = true → nameFrom i l = true := by
  induction l with
  | nil => intro i _; rfl
  | cons a l ih => intro i h; simp [nameFrom] at h ⊢; exact ⟨h.1, ih _ h.2⟩
theorem nameFrom_bad (s : ByteArray) (p : Nat) (h : p < s.size) (hb : nameC p s[p].toNat = false) : nameFrom 0 s.data.toList = false := by
  rw [Bool.eq_false_iff]
  intro ht
  rw [← List.take_append_drop (p + 1) s.data.toList] at ht
  have := nameFrom_prefix _ _ _ ht
  rw [nameFrom_take s p h, hb] at this
  simp at this

theorem decode_name (s : ByteArray) (p : Nat) (hlt : p < s.size) : ∃ r k, Utf8.decode s p = (r, k) ∧ r ≤ 2147483647 ∧ nameC p r = nameC p s[p].toNat ∧ ((s[p]'hlt).toNat < 128 → k = 1) ∧ (¬ (s[p]'hlt).toNat < 128 → nameC p r = false) := by
  have hle := decode_le s p
  by_cases ha : (s[p]'hlt).toNat < 128
  · rw [decode_ascii s p hlt ha] at hle ⊢
    exact ⟨_, _, rfl, hle, rfl, fun _ => rfl, fun h => absurd ha h⟩
  · have hd := decode_high s p hlt (by omega)
    generalize Utf8.decode s p = q at *
    obtain ⟨r, k⟩ := q
    dsimp only at hd hle
    have b1 : nameC p r = false := by
      have := hd.1
      simp [nameC, letterN]; omega
    refine ⟨_, _, rfl, hle, ?_, fun h => absurd h ha, fun _ => b1⟩
    rw [b1]; simp [nameC, letterN]; omega
set_option maxHeartbeats 2000000 in
theorem isName_any (s : ByteArray) (w : World) (hs : s.size ≤ 9223372036854775807) :
    Calls Tryz.prog 144 #[.string s] w fun e w' => e = .returned (.bool (isNameB s)) ∧ Bel w w' := by
  by_cases h0 : s.size = 0
  · have hz : s = ⟨#[]⟩ := by
      cases s with | mk d => simp [ByteArray.size] at h0; subst h0; rfl
    subst hz
    go_enter Tryz.func144, Tryz.ntmps144
    go_wp2
    go_ret
    exact ⟨rfl, Bel.refl _⟩
  obtain ⟨e0, e1⟩ := strNe h0
  by_cases h16 : 16 < s.size
  · have e2 : (16 : Int) < (s.size : Int) := by omega
    have HF := Lib.hid (show isNameB s = false by simp [isNameB]; omega)
    clear h0
    go_enter Tryz.func144, Tryz.ntmps144
    go_wp2
    go_ret
    exact ⟨by rw [HF.out]; rfl, Bel.refl _⟩
  have e2 : ¬ (16 : Int) < (s.size : Int) := by omega
  have HF := Lib.hid (show isNameB s = nameFrom 0 s.data.toList by
    have hle : s.size ≤ 16 := by omega
    simp [isNameB, h0, hle])
  clear h0
  go_enter Tryz.func144, Tryz.ntmps144
  go_wp2
  go_loopw [4] (fun _ wr => ∃ p : Nat, p ≤ s.size ∧ wr = w.iter s p ∧ nameFrom 0 (s.data.toList.take p) = true) (fun _ wr => s.size - wr.iterPos w.heap.size)
  case atStart => exact ⟨0, Nat.zero_le _, rfl, by simp [nameFrom]⟩
  case round =>
    obtain ⟨p, hp, rfl, hall⟩ := hrel
    have Hall := Lib.hid hall; clear hall
    by_cases hlt : p < s.size
    · have HT := Lib.hid (nameFrom_take s p hlt)
      have HB := Lib.hid (nameFrom_bad s p hlt)
      have hn := run_next_any (P := Tryz.prog) w s p 0 hlt
      obtain ⟨r, k, hrk, hle, hc, hk1, hbad⟩ := decode_name s p hlt
      rw [hrk] at hn
      have Hc := Lib.hid hc
      have Hk := Lib.hid hk1
      have Hbad := Lib.hid hbad
      clear hc hk1 hbad hrk
      generalize (s[p]'hlt) = b at *
      dsimp only at hn
      generalize hl : letterN r = L at *
      have HL := Lib.hid hl; clear hl
      have hcall := letter_any r
      cases L
      · by_cases hp0 : p = 0
        · subst hp0
          go_wp2_with (go_at_call 176; refine (letter_any r _).mono ?_; rintro e w1 ⟨rfl, rfl⟩; rw [HL.out])
          go_ret
          exact ⟨by rw [HF.out, HB.out (by rw [← Hc.out]; simp [nameC, HL.out])]; rfl, bel_iter _ _ _⟩
        · have hpz : ((p : Int) == 0) = false := by simp; omega
          by_cases h95 : r = 95
          · subst h95
            go_wp2_with (go_at_call 176; refine (letter_any 95 _).mono ?_; rintro e w1 ⟨rfl, rfl⟩; rw [HL.out])
            go_roundw
            case rel =>
              have hok : nameC p 95 = true := by simp [nameC]; omega
              have h128 : b.toNat < 128 := by
                rcases Nat.lt_or_ge b.toNat 128 with h | h
                · exact h
                · rw [Hbad.out (by omega)] at hok; simp at hok
              exact ⟨p + 1, by omega, by rw [Hk.out h128], by rw [HT.out, Hall.out, ← Hc.out, hok]; rfl⟩
            case measure => 
              have hok : nameC p 95 = true := by simp [nameC]; omega
              have h128 : b.toNat < 128 := by
                rcases Nat.lt_or_ge b.toNat 128 with h | h
                · exact h
                · rw [Hbad.out (by omega)] at hok; simp at hok
              rw [Hk.out h128]; simp; omega
          · have d95 : (((r : Nat) : Int) != 95) = true := by simp; omega
            by_cases h48 : r < 48
            · have d48 : ((r : Nat) : Int) < 48 := by omega
              go_wp2_with (go_at_call 176; refine (letter_any r _).mono ?_; rintro e w1 ⟨rfl, rfl⟩; rw [HL.out])
              go_ret
              exact ⟨by rw [HF.out, HB.out (by rw [← Hc.out]; simp [nameC, HL.out]; omega)]; rfl, bel_iter _ _ _⟩
            · have d48 : ¬ ((r : Nat) : Int) < 48 := by omega
              by_cases h57 : 57 < r
              · have d57 : (57 : Int) < ((r : Nat) : Int) := by omega
                go_wp2_with (go_at_call 176; refine (letter_any r _).mono ?_; rintro e w1 ⟨rfl, rfl⟩; rw [HL.out])
                go_ret
                exact ⟨by rw [HF.out, HB.out (by rw [← Hc.out]; simp [nameC, HL.out]; omega)]; rfl, bel_iter _ _ _⟩
              · have d57 : ¬ (57 : Int) < ((r : Nat) : Int) := by omega
                have hok : nameC p r = true := by simp [nameC]; omega
                have h128 : b.toNat < 128 := by
                  rcases Nat.lt_or_ge b.toNat 128 with h | h
                  · exact h
                  · rw [Hbad.out (by omega)] at hok; simp at hok
                have Hok := Lib.hid hok; clear hok
                go_wp2_with (go_at_call 176; refine (letter_any r _).mono ?_; rintro e w1 ⟨rfl, rfl⟩; rw [HL.out])
                go_roundw
                case rel => exact ⟨p + 1, by omega, by rw [Hk.out h128], by rw [HT.out, Hall.out, ← Hc.out, Hok.out]; rfl⟩
                case measure => rw [Hk.out h128]; simp; omega
      · have hok : nameC p r = true := by simp [nameC, HL.out]
        have h128 : b.toNat < 128 := by
          rcases Nat.lt_or_ge b.toNat 128 with h | h
          · exact h
          · rw [Hbad.out (by omega)] at hok; simp at hok
        have Hok := Lib.hid hok; clear hok
        go_wp2_with (go_at_call 176; refine (letter_any r _).mono ?_; rintro e w1 ⟨rfl, rfl⟩; rw [HL.out])
        go_roundw
        case rel => exact ⟨p + 1, by omega, by rw [Hk.out h128], by rw [HT.out, Hall.out, ← Hc.out, Hok.out]; rfl⟩
        case measure => rw [Hk.out h128]; simp; omega
    · have hn := run_next_end (P := Tryz.prog) w s p 0 hlt
      go_wp2
      go_ret
      refine ⟨?_, bel_iter _ _ _⟩
      have := Hall.out
      rw [List.take_of_length_le (by rw [Array.length_toList]; show s.size ≤ p; omega)] at this
      rw [HF.out, this]; rfl
end Go.Proofs.YtbgilebgdbgddaaGreatDoor
/- Words of digits: strconv.Atoi at them, strings.Trim at the digits; the words' plain laws. No condition. -/
namespace Go.Proofs.YtbgilebgdbgddaaGreatDoor
open Go.RowKit

/-- What the walks read of package-level variables. -/
structure Env (w : World) : Prop where
  maxLen : ∃ m, w.cell? ⟨3, 0, none⟩ = some (.int .i64 m)
  letter : ∀ j u, ([.string ⟨#[73]⟩, .string ⟨#[81]⟩, .string ⟨#[77]⟩] : List Value)[j]? = some u → w.cell? ⟨2, j, none⟩ = some u
  contacts : ∀ j u, ([.string ⟨#[110, 111]⟩, .string ⟨#[110, 99]⟩, .string ⟨#[117, 112]⟩, .string ⟨#[100, 111, 119, 110]⟩] : List Value)[j]? = some u → w.cell? ⟨0, j, none⟩ = some u
  coils : ∀ j u, ([.string ⟨#[111, 117, 116]⟩, .string ⟨#[110, 111, 116]⟩, .string ⟨#[115, 101, 116]⟩, .string ⟨#[114, 101, 115, 101, 116]⟩] : List Value)[j]? = some u → w.cell? ⟨1, j, none⟩ = some u
  writes : ∀ j u, ([.int .i64 11, .int .i64 12, .int .i64 13, .int .i64 14] : List Value)[j]? = some u → w.cell? ⟨6, j, none⟩ = some u
  loads : ∀ j u, ([.int .i64 0, .int .i64 1, .int .i64 6, .int .i64 7] : List Value)[j]? = some u → w.cell? ⟨10, j, none⟩ = some u
  joins : ∀ j u, ([.int .i64 0, .int .i64 0, .int .i64 2, .int .i64 3, .int .i64 4, .int .i64 5] : List Value)[j]? = some u → w.cell? ⟨11, j, none⟩ = some u
  pops : ∀ j u, ([.int .i64 0, .int .i64 9, .int .i64 10] : List Value)[j]? = some u → w.cell? ⟨12, j, none⟩ = some u
  errRange : ∃ t p, w.cell? ⟨14, 0, none⟩ = some (.iface t p)
  space : Lib.TabIs Tryz.prog w "strings.asciiSpace" .u8 Lib.asciiSpaceTab
  size : 18 ≤ w.heap.size
theorem g5 : Tryz.prog.globalNamed "strings.asciiSpace" = some 5 := by kernel_rfl
theorem Env.bel {w w' : World} (h : Env w) (hb : Bel w w') : Env w' where
  maxLen := let ⟨m, hm⟩ := h.maxLen; ⟨m, hb.cell hm⟩
  letter := fun j u hu => hb.cell (h.letter j u hu)
  contacts := fun j u hu => hb.cell (h.contacts j u hu)
  coils := fun j u hu => hb.cell (h.coils j u hu)
  writes := fun j u hu => hb.cell (h.writes j u hu)
  loads := fun j u hu => hb.cell (h.loads j u hu)
  joins := fun j u hu => hb.cell (h.joins j u hu)
  pops := fun j u hu => hb.cell (h.pops j u hu)
  errRange := let ⟨t, p, hm⟩ := h.errRange; ⟨t, p, hb.cell hm⟩
  space := by
    have hs := h.space
    unfold Lib.TabIs World.var? at hs ⊢
    rw [g5] at hs ⊢
    simp only [Option.bind_some] at hs ⊢
    rw [hb.block 5 (by have := h.size; omega)]
    exact hs
  size := Nat.le_trans h.size hb.size

def digC (b : UInt8) : Bool := decide (48 ≤ b.toNat) && decide (b.toNat ≤ 57)
def digB (s : ByteArray) : Bool := s.data.toList.all digC
def decV (acc : Nat) : List UInt8 → Nat
  | [] => acc
  | b :: l => decV (acc * 10 + (b.toNat - 48)) l
/-- A word that is a decimal number in its one form. -/
def numB (s : ByteArray) : Bool := s.size != 0 && digB s && !(decide (1 < s.size) && (s.get! 0).toNat == 48)

theorem decV_ge (l : List UInt8) : ∀ acc, acc ≤ decV acc l := by
  induction l with
  | nil => intro acc; exact Nat.le_refl _
  | cons b l ih => intro acc; exact Nat.le_trans (by omega) (ih _)

theorem parse_dig (l : List UInt8) : ∀ acc, l.all digC = true → (Lib.parseUint10 acc l = .ok (decV acc l)) ∨ (Lib.parseUint10 acc l = .range ∧ 18446744073709551616 ≤ decV acc l) := by
  induction l with
  | nil => intro acc _; exact .inl rfl
  | cons b l ih =>
    intro acc h
    simp only [List.all_cons, Bool.and_eq_true] at h
    obtain ⟨hb, hl⟩ := h
    have hb' : 48 ≤ b.toNat ∧ b.toNat ≤ 57 := by simpa [digC] using hb
    have hge := decV_ge l (acc * 10 + (b.toNat - 48))
    have e1 : decV acc (b :: l) = decV (acc * 10 + (b.toNat - 48)) l := rfl
    rw [e1]
    have ihh := ih (acc * 10 + (b.toNat - 48)) hl
    unfold Lib.parseUint10
    rw [if_pos hb']
    generalize decV (acc * 10 + (b.toNat - 48)) l = D at *
    generalize Lib.parseUint10 (acc * 10 + (b.toNat - 48)) l = R at *
    by_cases h1 : 1844674407370955162 ≤ acc
    · rw [if_pos h1]
      exact Or.inr ⟨rfl, by omega⟩
    · rw [if_neg h1]
      by_cases h2 : 18446744073709551616 ≤ acc * 10 + (b.toNat - 48)
      · rw [if_pos h2]
        exact Or.inr ⟨rfl, by omega⟩
      · rw [if_neg h2]
        exact ihh

theorem atoi_dig (l : List UInt8) (hne : l ≠ []) (h : l.all digC = true) :
    (Lib.atoiAll l = .ok (decV 0 l : Int) ∧ decV 0 l < 9223372036854775808) ∨ (Lib.atoiAll l = .range ∧ 9223372036854775808 ≤ decV 0 l) := by
  cases l with
  | nil => exact absurd rfl hne
  | cons b l =>
    have hb : digC b = true := by simp only [List.all_cons, Bool.and_eq_true] at h; exact h.1
    have hb' : 48 ≤ b.toNat ∧ b.toNat ≤ 57 := by simpa [digC] using hb
    have h43 : ¬ (b.toNat = 43 ∨ b.toNat = 45) := by omega
    have h45 : ¬ b.toNat = 45 := by omega
    simp only [Lib.atoiAll, if_neg h43, Lib.parseMag]
    rw [if_neg (by simp)]
    rcases parse_dig (b :: l) 0 h with hp | ⟨hp, hg⟩
    · rw [hp]
      simp only [h45, not_false_eq_true, true_and, false_and, if_false]
      split
      · exact .inr ⟨rfl, by omega⟩
      · exact .inl ⟨rfl, by omega⟩
    · rw [hp]
      exact .inr ⟨rfl, by omega⟩

def digSet : List UInt8 := [48, 49, 50, 51, 52, 53, 54, 55, 56, 57]
theorem dig_contains (b : UInt8) : digSet.contains b = digC b := by
  have : ∀ n : Fin 256, digSet.contains (UInt8.ofNat n.val) = digC (UInt8.ofNat n.val) := by decide +kernel
  have h := this ⟨b.toNat, b.toNat_lt⟩
  simpa using h
theorem dropWhile_nil {α : Type} (p : α → Bool) (l : List α) : l.dropWhile p = [] ↔ l.all p = true := by
  induction l with
  | nil => simp
  | cons a l ih =>
    rw [List.dropWhile_cons]
    cases h : p a <;> simp [h, ih]
theorem dropWhile_all {α : Type} (p : α → Bool) (l : List α) (h : l.dropWhile p ≠ []) : ¬ (l.dropWhile p).all p = true := by
  induction l with
  | nil => simp at h
  | cons a l ih =>
    rw [List.dropWhile_cons] at h ⊢
    cases hp : p a
    · simp [hp]
    · simp only [hp, if_true] at h ⊢
      exact ih h
theorem trim_nil (l : List UInt8) : Lib.trimS l digSet = [] ↔ l.all digC = true := by
  unfold Lib.trimS Lib.trimLeftS Lib.trimRightS
  have e : (fun x => digSet.contains x) = digC := funext dig_contains
  simp only [e]
  rw [dropWhile_nil]
  constructor
  · intro h
    rw [List.all_reverse] at h
    rcases Classical.em (l.reverse.dropWhile digC = []) with h' | h'
    · rw [dropWhile_nil, List.all_reverse] at h'
      exact h'
    · exact absurd h (dropWhile_all _ _ h')
  · intro h
    have : l.reverse.dropWhile digC = [] := by rw [dropWhile_nil, List.all_reverse]; exact h
    rw [this]; rfl
theorem trim_len (l : List UInt8) : ((⟨(Lib.trimS l digSet).toArray⟩ : ByteArray).toList == []) = l.all digC := by
  rw [ByteArray.toList_mk, Bool.eq_iff_iff, beq_iff_eq]
  exact trim_nil l

/-- strings.Trim(s, digits). -/
theorem trim_dig (s : ByteArray) (w : World) (hs : s.size ≤ 9223372036854775807) :
    Calls Tryz.prog 242 #[.string s, .string ⟨#[48, 49, 50, 51, 52, 53, 54, 55, 56, 57]⟩] w fun e w' => ∃ t : ByteArray, e = .returned (.string t) ∧ (t.toList = [] ↔ digB s = true) ∧ Bel w w' :=
  (Any.strings_Trim_laid Tryz.lays160 (by kernel_rfl) s ⟨#[48, 49, 50, 51, 52, 53, 54, 55, 56, 57]⟩ w hs (by decide) (ascii_of_all (by decide))).mono fun e w' ⟨he, hb⟩ =>
    ⟨_, he, by rw [ByteArray.toList_mk]; exact trim_nil _, hb⟩
/-- strconv.Atoi at a word of digits: how the comparison with a bound goes. -/
theorem atoi_any (s : ByteArray) (w : World) (hs : s.size ≤ 140737488355328) (h0 : ¬ s.size = 0) (hd : digB s = true) (hE : Env w) :
    Calls Tryz.prog 243 #[.string s] w fun e w' => (∃ v er, e = .returned (.tuple #[.int .i64 v, er]) ∧ ((v = (decV 0 s.data.toList : Int) ∧ er = .nilIface ∧ decV 0 s.data.toList < 9223372036854775808) ∨ (∃ t p, er = .iface t p) ∧ 9223372036854775808 ≤ decV 0 s.data.toList)) ∧ Bel w w' := by
  have hne : s.data.toList ≠ [] := fun h => h0 (by rw [Lib.size_eq, h]; rfl)
  rcases atoi_dig s.data.toList hne hd with ⟨ha, hl⟩ | ⟨ha, hl⟩
  · refine (Tryz.strconv_Atoi_ok s (by omega) _ ha w).mono fun e w' ⟨he, hw⟩ => ⟨⟨_, _, he, .inl ⟨rfl, rfl, hl⟩⟩, ?_⟩
    rcases hw with rfl | ⟨t, rfl⟩
    · exact Bel.refl _
    · exact ⟨rfl, rfl, rfl, by rw [Lib.bytesWorld_size]; omega, fun i hi => Lib.bytesWorld_at_old w 5 t i hi⟩
  · obtain ⟨t, p, hc⟩ := hE.errRange
    exact (Tryz.strconv_Atoi_range s (by omega) ha _ w hc (.inr ⟨t, p, rfl⟩)).mono fun e w' ⟨N, he, _, _, hb⟩ => ⟨⟨_, _, he, .inr ⟨⟨_, _, rfl⟩, hl⟩⟩, hb⟩
theorem atoi_small (s : ByteArray) (w : World) (hs : s.size ≤ 140737488355328) (h0 : ¬ s.size = 0) (hd : digB s = true) (hlt : decV 0 s.data.toList < 9223372036854775808) :
    Calls Tryz.prog 243 #[.string s] w fun e w' => e = .returned (.tuple #[.int .i64 (decV 0 s.data.toList), .nilIface]) ∧ Bel w w' := by
  have hne : s.data.toList ≠ [] := fun h => h0 (by rw [Lib.size_eq, h]; rfl)
  rcases atoi_dig s.data.toList hne hd with ⟨ha, hl⟩ | ⟨ha, hl⟩
  · refine (Tryz.strconv_Atoi_ok s (by omega) _ ha w).mono fun e w' ⟨he, hw⟩ => ⟨he, ?_⟩
    rcases hw with rfl | ⟨t, rfl⟩
    · exact Bel.refl _
    · exact ⟨rfl, rfl, rfl, by rw [Lib.bytesWorld_size]; omega, fun i hi => Lib.bytesWorld_at_old w 5 t i hi⟩
  · omega
end Go.Proofs.YtbgilebgdbgddaaGreatDoor
