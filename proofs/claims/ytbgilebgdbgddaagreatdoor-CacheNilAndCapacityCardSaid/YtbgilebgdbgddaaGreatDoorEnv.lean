/- The row's listed variables give what the walks read. -/
import Derived.Test.YtbgilebgdbgddaaGreatDoorLex
import Derived.Test.YtbgilebgdbgddaaGreatDoorRows
import Derived.ProofKit
import Derived.OpenShut
import Derived.LaidSub
import Derived.LaidLaws
import Derived.MakeChecks
import Derived.Lib.LaidTab
set_option linter.unusedVariables false
set_option linter.unusedSimpArgs false
namespace Go.Proofs.YtbgilebgdbgddaaGreatDoor
open Go.RowKit
theorem cells_of_strs {H : Type} {enc : TypeId × Value → H} {P : Program} {w : World} {base : Nat} {sp : Nat → Bool} {held : Bool} {fuel : Nat} {t e : TypeId} {n : Nat} {cs : List Value} {zs : List (List UInt8)} {p : List MemPlace}
    (ht : P.underlying t = some (.array n e)) (he : P.underlying e = some .string) (hce : P.cellsOf e = 1) (hct : P.cellsOf t = n)
    (h : DataW.trod enc P w base sp held fuel t cs = some (.agg (zs.map fun z => .lit (.string z)), p)) : cs = zs.map fun z => Value.string ⟨z.toArray⟩ := by
  obtain ⟨xs, m, _, ex, hl, hxl, hel⟩ := DataW.trod_array ht h
  rw [hct] at hl
  have hxs : xs.map (·.1) = zs.map fun z => (DataW.lit (.string z) : DataW H) := (DataW.agg.inj (Prod.mk.inj ex).1).symm
  have hzl : zs.length = n := by
    have := congrArg List.length hxs
    simp at this
    omega
  apply List.ext_getElem?
  intro i
  by_cases hi : i < n
  · have hE := hel i hi
    rw [hce, Nat.mul_one, List.getElem?_eq_getElem (by omega)] at hE
    obtain ⟨s, e1, e2, _⟩ := DataW.trod_string he hE
    have h1 : cs[i]? = some (.string s) := by
      have := congrArg (·[0]?) e1
      simpa [List.getElem?_take, List.getElem?_drop] using this
    have h2 : (xs.map (·.1))[i]? = some (DataW.lit (.string s.data.toList) : DataW H) := by
      rw [List.getElem?_map, List.getElem?_eq_getElem (by omega), e2]; rfl
    rw [hxs] at h2
    simp only [List.getElem?_map, Option.map_eq_some_iff, DataW.lit.injEq, Lit.string.injEq] at h2
    obtain ⟨z', hz', rfl⟩ := h2
    rw [h1, List.getElem?_map, hz']
    rfl
  · rw [List.getElem?_eq_none (by omega), List.getElem?_eq_none (by simp; omega)]
/-- One listed variable. -/
theorem laid_one {W : World} {laid : List (String × DataW Unit)} {name : String} {d : DataW Unit} {g : Nat} {t : TypeId} (h : laidMetH Tryz.prog laid W) (hp : (laid.all fun x => x.2.handleName?.isNone) = true)
    (hk : laid.filter (fun x => x.1 == name) = [(name, d)]) (hg : Tryz.prog.globalNamed name = some g) (ht : (Tryz.prog.globals[g]?).map (·.type) = some t) :
    ∃ cs fuel p, W.var? Tryz.prog name = some cs ∧ DataW.trod (fun _ => ()) Tryz.prog W 0 (fun _ => true) false fuel t cs.toList = some (d, p) := by
  rw [MakeChecks.laidMetH_plain _ _ _ hp] at h
  have h1 := h.filter (fun x => x.1 == name)
  rw [hk] at h1
  obtain ⟨ps, ⟨g', t', cs, fuel, p, q, hg', ht', hv, hd, _, _⟩, _⟩ := h1
  obtain rfl := Option.some.inj (hg.symm.trans hg')
  obtain rfl := Option.some.inj (ht.symm.trans ht')
  exact ⟨cs, fuel, p, hv, hd⟩
theorem ty0 : (Tryz.prog.globals[0]?).map (·.type) = some 205 := by kernel_rfl
theorem ty1 : (Tryz.prog.globals[1]?).map (·.type) = some 205 := by kernel_rfl
theorem ty2 : (Tryz.prog.globals[2]?).map (·.type) = some 208 := by kernel_rfl
theorem ty3 : (Tryz.prog.globals[3]?).map (·.type) = some 3 := by kernel_rfl
theorem ty5 : (Tryz.prog.globals[5]?).map (·.type) = some 322 := by kernel_rfl
theorem ty6 : (Tryz.prog.globals[6]?).map (·.type) = some 338 := by kernel_rfl
theorem ty10 : (Tryz.prog.globals[10]?).map (·.type) = some 338 := by kernel_rfl
theorem ty11 : (Tryz.prog.globals[11]?).map (·.type) = some 403 := by kernel_rfl
theorem ty12 : (Tryz.prog.globals[12]?).map (·.type) = some 237 := by kernel_rfl
theorem gs18 : Tryz.prog.globals.size = 18 := by kernel_rfl
theorem ty14 : (Tryz.prog.globals[14]?).map (·.type) = some 166 := by kernel_rfl
theorem un205 : Tryz.prog.underlying 205 = some (.array 4 9) := by kernel_rfl
theorem un208 : Tryz.prog.underlying 208 = some (.array 3 9) := by kernel_rfl
theorem un322 : Tryz.prog.underlying 322 = some (.array 256 5) := by kernel_rfl
theorem un338 : Tryz.prog.underlying 338 = some (.array 4 3) := by kernel_rfl
theorem un403 : Tryz.prog.underlying 403 = some (.array 3 85) := by kernel_rfl
theorem un85 : Tryz.prog.underlying 85 = some (.array 2 3) := by kernel_rfl
theorem un237 : Tryz.prog.underlying 237 = some (.array 3 3) := by kernel_rfl
theorem un5 : Tryz.prog.underlying 5 = some (.int .u8) := by kernel_rfl
theorem un166 : ∃ ms, Tryz.prog.underlying 166 = some (.interface ms) := ⟨_, Tryz.underlying166⟩
theorem var_cells {W : World} {name : String} {cs : Array Value} {g : Nat} {l : List Value} (hg : Tryz.prog.globalNamed name = some g) (hv : W.var? Tryz.prog name = some cs) (hl : cs.toList = l) : ∀ j u, l[j]? = some u → W.cell? ⟨g, j, none⟩ = some u := by
  intro j u hu
  subst hl
  rw [World.var?_cell hg hv j]
  simpa using hu
def CapL : List (String × DataW Unit) := Rows.cacheNilAndCapacityRow.laid
theorem capl_plain : (CapL.all fun x => x.2.handleName?.isNone) = true := by kernel_rfl
theorem row17 : ∃ z t, ((((begin Tryz.prog (fun _ _ => 0) default).world).heap[17]?).bind Obj.row?) = some (z, t) := by
  have h : ((((begin Tryz.prog (fun _ _ => 0) default).world).heap[17]?).bind Obj.row?).isSome = true := by kernel_rfl
  obtain ⟨x, hx⟩ := Option.isSome_iff_exists.1 h
  exact ⟨x.1, x.2, hx⟩
set_option maxRecDepth 100000 in
theorem env_of {W : World} (h : laidMetH Tryz.prog CapL W) (hs : W.ShapedOpen Tryz.prog) : Env W where
  maxLen := by
    obtain ⟨cs, h1, h2, h3⟩ := hs.1 3 #[.int .i64 0] 3 (by rw [gs18]; omega) (by kernel_rfl)
    obtain ⟨ts, h4, _, h5⟩ := h3 (by kernel_rfl)
    obtain rfl : ts = [3] := Option.some.inj (h4.symm.trans (by kernel_rfl))
    have hz : cs.size = 1 := h2
    obtain ⟨u, h6, h7⟩ := h5 0 cs[0] (by simp)
    obtain rfl : u = 3 := by simpa using h6.symm
    have hb : Blk W 3 cs 3 := h1
    have hc := hb.cell 0 (v := cs[0]) (by simp)
    rw [hc]
    unfold Cell.ok at h7
    rw [Tryz.underlying3] at h7
    generalize cs[0] = v at h7
    cases v <;> simp at h7
    obtain ⟨rfl, _⟩ := h7
    exact ⟨_, rfl⟩
  letter := by
    obtain ⟨cs, f, p, hv, hd⟩ := laid_one (name := "busbar/addr.letters") (d := .agg ([[73], [81], [77]].map fun z => .lit (.string z))) h capl_plain (by kernel_rfl) (by kernel_rfl) ty2
    exact var_cells (by kernel_rfl) hv (cells_of_strs un208 Tryz.underlying9 (by kernel_rfl) (by kernel_rfl) hd)
  contacts := by
    obtain ⟨cs, f, p, hv, hd⟩ := laid_one (name := "busbar/parse.contacts") (d := .agg ([[110, 111], [110, 99], [117, 112], [100, 111, 119, 110]].map fun z => .lit (.string z))) h capl_plain (by kernel_rfl) (by kernel_rfl) ty0
    exact var_cells (by kernel_rfl) hv (cells_of_strs un205 Tryz.underlying9 (by kernel_rfl) (by kernel_rfl) hd)
  coils := by
    obtain ⟨cs, f, p, hv, hd⟩ := laid_one (name := "busbar/parse.coils") (d := .agg ([[111, 117, 116], [110, 111, 116], [115, 101, 116], [114, 101, 115, 101, 116]].map fun z => .lit (.string z))) h capl_plain (by kernel_rfl) (by kernel_rfl) ty1
    exact var_cells (by kernel_rfl) hv (cells_of_strs un205 Tryz.underlying9 (by kernel_rfl) (by kernel_rfl) hd)
  writes := by
    obtain ⟨cs, f, p, hv, hd⟩ := laid_one (name := "busbar/codegen.writes") (d := Lib.tabData .i64 [11, 12, 13, 14]) h capl_plain (by kernel_rfl) (by kernel_rfl) ty6
    exact var_cells (by kernel_rfl) hv (Lib.cells_of_tab un338 Tryz.underlying3 (by kernel_rfl) (by kernel_rfl) hd)
  loads := by
    obtain ⟨cs, f, p, hv, hd⟩ := laid_one (name := "busbar/codegen.loads") (d := Lib.tabData .i64 [0, 1, 6, 7]) h capl_plain (by kernel_rfl) (by kernel_rfl) ty10
    exact var_cells (by kernel_rfl) hv (Lib.cells_of_tab un338 Tryz.underlying3 (by kernel_rfl) (by kernel_rfl) hd)
  joins := by
    obtain ⟨cs, f, p, hv, hd⟩ := laid_one (name := "busbar/codegen.joins") (d := .agg [Lib.tabData .i64 [0, 0], Lib.tabData .i64 [2, 3], Lib.tabData .i64 [4, 5]]) h capl_plain (by kernel_rfl) (by kernel_rfl) ty11
    refine var_cells (by kernel_rfl) hv ?_
    obtain ⟨xs, m, _, ex, hl, hxl, hel⟩ := DataW.trod_array un403 hd
    have c403 : Tryz.prog.cellsOf 403 = 6 := by kernel_rfl
    have c2 : Tryz.prog.cellsOf 85 = 2 := by kernel_rfl
    rw [c403] at hl
    rw [c2] at hel
    have hxs := (DataW.agg.inj (Prod.mk.inj ex).1).symm
    match xs, hxl, hxs, hel with
    | [(d0, p0), (d1, p1), (d2, p2)], _, hxs, hel =>
      simp only [List.map_cons, List.map_nil, List.cons.injEq, and_true] at hxs
      obtain ⟨rfl, rfl, rfl⟩ := hxs
      have e0 := Lib.cells_of_tab un85 Tryz.underlying3 (by kernel_rfl) (by kernel_rfl) (hel 0 (by omega))
      have e1 := Lib.cells_of_tab un85 Tryz.underlying3 (by kernel_rfl) (by kernel_rfl) (hel 1 (by omega))
      have e2 := Lib.cells_of_tab un85 Tryz.underlying3 (by kernel_rfl) (by kernel_rfl) (hel 2 (by omega))
      match hcs : cs.toList, hl, e0, e1, e2 with
      | [a, b, c, d, e, g], _, e0, e1, e2 =>
        simp at e0 e1 e2
        obtain ⟨rfl, rfl⟩ := e0; obtain ⟨rfl, rfl⟩ := e1; obtain ⟨rfl, rfl⟩ := e2
        rfl
  pops := by
    obtain ⟨cs, f, p, hv, hd⟩ := laid_one (name := "busbar/codegen.pops") (d := Lib.tabData .i64 [0, 9, 10]) h capl_plain (by kernel_rfl) (by kernel_rfl) ty12
    exact var_cells (by kernel_rfl) hv (Lib.cells_of_tab un237 Tryz.underlying3 (by kernel_rfl) (by kernel_rfl) hd)
  errRange := by
    obtain ⟨cs, f, p, hv, hd⟩ := laid_one (name := "strconv.ErrRange") (d := Rows.laid_strconv_ErrRange) h capl_plain (by kernel_rfl) (by kernel_rfl) ty14
    obtain ⟨ms, hi⟩ := un166
    obtain ⟨_, u, v, hcs, _⟩ := iface_of_trod hi hd
    exact ⟨u, v, var_cells (by kernel_rfl) hv hcs 0 _ rfl⟩
  space := by
    obtain ⟨cs, f, p, hv, hd⟩ := laid_one (name := "strings.asciiSpace") (d := Lib.tabData .u8 Lib.asciiSpaceTab) h capl_plain (by kernel_rfl) (by kernel_rfl) ty5
    unfold Lib.TabIs
    rw [hv, ← Lib.cells_of_tab un322 un5 (by kernel_rfl) (by kernel_rfl) hd]
  size := by
    obtain ⟨z, t, w17⟩ := row17
    obtain ⟨cs, h1, _⟩ := hs.1 17 z t (by rw [gs18]; omega) w17
    have := (Array.getElem?_eq_some_iff.1 h1).1
    omega
end Go.Proofs.YtbgilebgdbgddaaGreatDoor
