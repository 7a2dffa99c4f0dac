/-
  A part of the proof of SideOrderCardSaid (see the last text, Om): no statement of its own, no condition.
-/
import Derived.Test.YtchgjamonjfjhaaGreatDoorOg
import Derived.Test.YtchgjamonjfjhaaGreatDoorRows
import Derived.ProofKit
import Derived.LaidMore
import Derived.OpenShut
import Derived.Carry
import Derived.Deep.Slices
set_option linter.unusedSimpArgs false
set_option linter.unusedVariables false
section
set_option linter.unusedSimpArgs false
set_option linter.unusedVariables false
set_option maxRecDepth 100000
set_option maxHeartbeats 1000000
namespace Go.Aw
open Go.Proofs Go.So Go.Proofs.YtchgjamonjfjhaaGreatDoor
section
universe u
variable {H : Type} {enc : TypeId × Value → H} {P : Program} {w : World} {base : Nat} {spare : Nat → Bool} {held : Bool}
/-- What a datum of one cell says of the cell. -/
def valD : DataW H → Value
  | .lit (.int k n) => .int k n
  | .lit (.bool b) => .bool b
  | _ => .tuple #[]
def aggD : DataW H → List (DataW H)
  | .agg l => l
  | _ => []
/-- A type of one cell, a number or a bool. -/
def cellT (P : Program) (t : TypeId) : Bool := match P.underlying t with | some (.int _) => true | some .bool => true | _ => false
theorem trod_cell {t : TypeId} {fuel : Nat} {cs : List Value} {x : DataW H × List MemPlace} (ht : cellT P t = true) (h : DataW.trod enc P w base spare held fuel t cs = some x) : cs = [valD x.1] := by
  unfold cellT at ht
  split at ht
  · rename_i k hk; obtain ⟨n, h1, h2, _⟩ := DataW.trod_int hk h; rw [h1, h2]; rfl
  · rename_i hk; obtain ⟨b, h1, h2⟩ := DataW.trod_bool hk h; rw [h1, h2]; rfl
  · cases ht
/-- A struct whose fields are cells, one behind the other. -/
def flatT (P : Program) (t : TypeId) (n : Nat) : Bool := match P.underlying t with
  | some (.struct fs) => fs.size == n && P.cellsOf t == n && (List.range n).all fun j => match fs[j]? with | some f => f.offset == j && P.cellsOf f.type == 1 && cellT P f.type | none => false
  | _ => false
theorem trod_flat {t : TypeId} {n fuel : Nat} {cs : List Value} {x : DataW H × List MemPlace} (ht : flatT P t n = true) (h : DataW.trod enc P w base spare held fuel t cs = some x) :
    cs.length = n ∧ (aggD x.1).length = n ∧ ∀ j, j < n → ∃ d, (aggD x.1)[j]? = some d ∧ cs[j]? = some (valD d) := by
  unfold flatT at ht
  split at ht
  · rename_i fs hfs
    simp only [Bool.and_eq_true, beq_iff_eq, List.all_eq_true, List.mem_range] at ht
    obtain ⟨⟨h1, h2⟩, h3⟩ := ht
    obtain ⟨xs, m, rfl, rfl, hl, hxl, hf⟩ := DataW.trod_struct hfs h
    refine ⟨by omega, by simp [aggD]; omega, fun j hj => ?_⟩
    have h4 := h3 j hj
    split at h4
    · rename_i f hfj
      simp only [Bool.and_eq_true, beq_iff_eq] at h4
      obtain ⟨⟨h5, h6⟩, h7⟩ := h4
      have h8 := hf j f hfj
      have hjx : j < xs.length := by omega
      rw [List.getElem?_eq_getElem hjx, h5, h6] at h8
      have h9 := trod_cell h7 h8
      refine ⟨xs[j].1, by simp [aggD, List.getElem?_eq_getElem hjx], ?_⟩
      have := congrArg (fun l => l[0]?) h9
      simpa [List.getElem?_drop, List.getElem?_take] using this
    · cases h4
  · cases ht
/-- An array of such structs. -/
theorem trod_table {t e : TypeId} {n k fuel : Nat} {cs : List Value} {x : DataW H × List MemPlace} (ht : P.underlying t = some (.array k e)) (he : flatT P e n = true) (hce : P.cellsOf e = n) (h : DataW.trod enc P w base spare held fuel t cs = some x) :
    ∀ i j, i < k → j < n → ∃ r d, (aggD x.1)[i]? = some r ∧ (aggD r)[j]? = some d ∧ cs[i * n + j]? = some (valD d) := by
  intro i j hi hj
  obtain ⟨xs, m, rfl, rfl, hl, hxl, hel⟩ := DataW.trod_array ht h
  have h1 := hel i hi
  have hix : i < xs.length := by omega
  rw [List.getElem?_eq_getElem hix, hce] at h1
  obtain ⟨_, _, h2⟩ := trod_flat he h1
  obtain ⟨d, h3, h4⟩ := h2 j hj
  refine ⟨xs[i].1, d, by simp [aggD, List.getElem?_eq_getElem hix], h3, ?_⟩
  rw [List.getElem?_take, if_pos hj, List.getElem?_drop] at h4
  exact h4
end
/-- A cell of the table as a value. -/
def avV : AV → Value
  | .int k n => .int k n
  | .bool b => .bool b
  | _ => .tuple #[]
def flatAV : AV → Bool
  | .int _ _ => true
  | .bool _ => true
  | _ => false
theorem prep_avV {w : World} {R : Ext0} {v : AV} (h : flatAV v = true) : PRep w R v (avV v) := by
  cases v <;> first | (cases h; done) | exact .int _ _ | exact .bool _
theorem prep_tab {w : World} {R : Ext0} {cells : List AV} {g : Nat} (hR : ∀ b, R b = none) (hf : cells.all flatAV = true) (hc : ∀ (i : Nat) v, cells[i]? = some v → w.cell? ⟨g, i, none⟩ = some (avV v)) : PRep w R (.eptr cells 0) (.pointer (some ⟨g, 0, none⟩)) := by
  refine PRep.eptr cells g 0 0 (fun i => avV ((cells[i]?).getD (.bool false))) (fun i hi => ⟨?_, fun n hn => by rw [hR] at hn; cases hn⟩) (fun i v hv => ?_)
  · rw [Nat.zero_add, List.getElem?_eq_getElem hi, Option.getD_some]
    exact hc i _ (List.getElem?_eq_getElem hi)
  · rw [hv, Option.getD_some]
    exact prep_avV (List.all_eq_true.1 hf v (List.mem_of_getElem? hv))
def spansC : List AV := ((gtab.find? fun p => Nat.beq p.1 0).map (·.2)).getD []
def rowsC : List AV := ((gtab.find? fun p => Nat.beq p.1 4).map (·.2)).getD []
theorem gSpans : Tryz.prog.globalNamed "avocet/instr.spans" = some 0 := by kernel_rfl
theorem gRows : Tryz.prog.globalNamed "avocet/instr.rows" = some 4 := by kernel_rfl
theorem tSpans : (Tryz.prog.globals[0]?).map (·.type) = some 323 := by kernel_rfl
theorem tRows : (Tryz.prog.globals[4]?).map (·.type) = some 438 := by kernel_rfl
theorem uSpans : Tryz.prog.underlying 323 = some (.array 21 322) := by kernel_rfl
theorem uRows : Tryz.prog.underlying 438 = some (.array 23 437) := by kernel_rfl
theorem fSpans : flatT Tryz.prog 322 3 = true := by kernel_rfl
theorem fRows : flatT Tryz.prog 437 4 = true := by kernel_rfl
theorem cSpans : Tryz.prog.cellsOf 322 = 3 := by kernel_rfl
theorem cRows : Tryz.prog.cellsOf 437 = 4 := by kernel_rfl
theorem agree {n k g : Nat} {D : DataW Unit} {cells : List AV} {w : World} {cs : Array Value} (hn : 0 < n) (hl : cells.length = k * n)
    (hD : (List.range (k * n)).map (fun c => (((aggD D)[c / n]?).bind fun r => (aggD r)[c % n]?).map valD) = cells.map fun v => some (avV v))
    (hcs : ∀ i j, i < k → j < n → ∃ r d, (aggD D)[i]? = some r ∧ (aggD r)[j]? = some d ∧ cs.toList[i * n + j]? = some (valD d)) (hw : ∀ i : Nat, w.cell? ⟨g, i, none⟩ = cs[i]?) :
    ∀ (i : Nat) v, cells[i]? = some v → w.cell? ⟨g, i, none⟩ = some (avV v) := by
  intro c v hv
  have hc : c < k * n := by rw [← hl]; exact (List.getElem?_eq_some_iff.1 hv).1
  have h1 : c / n < k := (Nat.div_lt_iff_lt_mul hn).2 hc
  obtain ⟨r, d, h2, h3, h4⟩ := hcs (c / n) (c % n) h1 (Nat.mod_lt _ hn)
  have h5 := congrArg (fun l => l[c]?) hD
  simp only [List.getElem?_map, List.getElem?_range hc, Option.map_some, hv] at h5
  rw [h2, Option.bind_some, h3] at h5
  rw [hw, ← Array.getElem?_toList, ← Nat.div_add_mod c n, Nat.mul_comm n]
  rw [h4]
  simpa using h5
theorem gok_of_laid {W : World} (h : laidMetH Tryz.prog Rows.sideOrderRow.laid W) : GOK Tryz.prog W (fun _ => none) := by
  rw [MakeChecks.laidMetH_plain _ _ _ (by kernel_rfl)] at h
  obtain ⟨ps, ⟨g0, t0, cs0, f0, p0, q0, hg0, ht0, hv0, hd0, ⟨g1, t1, cs1, f1, p1, q1, hg1, ht1, hv1, hd1, _, _⟩, _⟩, _, _⟩ := h
  obtain rfl := Option.some.inj (gSpans.symm.trans hg0)
  obtain rfl := Option.some.inj (gRows.symm.trans hg1)
  obtain rfl := Option.some.inj (tSpans.symm.trans ht0)
  obtain rfl := Option.some.inj (tRows.symm.trans ht1)
  have k0 := agree (g := 0) (D := Rows.laid_avocet_instr_spans) (cells := spansC) (k := 21) (n := 3) (by omega) rfl (by kernel_rfl) (trod_table uSpans fSpans cSpans hd0) (World.var?_cell hg0 hv0)
  have k1 := agree (g := 4) (D := Rows.laid_avocet_instr_rows) (cells := rowsC) (k := 23) (n := 4) (by omega) rfl (by kernel_rfl) (trod_table uRows fRows cRows hd1) (World.var?_cell hg1 hv1)
  intro g cells hgc
  have key : (gtab.find? fun p => Nat.beq p.1 g).map (·.2) = some cells := hgc
  by_cases h0 : g = 0
  · subst h0
    have e : (gtab.find? fun p => Nat.beq p.1 0).map (·.2) = some spansC := rfl
    obtain rfl := Option.some.inj (e.symm.trans key)
    exact prep_tab (fun _ => rfl) (by kernel_rfl) k0
  by_cases h4 : g = 4
  · subst h4
    have e : (gtab.find? fun p => Nat.beq p.1 4).map (·.2) = some rowsC := rfl
    obtain rfl := Option.some.inj (e.symm.trans key)
    exact prep_tab (fun _ => rfl) (by kernel_rfl) k1
  · exfalso
    unfold gtab at key
    have n0 : Nat.beq 0 g = false := by cases hb : Nat.beq 0 g with
      | false => rfl
      | true => exact absurd (Nat.eq_of_beq_eq_true hb).symm h0
    have n4 : Nat.beq 4 g = false := by cases hb : Nat.beq 4 g with
      | false => rfl
      | true => exact absurd (Nat.eq_of_beq_eq_true hb).symm h4
    simp only [List.find?, n0, n4, Option.map_none] at key
    cases key
end Go.Aw
end
