/-
  A part of the proof of SideOrderCardSaid (see the last text, Om): no statement of its own, no condition.
-/
import Derived.Test.YtchgjamonjfjhaaGreatDoorFd
import Derived.Laws.MakeOwn
set_option linter.unusedSimpArgs false
set_option linter.unusedVariables false
section
set_option linter.unusedSimpArgs false
set_option linter.unusedVariables false
namespace Go.Aw
open Go.RowKit

theorem does_makeSlice {P : Program} [GT P] {nt : Nat} {o : Oper} {d t e N : Nat} {x y : Operand} {kl kc : IntKind} {l c : Int} {i : TypeInfo} {z : Value} {zs : List AV}
    (hop : o.op = .makeSlice t x y) (hdst : o.dst = some d) (hd : d < nt) (ht : P.underlying t = some (.slice e)) (hi : P.info? e = some i) (hz : i.zero = some z) (hzc : constL z.cells.toList = some zs) (hzl : zs.length = i.size)
    (hx : Opd x (.int kl l)) (hy : Opd y (.int kc c)) (h0 : 0 ≤ l) (hlc : l ≤ c) (hcells : c.toNat * i.size ≤ 16777216) (hbytes : (i.bytes : Int) * c ≤ 281474976710656) (h63 : c ≤ 9223372036854775807) :
    Does P nt o (rdOf x (.int kl l) ++ rdOf y (.int kc c) ++ [.new N]) [.o N (repl zs c.toNat), .s d (some (.msl N 0 l.toNat i.size))] := by
  intro Γ S a w next Q hnt hr hrel hn
  have hntn := hnt.1
  obtain ⟨R, ι, ω, hrel, hdom⟩ := hrel
  obtain ⟨r12, r3⟩ := mem_app hr
  obtain ⟨r1, r2⟩ := mem_app r12
  have hN : S.m N = none := r3 (.new N) (by simp)
  have hιN : ι N = none := fresh_iota hdom hN
  have hX := (hx.rep hrel r1).int_inv
  have hY := (hy.rep hrel r2).int_inv
  have hrun := run_makeSlice (P := P) (w := w) t e i z ht hi hz kl kc l c h0 hlc hcells hbytes h63
  refine wp_value (w' := w.alloc (.cells (madeCells z.cells (c.toNat * i.size)) e)) (x := .slice (some ⟨w.heap.size, 0, none⟩) l.toNat c.toNat) ?_ (hn _ _ ?_)
  · simp [execOp, hop, hX, hY, hrun]
  · rw [hdst]
    have hsz : (madeCells z.cells (c.toNat * i.size)).size = c.toNat * i.size := size_madeCells _ _
    obtain ⟨g1, g2⟩ := constL_spec (constL_repl hzc c.toNat i.size hzl)
    have hrl : (repl zs c.toNat).length = c.toNat * i.size := by rw [repl_length, hzl]
    have hr2 := hrel.newObj (o := N) hιN (cells := repl zs c.toNat) (arr := madeCells z.cells (c.toNat * i.size)) e (by rw [hsz, hrl]; exact Nat.le_refl _)
      (fun q v hv => by
        obtain ⟨u, hu, hc⟩ := g2 q v hv
        exact ⟨u, by unfold madeCells; rw [← Array.getElem?_toList]; exact hu, constAV_rep hc w R ι ω _⟩)
    refine ⟨_, _, ω, hr2.set (by omega) (.msl _ N 0 _ _ w.heap.size _ (upd_same _ _ _) (by omega) ⟨_, e, (0, 0), heap_alloc_new _, by rw [hsz]; omega⟩), ?_⟩
    intro n' b'' hh
    by_cases h1 : n' = N
    · subst h1; exact ⟨_, upd_same _ _ _⟩
    · rw [upd_ne _ _ h1] at hh
      obtain ⟨ob, hob⟩ := hdom n' b'' hh
      exact ⟨ob, (upd_ne _ _ h1).trans hob⟩

def nMakeSlice (P : Program) [GT P] (nt : Nat) (dst : Option Nat) (t : TypeId) (x y : Operand) (st : St) : XR :=
  match dst, tdOf P t, st.ev x, st.ev y with
  | some d, some (.slice e), some (.int kl l), some (.int kc c) => match tiOf P e with
    | some te => some (lt d nt && (decide (0 ≤ l) && (decide (l ≤ c) && (Nat.ble (c.toNat * te.size) 16777216 && (decide ((te.bytes : Int) * c ≤ 281474976710656) && decide (c ≤ 9223372036854775807))))),
        rdOf x (.int kl l) ++ rdOf y (.int kc c) ++ [.new st.mem.length], [.o st.mem.length (repl te.zero c.toNat), .s d (some (.msl st.mem.length 0 l.toNat te.size))])
    | none => none
  | _, _, _, _ => none
theorem nMakeSlice_s {P : Program} [GT P] {nt : Nat} {o : Oper} {st : St} {t : TypeId} {x y : Operand} {r : List Rd} {w : List Wr} (hop : o.op = .makeSlice t x y)
    (h : nMakeSlice P nt o.dst t x y st = some (true, r, w)) : NewOk P nt o st r w := by
  unfold nMakeSlice at h
  split at h
  · rename_i d e kl l kc c hd htd hx hy
    obtain ⟨hx1, hx2⟩ := ev_spec hx
    obtain ⟨hy1, hy2⟩ := ev_spec hy
    split at h
    · rename_i te hte
      injection h with h; injection h with h1 h2; injection h2 with h2 h3; subst h2; subst h3
      simp only [Bool.and_eq_true, lt_iff, decide_eq_true_eq, Nat.ble_eq] at h1
      obtain ⟨c1, c2, c3, c4, c5, c6⟩ := h1
      obtain ⟨ie, z, htd', hie, hz, hzc, hzl, hsz, hby⟩ := tiOf_spec hte
      have hnew : st.view.has (.new st.mem.length) := List.getElem?_eq_none (Nat.le_refl _)
      rw [← hsz] at c4 ⊢
      exact ⟨does_makeSlice hop hd c1 (tdOf_slice htd) hie hz hzc hzl hx1 hy1 c2 c3 c4 (by rw [hby]; exact c5) c6, has_append (has_append hx2 hy2) (has_one hnew), ⟨Nat.le_refl _, trivial⟩⟩
    · cases h
  · cases h

end Go.Aw
end
section
set_option linter.unusedSimpArgs false
set_option linter.unusedVariables false
namespace Go.Aw

/-- A literal slice, carried out. -/
theorem buildSlice_run {P : Program} [GT P] {t e n : Nat} {parts : Array (Nat × Operand)} {vs : List AV} {i : TypeInfo} {z : Value} {zs r : List AV} {ps : List (Nat × AV)}
    (ht : P.underlying t = some (.slice e)) (hi : P.info? e = some i) (hz : i.zero = some z)
    (hn : n * i.size ≤ 16777216) (hzc : constL ((Array.range (n * i.size)).map (z.cells[· % z.cells.size]!)).toList = some zs)
    (hx : Opds (parts.toList.map (·.2)) vs) (hps : pairAV parts.toList vs = some ps) (htu : vs.all notTup = true) (hr : fillAV (fun j => some (j * i.size, i.size)) zs ps = some r)
    {Γ : Gam} {S : Vw} {a : Act} {w : World} {R : Ext0} {ι : Nat → Option Nat} {ω : Nat → Option (List Nat)} (hrel : Rel Γ S.g S.m a w R ι ω) (hrd : ∀ r, r ∈ rdsOf (parts.toList.map (·.2)) vs → S.has r) :
    ∃ arr', CellsRep w R ι r arr' ∧ arr'.size = n * i.size ∧ (Instr.buildSlice t n (parts.map fun (q : Nat × Operand) => (q.1, a.eval q.2))).run P w = .ok (.slice (some ⟨w.heap.size, 0, none⟩) n n) (w.alloc (.cells arr' e)) := by
  obtain ⟨f1, f2⟩ := Opds.spec hrel hx hrd
  obtain ⟨p1, p2, p3⟩ := pairAV_spec hps
  have key : ∀ (j : Nat) k v, ps[j]? = some (k, v) → ∃ x, ((parts.map fun (q : Nat × Operand) => (q.1, a.eval q.2)).toList)[j]? = some (k, x) ∧ CellsRep w R ι (AV.roL v.cellsA) x.cells := by
    intro j k v hj
    obtain ⟨x, hx1, hx2⟩ := p3 j k v hj
    obtain ⟨y, hy, hyr⟩ := f2 j v hx2
    have : y = x := by
      rw [List.getElem?_map, hx1] at hy; simp at hy; exact hy.symm
    subst this
    refine ⟨a.eval y, ?_, hyr.cells (notTup_ne (List.all_eq_true.1 htu v (List.mem_of_getElem? hx2)))⟩
    rw [Array.toList_map, List.getElem?_map, hx1]; rfl
  obtain ⟨arr', h1, h2⟩ := fill_rep (CellsRep.const hzc) (by simp; omega) key hr
  have hsize : arr'.size = n * i.size := by
    have hl : ∀ (ps : List (Nat × AV)) (cs r : List AV), fillAV (fun j => some (j * i.size, i.size)) cs ps = some r → r.length = cs.length := by
      intro ps
      induction ps with
      | nil => intro cs r h; simp only [fillAV] at h; injection h with h; rw [h]
      | cons q ps ih =>
        intro cs r h
        obtain ⟨k, v⟩ := q
        simp only [fillAV] at h
        split at h
        · rename_i hc
          rw [ih _ _ h, splice_length (by rw [roL_length]; exact hc.2)]
        · cases h
    have hzl := (constL_spec hzc).1
    rw [← h2.1, hl _ _ _ hr, ← hzl]; simp
  have hrun : (Instr.buildSlice t n (parts.map fun (q : Nat × Operand) => (q.1, a.eval q.2))).run P w = .ok (.slice (some ⟨w.heap.size, 0, none⟩) n n) (w.alloc (.cells arr' e)) := by
    unfold Instr.buildSlice
    rw [Sem.run_bind, run_underlying ht w]
    simp only [Result.andThen_ok]
    by_cases h0 : n * i.size = 0
    · have hfill : Instr.fill (fun j => some (j * i.size, i.size)) (Array.map (fun x => (#[] : Array Value)[x % 0]!) (Array.range (n * i.size))) ((parts.map fun (q : Nat × Operand) => (q.1, a.eval q.2)).toList) = some arr' := by
        rw [← h1]; congr 1; simp [h0]
      simp [sizeOf, typeInfo, hi, hn, h0, newRow] at hfill ⊢
      simp [hfill]
    · simp [sizeOf, typeInfo, hi, hn, h0, zeroValue, hz, newRow, h1, show ¬ (16777216 < n * i.size) from by omega]
      simp at h1
      simp [h1]
  exact ⟨arr', h2, hsize, hrun⟩

/-- A literal slice that is an object from the start. -/
theorem does_buildSliceM {P : Program} [GT P] {nt : Nat} {o : Oper} {d t e n N : Nat} {parts : Array (Nat × Operand)} {vs : List AV} {i : TypeInfo} {z : Value} {zs r : List AV} {ps : List (Nat × AV)}
    (hop : o.op = .buildSlice t n parts) (hdst : o.dst = some d) (hd : d < nt) (ht : P.underlying t = some (.slice e)) (hi : P.info? e = some i) (hz : i.zero = some z)
    (hn : n * i.size ≤ 16777216) (hzc : constL ((Array.range (n * i.size)).map (z.cells[· % z.cells.size]!)).toList = some zs)
    (hx : Opds (parts.toList.map (·.2)) vs) (hps : pairAV parts.toList vs = some ps) (htu : vs.all notTup = true) (hr : fillAV (fun j => some (j * i.size, i.size)) zs ps = some r) :
    Does P nt o (rdsOf (parts.toList.map (·.2)) vs ++ [.new N]) [.o N r, .s d (some (.msl N 0 n i.size))] := by
  intro Γ S a w next Q hnt hrd hrel hnx
  have hntn := hnt.1
  obtain ⟨R, ι, ω, hrel, hdom⟩ := hrel
  obtain ⟨hrd, r3⟩ := mem_app hrd
  have hN : S.m N = none := r3 (.new N) (by simp)
  have hιN : ι N = none := fresh_iota hdom hN
  obtain ⟨arr', h2, hsize, hrun⟩ := buildSlice_run ht hi hz hn hzc hx hps htu hr hrel hrd
  refine wp_value (x := .slice (some ⟨w.heap.size, 0, none⟩) n n) (w' := w.alloc (.cells arr' e)) ?_ (hnx _ _ ?_)
  · simp [execOp, hop, hrun]
  · rw [hdst]
    have hr2 := hrel.newObj (o := N) hιN (cells := r) (arr := arr') e (by rw [h2.1]; exact Nat.le_refl _)
      (fun q v hv => by
        have hlt : q < arr'.size := by have := (List.getElem?_eq_some_iff.1 hv).1; have := h2.1; omega
        exact ⟨_, Array.getElem?_eq_getElem hlt, h2.2 q v _ hv (Array.getElem?_eq_getElem hlt) ω _⟩)
    refine ⟨_, _, ω, hr2.set (by omega) (.msl _ N 0 _ _ w.heap.size _ (upd_same _ _ _) (Nat.le_refl _) ⟨_, e, (0, 0), heap_alloc_new _, by omega⟩), ?_⟩
    intro n' b'' hh
    by_cases h1 : n' = N
    · subst h1; exact ⟨_, upd_same _ _ _⟩
    · rw [upd_ne _ _ h1] at hh
      obtain ⟨ob, hob⟩ := hdom n' b'' hh
      exact ⟨ob, (upd_ne _ _ h1).trans hob⟩

theorem put_put (a : Act) (d : Nat) (x : Value) : (a.put (some d) x).put (some d) x = a.put (some d) x := by
  simp [Act.put]
theorem upd_upd {α : Type} (f : Nat → Option α) (k : Nat) (u v : Option α) : upd (upd f k u) k v = upd f k v := by
  funext i; simp only [upd]; split <;> rfl
theorem does_buildSlice0 {P : Program} [GT P] {nt : Nat} {o : Oper} {d t e : Nat} {parts : Array (Nat × Operand)} {vs : List AV} {i : TypeInfo} {z : Value} {zs r : List AV} {ps : List (Nat × AV)}
    (hop : o.op = .buildSlice t 0 parts) (hdst : o.dst = some d) (hd : d < nt) (ht : P.underlying t = some (.slice e)) (hi : P.info? e = some i) (hz : i.zero = some z)
    (hzc : constL ((Array.range (0 * i.size)).map (z.cells[· % z.cells.size]!)).toList = some zs)
    (hx : Opds (parts.toList.map (·.2)) vs) (hps : pairAV parts.toList vs = some ps) (htu : vs.all notTup = true) (hr : fillAV (fun j => some (j * i.size, i.size)) zs ps = some r) :
    Does P nt o (rdsOf (parts.toList.map (·.2)) vs) [.s d (some .nils)] := by
  intro Γ S a w next Q hnt hrd hrel hnx
  have hntn := hnt.1
  obtain ⟨R, ι, ω, hrel, hdom⟩ := hrel
  obtain ⟨arr', h2, hsize, hrun⟩ := buildSlice_run ht hi hz (by omega) hzc hx hps htu hr hrel hrd
  refine wp_value (x := .slice (some ⟨w.heap.size, 0, none⟩) 0 0) (w' := w.alloc (.cells arr' e)) ?_ (hnx _ _ ?_)
  · simp [execOp, hop, hrun]
  · rw [hdst]
    have hr1 := hrel.allocRow (d := d) (by omega) (xs := []) (sz := i.size) (c := 0) (arr := arr') e (0, 0) (by simp) (by simp) (by omega) (by simp) (fun _ _ => undef) (by simp) (by simp)
    have hr2 := hr1.set (d := d) (v := .nils) (x := .slice (some ⟨w.heap.size, 0, none⟩) 0 0) (by omega) (.pure _ _ _ (.nils _))
    simp only [List.length_nil] at hr2
    rw [put_put, upd_upd] at hr2
    exact ⟨_, _, _, hr2, hdom⟩

def nBuildSlice (P : Program) [GT P] (nt : Nat) (dst : Option Nat) (t : TypeId) (n : Nat) (parts : Array (Nat × Operand)) (st : St) : XR :=
  match GT.mutT P t, dst, tdOf P t, st.evs (parts.toList.map (·.2)) with
  | true, some d, some (.slice e), some vs => match tiOf P e, pairAV parts.toList vs with
    | some te, some ps => match fillAV (fun j => some (j * te.size, te.size)) (repl te.zero n) ps with
      | some r => match n with
        | 0 => some (lt d nt && vs.all notTup, rdsOf (parts.toList.map (·.2)) vs, [.s d (some .nils)])
        | _ + 1 => none
      | none => none
    | _, _ => none
  | _, _, _, _ => none
theorem nBuildSlice_s {P : Program} [GT P] {nt : Nat} {o : Oper} {st : St} {t : TypeId} {n : Nat} {parts : Array (Nat × Operand)} {r : List Rd} {w : List Wr} (hop : o.op = .buildSlice t n parts)
    (h : nBuildSlice P nt o.dst t n parts st = some (true, r, w)) : NewOk P nt o st r w := by
  unfold nBuildSlice at h
  split at h
  · rename_i d e vs hm hd htd hvs
    obtain ⟨h1, h2⟩ := evs_spec hvs
    split at h
    · rename_i te ps hte hps
      obtain ⟨i, z, htd', hi, hz, hzc, hzl, hsz, hby⟩ := tiOf_spec hte
      split at h
      · rename_i r hr
        have hnew : st.view.has (.new st.mem.length) := List.getElem?_eq_none (Nat.le_refl _)
        rw [← hsz] at hr
        split at h
        · injection h with h; injection h with c1 c2; injection c2 with c2 c3; subst c2; subst c3
          simp only [Bool.and_eq_true, lt_iff, Nat.ble_eq] at c1
          exact ⟨does_buildSlice0 hop hd c1.1 (tdOf_slice htd) hi hz (constL_repl hzc 0 i.size hzl) h1 hps c1.2 hr, h2, trivial⟩
        · cases h
      · cases h
    · cases h
  · cases h
end Go.Aw
end
section
set_option linter.unusedSimpArgs false
set_option linter.unusedVariables false
namespace Go.Aw
open Go.RowKit

/-- What the first n elements of a source are, cell by cell. -/
structure SrcPre (P : Program) (size : Nat) (w : World) (R : Ext0) (ι : Nat → Option Nat) (Y : Value) (m n : Nat) (cs : List AV) (news : List Value) : Prop where
  len : (Builtin.lenOf Y).run P w = .ok m w
  cells : (Builtin.firstCells size n Y).run P w = .ok news.toArray w
  nl : news.length = n * size
  one : ∀ u ∈ news, u.oneCell' = true
  cl : cs.length = n * size
  rep : ∀ (q : Nat) v, cs[q]? = some v → ∃ x, news[q]? = some x ∧ ∀ p ω, Rep w R ι ω p v x

theorem srcPre_list {P : Program} {size : Nat} {w : World} {R : Ext0} {ι : Nat → Option Nat} {ω : Nat → Option (List Nat)} {p : List Nat} {own : Option Nat} {ys : List (List AV)} {Y : Value} (h : Rep w R ι ω p (.list own ys) Y)
    (hsz : ∀ (j : Nat) (y : List AV), ys[j]? = some y → y.length = size) (h0 : 0 < size) {n : Nat} (hn : n ≤ ys.length) : ∃ news, SrcPre P size w R ι Y ys.length n (ys.take n).flatten news := by
  have hP : PRep w R (.list none ys) Y := h.data rfl
  have hszt : ∀ (j : Nat) (y : List AV), (ys.take n)[j]? = some y → y.length = size := by
    intro j y hy
    have hj := (List.getElem?_eq_some_iff.1 hy).1
    rw [List.length_take] at hj
    rw [List.getElem?_take_of_lt (by omega)] at hy
    exact hsz j y hy
  have hcl : (ys.take n).flatten.length = n * size := by rw [flatten_length hszt, List.length_take, Nat.min_eq_left hn]
  cases hP with
  | empty a c =>
    have : n = 0 := by simpa using hn
    subst this
    refine ⟨[], by simp [Builtin.lenOf], ?_, by simp, by simp, by simp, fun q v hv => by simp at hv⟩
    cases a with
    | none => simp [Builtin.firstCells]
    | some a => simp [Builtin.firstCells, loadCells, loadCellsFrom]
  | list _ sz b off c val hc hsz' hcell hval =>
    by_cases hn0 : n = 0
    · subst hn0
      exact ⟨[], by simp [Builtin.lenOf], by simp [Builtin.firstCells, loadCells, loadCellsFrom], by simp, by simp, by simp, fun q v hv => by simp at hv⟩
    · have hs2 : sz = size := by
        have h1 := List.getElem?_eq_getElem (show 0 < ys.length by omega)
        rw [← hsz' 0 _ h1, hsz 0 _ h1]
      subst hs2
      have hget : ∀ q, q < n * sz → ((List.range (n * sz)).map fun q => val (q / sz) (q % sz))[q]? = some (val (q / sz) (q % sz)) := by
        intro q hq
        rw [List.getElem?_map, List.getElem?_range hq]; rfl
      refine ⟨(List.range (n * sz)).map fun q => val (q / sz) (q % sz), by simp [Builtin.lenOf], ?_, by simp, ?_, hcl, fun q v hv => ?_⟩
      · refine run_firstCells_some (P := P) w sz n _ ys.length c _ (by simp) (fun q u hq => ?_)
        have hq2 : q < n * sz := by have := (List.getElem?_eq_some_iff.1 hq).1; simpa using this
        rw [hget q hq2] at hq; injection hq with hq; subst hq
        have hdiv : q / sz < n := by rw [Nat.div_lt_iff_lt_mul h0]; exact hq2
        have := (hcell _ _ (Nat.lt_of_lt_of_le hdiv hn) (Nat.mod_lt q h0)).1
        rw [Nat.add_assoc, Nat.div_add_mod'] at this
        rw [Addr.add_lit]; exact this
      · intro u hu
        obtain ⟨q, hq, rfl⟩ := List.mem_map.1 hu
        have hq2 : q < n * sz := by simpa using hq
        have hdiv : q / sz < n := by rw [Nat.div_lt_iff_lt_mul h0]; exact hq2
        have hmod := Nat.mod_lt q h0
        have hy := List.getElem?_eq_getElem (Nat.lt_of_lt_of_le hdiv hn)
        have hl := hsz' _ _ hy
        have hv := List.getElem?_eq_getElem (l := ys[q / sz]) (i := q % sz) (by omega)
        exact (hval _ _ hy _ _ hv).oneCell
      · have hq2 : q < n * sz := by have := (List.getElem?_eq_some_iff.1 hv).1; omega
        obtain ⟨y, h1, h2⟩ := flatten_get h0 hszt hv
        have hdiv : q / sz < n := by rw [Nat.div_lt_iff_lt_mul h0]; exact hq2
        rw [List.getElem?_take_of_lt hdiv] at h1
        exact ⟨_, hget q hq2, fun p ω => .pure _ _ _ (hval _ y h1 _ v h2)⟩

theorem srcPre_msl {P : Program} {size : Nat} {Γ : Gam} {S : Vw} {a : Act} {w : World} {R : Ext0} {ι : Nat → Option Nat} {ω : Nat → Option (List Nat)} (hrel : Rel Γ S.g S.m a w R ι ω) {p : List Nat} {q off len : Nat} {obj : List AV} {Y : Value}
    (h : Rep w R ι ω p (.msl q off len size) Y) (hm : S.m q = some obj) (hne : obj ≠ []) (hp : obj.all AV.plain = true) {n : Nat} (hn : n ≤ len) (hfit : off + n * size ≤ obj.length) :
    ∃ news, SrcPre P size w R ι Y len n (AV.roL ((obj.drop off).take (n * size))) news := by
  obtain ⟨b, c, rfl, hb, hc, _⟩ := h.msl_inv
  obtain ⟨arr, el, k1, k2, k3, k4⟩ := RelV.obj hrel hm hne hb
  have hl : ((arr.toList.drop off).take (n * size)).length = n * size := by simp; omega
  have hg : ∀ j, j < n * size → ((arr.toList.drop off).take (n * size))[j]? = arr[off + j]? := by
    intro j hj
    rw [List.getElem?_take_of_lt hj, List.getElem?_drop]; simp
  refine ⟨(arr.toList.drop off).take (n * size), by simp [Builtin.lenOf], ?_, hl, fun u hu => ?_, by rw [roL_length]; simp; omega, fun j v hv => ?_⟩
  · refine run_firstCells_some (P := P) w size n _ len c _ hl (fun j u hj => ?_)
    have hj2 : j < n * size := by have := (List.getElem?_eq_some_iff.1 hj).1; omega
    rw [hg j hj2] at hj
    rw [Addr.add_lit, cell_of_heap k1]; exact hj
  · obtain ⟨j, hj, he⟩ := List.getElem_of_mem hu
    have hj2 : j < n * size := by omega
    have hau : arr[off + j]? = some u := by rw [← hg j hj2, List.getElem?_eq_getElem hj, he]
    have ho : obj[off + j]? = some (obj[off + j]'(by omega)) := List.getElem?_eq_getElem (by omega)
    obtain ⟨z, hz, hzr⟩ := k4 _ _ ho
    rw [hau] at hz; injection hz with hz; subst hz
    have hpl := List.all_eq_true.1 hp _ (List.mem_of_getElem? ho)
    exact (hzr.oneCell (plain_ne hpl).1 (plain_ne hpl).2).1
  · obtain ⟨u, hu, rfl⟩ := roL_get hv
    have hj2 : j < n * size := by have := (List.getElem?_eq_some_iff.1 hu).1; rw [List.length_take] at this; omega
    rw [List.getElem?_take_of_lt hj2, List.getElem?_drop] at hu
    obtain ⟨z, hz, hzr⟩ := k4 _ _ hu
    exact ⟨z, by rw [hg j hj2]; exact hz, fun p ω => hzr.ro _ _⟩


/-- A copy onto an object's slice. -/
theorem does_copyOf {P : Program} [GT P] {nt : Nat} {o : Oper} {d t tx e q off len m n : Nat} {x y : Operand} {obj cs : List AV} {rds : List Rd} {i : TypeInfo}
    (hop : o.op = .call { callee := .builtin .copy, args := #[x, y], argTypes := #[t, tx] }) (hdst : o.dst = some d) (hd : d < nt)
    (ht : P.underlying t = some (.slice e)) (hi : P.info? e = some i) (hx : Opd x (.msl q off len i.size)) (hnm : n = Nat.min m len) (hne : obj ≠ []) (hfit : off + n * i.size ≤ obj.length)
    (hsrc : ∀ (Γ : Gam) (S : Vw) (a : Act) (w : World) (R : Ext0) (ι : Nat → Option Nat) (ω : Nat → Option (List Nat)), (∀ r, r ∈ rds → S.has r) → Rel Γ S.g S.m a w R ι ω → ∃ news, SrcPre P i.size w R ι (a.eval y) m n cs news) :
    Does P nt o (rdOf x (.msl q off len i.size) ++ [.o q obj] ++ rds) [.o q (splice obj off cs), .s d (some (.int .i64 n))] := by
  intro Γ S a w next Q hnt hr hrel hn
  have hntn := hnt.1
  obtain ⟨R, ι, ω, hrel, hdom⟩ := hrel
  obtain ⟨r12, r3⟩ := mem_app hr
  obtain ⟨r1, r2⟩ := mem_app r12
  have hm : S.m q = some obj := r2 (.o q obj) (by simp)
  obtain ⟨b, c, hX, hιb, hlc, _⟩ := (hx.rep hrel r1).msl_inv
  obtain ⟨arr, el, k1, k2, k3, k4⟩ := RelV.obj hrel hm hne hιb
  obtain ⟨news, hs⟩ := hsrc Γ S a w R ι ω r3 hrel
  have hnl := hs.nl
  have hcl := hs.cl
  have hst := run_storeCells_cells (P := P) b off news 0 w (fun j hj => by rw [Nat.add_zero, cell_of_heap k1, Array.getElem?_eq_getElem (by omega)]; rfl) (fun j hj => by simp [World.frozen?, k1]) hs.one
  simp only [Nat.add_zero] at hst
  obtain ⟨g1, g2, g3, g4, g5⟩ := setCells_same news b off w
  obtain ⟨arr', p1, p2, p3⟩ := heap_setCells_at news off arr w k1 (by omega)
  refine wp_value (x := .int .i64 n) (w' := w.setCells b off news) ?_ (hn _ _ ?_)
  · have hlen := hs.len
    have hcells := hs.cells
    rw [hnm] at hcells
    have hmin : Nat.min m len = min m len := rfl
    simp [execOp, hop, resolve, invoke, builtin, Builtin.copy_, hX, run_underlying ht, hlen, sizeOf, typeInfo, hi, hcells, hst, goInt, hnm]
  · rw [hdst]
    have h2 := hrel.storeObj (obj' := splice obj off cs) hm hne hιb k3 (fun arr0 e0 fz0 h0 => by rw [k1] at h0; injection h0 with h0; injection h0 with h0; subst h0; omega) p1 g1 g5 g2 g3 g4 (fun p => p) S.g
      (by rw [splice_length (by omega)]; omega) (fun c' u hu => by
        rw [splice_get (by omega)] at hu
        rw [p3 c']
        by_cases c1 : c' < off
        · rw [if_pos c1] at hu ⊢
          obtain ⟨z, hz, hzr⟩ := k4 c' u hu
          exact ⟨z, hz, by rw [map_id_fun]; exact hzr⟩
        · rw [if_neg c1] at hu ⊢
          by_cases c2 : c' < off + cs.length
          · rw [if_pos c2] at hu
            rw [if_pos (by omega)]
            obtain ⟨z, hz, hzr⟩ := hs.rep _ _ hu
            exact ⟨z, hz, hzr _ _⟩
          · rw [if_neg c2] at hu
            rw [if_neg (by omega)]
            obtain ⟨z, hz, hzr⟩ := k4 c' u hu
            exact ⟨z, hz, by rw [map_id_fun]; exact hzr⟩)
      (fun d u hu => by
        obtain ⟨z, hz, hzr⟩ := hrel.slots d u hu
        exact ⟨z, hz, by rw [map_id_fun]; exact hzr⟩) (fun _ _ _ _ => rfl)
    exact ⟨R, ι, _, h2.set (by omega) (.pure _ _ _ (.int _ _)), dom_o hdom q _⟩

end Go.Aw
end
section
set_option linter.unusedSimpArgs false
set_option linter.unusedVariables false
namespace Go.Aw
open Go.RowKit

def isStrT (P : Program) [GT P] (t : TypeId) : Bool := match tdOf P t with | some .string => true | _ => false
theorem isStrT_spec {P : Program} [GT P] {t : TypeId} (h : isStrT P t = true) : tdOf P t = some .string := by unfold isStrT at h; split at h <;> simp_all
def isSliceT (P : Program) [GT P] (t : TypeId) : Bool := match tdOf P t with | some (.slice _) => true | _ => false
theorem isSliceT_spec {P : Program} [GT P] {t : TypeId} (h : isSliceT P t = true) : ∃ e, tdOf P t = some (.slice e) := by unfold isSliceT at h; split at h <;> simp_all
def srcKindB (P : Program) [GT P] (size : Nat) (tx : TypeId) : AV → Bool
  | .str _ => isStrT P tx && decide (size = 1)
  | _ => isSliceT P tx
theorem srcKindB_s {P : Program} [GT P] {size : Nat} {tx : TypeId} {v : AV} (h : srcKindB P size tx v = true) :
    ((∃ e', P.underlying tx = some (.slice e')) ∧ ∀ s, v ≠ .str s) ∨ (P.underlying tx = some .string ∧ size = 1 ∧ ∃ s, v = .str s) := by
  cases v <;> first
    | (simp only [srcKindB, Bool.and_eq_true, decide_eq_true_eq] at h; exact .inr ⟨tdOf_string (isStrT_spec h.1), h.2, _, rfl⟩)
    | (obtain ⟨e, he⟩ := isSliceT_spec h; exact .inl ⟨⟨e, tdOf_slice he⟩, fun s hs => by cases hs⟩)
def allLenB (n : Nat) (xs : List (List AV)) : Bool := xs.all fun y => Nat.beq y.length n
theorem allLenB_s {n : Nat} {xs : List (List AV)} (h : allLenB n xs = true) : ∀ (j : Nat) (y : List AV), xs[j]? = some y → y.length = n := by
  intro j y hy
  have := List.all_eq_true.1 h y (List.mem_of_getElem? hy)
  simpa using this

def nLenM (P : Program) [GT P] (nt : Nat) (dst : Option Nat) (tys : Array TypeId) (x : Operand) (st : St) : XR :=
  match dst, tys[0]?, st.ev x with
  | some d, some t, some (.msl q off len sz) => some (lt d nt && isSliceT P t, rdOf x (.msl q off len sz), [.s d (some (.int .i64 len))])
  | some d, some t, some .nilsl => some (lt d nt && isSliceT P t, rdOf x .nilsl, [.s d (some (.int .i64 0))])
  | _, _, _ => none
theorem nLenM_s {P : Program} [GT P] {nt : Nat} {o : Oper} {st : St} {x : Operand} {tys : Array TypeId} {r : List Rd} {w : List Wr} (hop : o.op = .call { callee := .builtin .len, args := #[x], argTypes := tys })
    (h : nLenM P nt o.dst tys x st = some (true, r, w)) : NewOk P nt o st r w := by
  unfold nLenM at h
  split at h
  · rename_i d t q off len sz hd ht hx
    obtain ⟨hx1, hx2⟩ := ev_spec hx
    injection h with h; injection h with h1 h2; injection h2 with h2 h3; subst h2; subst h3
    simp only [Bool.and_eq_true, lt_iff] at h1
    obtain ⟨e, he⟩ := isSliceT_spec h1.2
    exact ⟨does_lenM hop ht hd h1.1 (tdOf_slice he) hx1, hx2, trivial⟩
  · rename_i d t hd ht hx
    obtain ⟨hx1, hx2⟩ := ev_spec hx
    injection h with h; injection h with h1 h2; injection h2 with h2 h3; subst h2; subst h3
    simp only [Bool.and_eq_true, lt_iff] at h1
    obtain ⟨e, he⟩ := isSliceT_spec h1.2
    exact ⟨does_lenNilsl hop ht hd h1.1 (tdOf_slice he) hx1, hx2, trivial⟩
  · cases h

def nIndexM (P : Program) [GT P] (nt : Nat) (dst : Option Nat) (t : TypeId) (x i : Operand) (st : St) : XR :=
  match dst, tdOf P t, st.ev x, st.ev i with
  | some d, some (.slice e), some (.msl q off len sz), some (.int kd n) => match tiOf P e with
    | some te => some (lt d nt && (Nat.beq te.size sz && (decide (0 ≤ n) && decide (n < len))), rdOf x (.msl q off len sz) ++ rdOf i (.int kd n), [.s d (some (.ptr q (off + n.toNat * sz)))])
    | none => none
  | _, _, _, _ => none
theorem nIndexM_s {P : Program} [GT P] {nt : Nat} {o : Oper} {st : St} {t : TypeId} {x i : Operand} {r : List Rd} {w : List Wr} (hop : o.op = .indexAddr t x i)
    (h : nIndexM P nt o.dst t x i st = some (true, r, w)) : NewOk P nt o st r w := by
  unfold nIndexM at h
  split at h
  · rename_i d e q off len sz kd n hd htd hx hi
    obtain ⟨hi1, hi2⟩ := ev_spec hi
    obtain ⟨hx1, hx2⟩ := ev_spec hx
    split at h
    · rename_i te hte
      injection h with h; injection h with h1 h2; injection h2 with h2 h3; subst h2; subst h3
      simp only [Bool.and_eq_true, lt_iff, decide_eq_true_eq, Nat.beq_eq] at h1
      obtain ⟨ie, z, htd', hie, hz, hzc, hzl, hsz, hby⟩ := tiOf_spec hte
      exact ⟨does_indexM hop hd h1.1 (tdOf_slice htd) hie (by rw [hsz]; exact h1.2.1) hx1 hi1 h1.2.2.1 h1.2.2.2, has_append hx2 hi2, trivial⟩
    · cases h
  · cases h

def nSliceM (P : Program) [GT P] (nt : Nat) (dst : Option Nat) (t : TypeId) (x : Operand) (lo hi mx : Option Operand) (st : St) : XR :=
  match dst, tdOf P t, st.ev x, mx with
  | some d, some (.slice e), some (.msl q off len sz), none => match tiOf P e, st.bnd lo 0, st.bnd hi len with
    | some te, some (kl, l), some (kh, h) => if l = 0 ∨ l < h then some (lt d nt && (Nat.beq te.size sz && decide (0 ≤ l ∧ l ≤ h ∧ h ≤ len)),
        rdOf x (.msl q off len sz) ++ (rdO lo kl l ++ rdO hi kh h), [.s d (some (.msl q (off + l.toNat * sz) (h.toNat - l.toNat) sz))])
      else some (lt d nt && (Nat.beq te.size sz && decide (0 ≤ l ∧ l = h ∧ h ≤ len)),
        rdOf x (.msl q off len sz) ++ (rdO lo kl l ++ rdO hi kh h), [.s d (some (.list none []))])
    | _, _, _ => none
  | some d, some (.slice e), some .nils, none => match tiOf P e, st.bnd lo 0, st.bnd hi 0 with
    | some te, some (kl, l), some (kh, h) => some (lt d nt && decide (l = 0 ∧ h = 0), rdOf x .nils ++ (rdO lo kl l ++ rdO hi kh h), [.s d (some .nils)])
    | _, _, _ => none
  | some d, some (.slice e), some .nilsl, none => match tiOf P e, st.bnd lo 0, st.bnd hi 0 with
    | some te, some (kl, l), some (kh, h) => some (lt d nt && decide (l = 0 ∧ h = 0), rdOf x .nilsl ++ (rdO lo kl l ++ rdO hi kh h), [.s d (some .nilsl)])
    | _, _, _ => none
  | _, _, _, _ => none
theorem nSliceM_s {P : Program} [GT P] {nt : Nat} {o : Oper} {st : St} {t : TypeId} {x : Operand} {lo hi mx : Option Operand} {r : List Rd} {w : List Wr} (hop : o.op = .slice t x lo hi mx)
    (h : nSliceM P nt o.dst t x lo hi mx st = some (true, r, w)) : NewOk P nt o st r w := by
  unfold nSliceM at h
  split at h
  · rename_i d e q off len sz hd htd hx
    obtain ⟨hx1, hx2⟩ := ev_spec hx
    split at h
    · rename_i te kl l kh hh hte hl hhi
      obtain ⟨ie, z, htd', hie, hz, hzc, hzl, hsz, hby⟩ := tiOf_spec hte
      obtain ⟨l1, l2⟩ := bnd_spec hl
      obtain ⟨g1, g2⟩ := bnd_spec hhi
      split at h
      · rename_i hc
        injection h with h; injection h with h1 h2; injection h2 with h2 h3; subst h2; subst h3
        simp only [Bool.and_eq_true, lt_iff, decide_eq_true_eq, Nat.beq_eq] at h1
        exact ⟨does_sliceM hop hd h1.1 (tdOf_slice htd) hie (by rw [hsz]; exact h1.2.1) hx1 l1 g1 h1.2.2.1 h1.2.2.2.1 h1.2.2.2.2 hc, has_append hx2 (has_append l2 g2), trivial⟩
      · injection h with h; injection h with h1 h2; injection h2 with h2 h3; subst h2; subst h3
        simp only [Bool.and_eq_true, lt_iff, decide_eq_true_eq, Nat.beq_eq] at h1
        exact ⟨does_sliceM0 hop hd h1.1 (tdOf_slice htd) hie hx1 l1 g1 h1.2.2.1 h1.2.2.2.1 h1.2.2.2.2, has_append hx2 (has_append l2 g2), trivial⟩
    · cases h
  · rename_i d e hd htd hx
    obtain ⟨hx1, hx2⟩ := ev_spec hx
    split at h
    · rename_i te kl l kh hh hte hl hhi
      obtain ⟨ie, z, htd', hie, hz, hzc, hzl, hsz, hby⟩ := tiOf_spec hte
      obtain ⟨l1, l2⟩ := bnd_spec hl
      obtain ⟨g1, g2⟩ := bnd_spec hhi
      injection h with h; injection h with h1 h2; injection h2 with h2 h3; subst h2; subst h3
      simp only [Bool.and_eq_true, lt_iff, decide_eq_true_eq] at h1
      exact ⟨does_sliceNil hop hd h1.1 (tdOf_slice htd) hie (.inl rfl) hx1 l1 g1 h1.2.1 h1.2.2, has_append hx2 (has_append l2 g2), trivial⟩
    · cases h
  · rename_i d e hd htd hx
    obtain ⟨hx1, hx2⟩ := ev_spec hx
    split at h
    · rename_i te kl l kh hh hte hl hhi
      obtain ⟨ie, z, htd', hie, hz, hzc, hzl, hsz, hby⟩ := tiOf_spec hte
      obtain ⟨l1, l2⟩ := bnd_spec hl
      obtain ⟨g1, g2⟩ := bnd_spec hhi
      injection h with h; injection h with h1 h2; injection h2 with h2 h3; subst h2; subst h3
      simp only [Bool.and_eq_true, lt_iff, decide_eq_true_eq] at h1
      exact ⟨does_sliceNil hop hd h1.1 (tdOf_slice htd) hie (.inr rfl) hx1 l1 g1 h1.2.1 h1.2.2, has_append hx2 (has_append l2 g2), trivial⟩
    · cases h
  · cases h

def nSlice0 (P : Program) [GT P] (nt : Nat) (dst : Option Nat) (t : TypeId) (x : Operand) (lo hi mx : Option Operand) (st : St) : XR :=
  match zero00 lo hi mx, dst, tdOf P t, st.ev x with
  | true, some d, some (.slice e), some (.msl q off len sz) => match tiOf P e with
    | some _ => some (lt d nt, rdOf x (.msl q off len sz), [.s d (some .nils)])
    | none => none
  | true, some d, some (.slice e), some .nils => match tiOf P e with
    | some _ => some (lt d nt, rdOf x .nils, [.s d (some .nils)])
    | none => none
  | true, some d, some (.slice e), some .nilsl => match tiOf P e with
    | some _ => some (lt d nt, rdOf x .nilsl, [.s d (some .nilsl)])
    | none => none
  | _, _, _, _ => none
theorem zero00_spec {lo hi mx : Option Operand} (h : zero00 lo hi mx = true) : (lo = none ∨ ∃ k, lo = some (.const (.int k 0))) ∧ ∃ k1 k2, hi = some (.const (.int k1 0)) ∧ mx = some (.const (.int k2 0)) := by
  unfold zero00 at h
  split at h
  · exact ⟨.inl rfl, _, _, rfl, rfl⟩
  · exact ⟨.inr ⟨_, rfl⟩, _, _, rfl, rfl⟩
  · cases h
theorem nSlice0_s {P : Program} [GT P] {nt : Nat} {o : Oper} {st : St} {t : TypeId} {x : Operand} {lo hi mx : Option Operand} {r : List Rd} {w : List Wr} (hop : o.op = .slice t x lo hi mx)
    (h : nSlice0 P nt o.dst t x lo hi mx st = some (true, r, w)) : NewOk P nt o st r w := by
  unfold nSlice0 at h
  split at h
  · rename_i d e q off len sz hz hd htd hx
    obtain ⟨z1, k1, k2, rfl, rfl⟩ := zero00_spec hz
    obtain ⟨hx1, hx2⟩ := ev_spec hx
    split at h
    · rename_i te hte
      obtain ⟨ie, z, htd', hie, hz, hzc, hzl, hsz, hby⟩ := tiOf_spec hte
      injection h with h; injection h with h1 h2; injection h2 with h2 h3; subst h2; subst h3
      exact ⟨does_slice00M hop z1 hd (lt_iff.1 h1) (tdOf_slice htd) hie (.inr (.inr ⟨⟨_, _, _, _, rfl⟩, rfl⟩)) hx1, hx2, trivial⟩
    · cases h
  · rename_i d e hz hd htd hx
    obtain ⟨z1, k1, k2, rfl, rfl⟩ := zero00_spec hz
    obtain ⟨hx1, hx2⟩ := ev_spec hx
    split at h
    · rename_i te hte
      obtain ⟨ie, z, htd', hie, hz, hzc, hzl, hsz, hby⟩ := tiOf_spec hte
      injection h with h; injection h with h1 h2; injection h2 with h2 h3; subst h2; subst h3
      exact ⟨does_slice00M hop z1 hd (lt_iff.1 h1) (tdOf_slice htd) hie (.inr (.inl ⟨rfl, rfl⟩)) hx1, hx2, trivial⟩
    · cases h
  · rename_i d e hz hd htd hx
    obtain ⟨z1, k1, k2, rfl, rfl⟩ := zero00_spec hz
    obtain ⟨hx1, hx2⟩ := ev_spec hx
    split at h
    · rename_i te hte
      obtain ⟨ie, z, htd', hie, hz, hzc, hzl, hsz, hby⟩ := tiOf_spec hte
      injection h with h; injection h with h1 h2; injection h2 with h2 h3; subst h2; subst h3
      exact ⟨does_slice00M hop z1 hd (lt_iff.1 h1) (tdOf_slice htd) hie (.inl ⟨rfl, rfl⟩) hx1, hx2, trivial⟩
    · cases h
  · cases h

def nEqNil (P : Program) [GT P] (nt : Nat) (dst : Option Nat) (op : BinOp) (t : TypeId) (x : Operand) (st : St) : XR :=
  match dst, st.ev x with
  | some d, some u => match nilTest u, op with
    | some b, .eql => some (lt d nt && isSliceT P t, rdOf x u, [.s d (some (.bool b))])
    | some b, .neq => some (lt d nt && isSliceT P t, rdOf x u, [.s d (some (.bool (!b)))])
    | _, _ => none
  | _, _ => none
theorem nEqNil_s {P : Program} [GT P] {nt : Nat} {o : Oper} {st : St} {op : BinOp} {t t' : TypeId} {x : Operand} {r : List Rd} {w : List Wr} (hop : o.op = .binOp op t x (.const (.slice none 0 0)) t')
    (h : nEqNil P nt o.dst op t x st = some (true, r, w)) : NewOk P nt o st r w := by
  unfold nEqNil at h
  split at h
  · rename_i d u hd hx
    obtain ⟨hx1, hx2⟩ := ev_spec hx
    split at h
    · rename_i b hb
      injection h with h; injection h with h1 h2; injection h2 with h2 h3; subst h2; subst h3
      simp only [Bool.and_eq_true, lt_iff] at h1
      obtain ⟨e, he⟩ := isSliceT_spec h1.2
      exact ⟨does_eqNil hop (.inl ⟨rfl, rfl⟩) hd h1.1 (tdOf_slice he) hb hx1, hx2, trivial⟩
    · rename_i b hb
      injection h with h; injection h with h1 h2; injection h2 with h2 h3; subst h2; subst h3
      simp only [Bool.and_eq_true, lt_iff] at h1
      obtain ⟨e, he⟩ := isSliceT_spec h1.2
      exact ⟨does_eqNil hop (.inr ⟨rfl, rfl⟩) hd h1.1 (tdOf_slice he) hb hx1, hx2, trivial⟩
    · cases h
  · cases h

def nAppendM (P : Program) [GT P] (nt : Nat) (dst : Option Nat) (t tx : TypeId) (s : Nat) (x : Operand) (st : St) : XR :=
  match dst, tdOf P t, getA st.fr s, st.ev x with
  | some d, some (.slice e), some v, some u => match tiOf P e, srcEls u with
    | some te, some ys => match v with
      | .msl q 0 len sz => match st.mem[q]? with
        | some obj => some (lt d nt && (Nat.beq sz te.size && (Nat.blt 0 te.size && (srcKindB P te.size tx u && (allLenB te.size ys && (Nat.blt 0 obj.length && (Nat.ble (len * te.size) obj.length && (Nat.blt 0 ys.length &&
            (Nat.ble ((len + ys.length) * te.bytes) 140737488355328 && Nat.ble (len + ys.length) 9223372036854775807)))))))),
            [.s s (.msl q 0 len sz)] ++ rdOf x u ++ [.o q obj, .new st.mem.length],
            [.o q [], .o st.mem.length (AV.roL (obj.take (len * sz)) ++ ys.flatten), .s d (some (.msl st.mem.length 0 (len + ys.length) sz))])
        | none => none
      | .nils => if GT.mutT P t then (match ys with
        | [] => some (lt d nt && (Nat.blt 0 te.size && srcKindB P te.size tx u), [.s s .nils] ++ rdOf x u, [.s d (some .nils)])
        | y :: r => some (lt d nt && (Nat.blt 0 te.size && (srcKindB P te.size tx u && (allLenB te.size (y :: r) && (Nat.ble ((0 + (y :: r).length) * te.bytes) 140737488355328 && Nat.ble (y :: r).length 9223372036854775807)))),
            [.s s .nils] ++ rdOf x u ++ [.new st.mem.length], [.o st.mem.length (y :: r).flatten, .s d (some (.msl st.mem.length 0 (y :: r).length te.size))])) else none
      | .nilsl => if GT.mutN P t then (match ys with
        | [] => some (lt d nt && (Nat.blt 0 te.size && srcKindB P te.size tx u), [.s s .nilsl] ++ rdOf x u, [.s d (some .nils)])
        | y :: r => some (lt d nt && (Nat.blt 0 te.size && (srcKindB P te.size tx u && (allLenB te.size (y :: r) && (Nat.ble ((0 + (y :: r).length) * te.bytes) 140737488355328 && Nat.ble (y :: r).length 9223372036854775807)))),
            [.s s .nilsl] ++ rdOf x u ++ [.new st.mem.length], [.o st.mem.length (y :: r).flatten, .s d (some (.msl st.mem.length 0 (y :: r).length te.size))])) else none
      | _ => none
    | _, _ => none
  | _, _, _, _ => none

theorem nAppendM_s {P : Program} [GT P] {nt : Nat} {o : Oper} {st : St} {t tx : TypeId} {s : Nat} {x : Operand} {r : List Rd} {w : List Wr} (hop : o.op = .call { callee := .builtin .append, args := #[.tmp s, x], argTypes := #[t, tx] })
    (h : nAppendM P nt o.dst t tx s x st = some (true, r, w)) : NewOk P nt o st r w := by
  unfold nAppendM at h
  split at h
  · rename_i d e v u hd htd hs hx
    obtain ⟨hx1, hx2⟩ := ev_spec hx
    have hnew : st.view.has (.new st.mem.length) := List.getElem?_eq_none (Nat.le_refl _)
    split at h
    · rename_i te ys hte hsrc
      obtain ⟨ie, z, htd', hie, hz, hzc, hzl, hsz, hby⟩ := tiOf_spec hte
      have hzs : z.cells.size = ie.size := by have := (constL_spec hzc).1; simp at this; omega
      split at h
      · rename_i q len sz
        split at h
        · rename_i obj hobj
          injection h with h; injection h with h1 h2; injection h2 with h2 h3; subst h2; subst h3
          simp only [Bool.and_eq_true, lt_iff, Nat.beq_eq, Nat.blt_eq, Nat.ble_eq] at h1
          obtain ⟨c1, c2, c3, c4, c5, c6, c7, c8, c9, c10⟩ := h1
          subst c2
          rw [← hsz] at *
          have hq : q < st.mem.length := (List.getElem?_eq_some_iff.1 hobj).1
          refine ⟨does_appendM hop hd c1 (tdOf_slice htd) hie hz hzs c3 hx1 (srcEls_spec hsrc) (srcKindB_s c4) (allLenB_s c5) (by rintro rfl; simp at c6) c7 c8 (by rw [hby]; exact c9) c10,
            has_append (has_append (has_one (r := .s s _) hs) hx2) (fun r hr => ?_), ⟨by omega, by omega, trivial⟩⟩
          simp only [List.mem_cons, List.not_mem_nil, or_false] at hr
          rcases hr with rfl | rfl
          · exact hobj
          · exact hnew
        · cases h
      · split at h
        · split at h
          · injection h with h; injection h with h1 h2; injection h2 with h2 h3; subst h2; subst h3
            simp only [Bool.and_eq_true, lt_iff, Nat.blt_eq] at h1
            rw [← hsz] at *
            exact ⟨does_append00 hop hd h1.1 (tdOf_slice htd) hie h1.2.1 (.inl rfl) hx1 (srcEls_spec hsrc) (srcKindB_s h1.2.2), has_append (has_one (r := .s s _) hs) hx2, trivial⟩
          · injection h with h; injection h with h1 h2; injection h2 with h2 h3; subst h2; subst h3
            simp only [Bool.and_eq_true, lt_iff, Nat.blt_eq, Nat.ble_eq] at h1
            obtain ⟨c1, c3, c4, c5, c9, c10⟩ := h1
            rw [← hsz] at *
            exact ⟨does_appendN hop hd c1 (tdOf_slice htd) hie hz hzs c3 (.inl rfl) hx1 (srcEls_spec hsrc) (srcKindB_s c4) (allLenB_s c5) (by simp) (by rw [hby]; exact c9) c10,
              has_append (has_append (has_one (r := .s s _) hs) hx2) (has_one hnew), ⟨Nat.le_refl _, trivial⟩⟩
        · cases h
      · split at h
        · split at h
          · injection h with h; injection h with h1 h2; injection h2 with h2 h3; subst h2; subst h3
            simp only [Bool.and_eq_true, lt_iff, Nat.blt_eq] at h1
            rw [← hsz] at *
            exact ⟨does_append00 hop hd h1.1 (tdOf_slice htd) hie h1.2.1 (.inr rfl) hx1 (srcEls_spec hsrc) (srcKindB_s h1.2.2), has_append (has_one (r := .s s _) hs) hx2, trivial⟩
          · injection h with h; injection h with h1 h2; injection h2 with h2 h3; subst h2; subst h3
            simp only [Bool.and_eq_true, lt_iff, Nat.blt_eq, Nat.ble_eq] at h1
            obtain ⟨c1, c3, c4, c5, c9, c10⟩ := h1
            rw [← hsz] at *
            exact ⟨does_appendN hop hd c1 (tdOf_slice htd) hie hz hzs c3 (.inr rfl) hx1 (srcEls_spec hsrc) (srcKindB_s c4) (allLenB_s c5) (by simp) (by rw [hby]; exact c9) c10,
              has_append (has_append (has_one (r := .s s _) hs) hx2) (has_one hnew), ⟨Nat.le_refl _, trivial⟩⟩
        · cases h
      · cases h
    · cases h
  · cases h

def nCopy (P : Program) [GT P] (nt : Nat) (dst : Option Nat) (t : TypeId) (x y : Operand) (st : St) : XR :=
  match dst, tdOf P t, st.ev x, st.ev y with
  | some d, some (.slice e), some (.msl q off len sz), some u => match tiOf P e, st.mem[q]? with
    | some te, some obj => match u with
      | .list own ys => some (lt d nt && (Nat.beq sz te.size && (Nat.blt 0 te.size && (allLenB te.size ys && (Nat.blt 0 obj.length && Nat.ble (off + Nat.min ys.length len * te.size) obj.length)))),
          rdOf x (.msl q off len sz) ++ [.o q obj] ++ rdOf y (.list own ys), [.o q (splice obj off (ys.take (Nat.min ys.length len)).flatten), .s d (some (.int .i64 (Nat.min ys.length len)))])
      | .msl q2 off2 len2 sz2 => match st.mem[q2]? with
        | some obj2 => some (lt d nt && (Nat.beq sz te.size && (Nat.beq sz2 te.size && (Nat.blt 0 obj2.length && (obj2.all AV.plain && (Nat.ble (off2 + Nat.min len2 len * te.size) obj2.length &&
            (Nat.blt 0 obj.length && Nat.ble (off + Nat.min len2 len * te.size) obj.length)))))),
          rdOf x (.msl q off len sz) ++ [.o q obj] ++ (rdOf y (.msl q2 off2 len2 sz2) ++ [.o q2 obj2]),
          [.o q (splice obj off (AV.roL ((obj2.drop off2).take (Nat.min len2 len * sz2)))), .s d (some (.int .i64 (Nat.min len2 len)))])
        | none => none
      | _ => none
    | _, _ => none
  | _, _, _, _ => none
theorem nCopy_s {P : Program} [GT P] {nt : Nat} {o : Oper} {st : St} {t tx : TypeId} {x y : Operand} {r : List Rd} {w : List Wr} (hop : o.op = .call { callee := .builtin .copy, args := #[x, y], argTypes := #[t, tx] })
    (h : nCopy P nt o.dst t x y st = some (true, r, w)) : NewOk P nt o st r w := by
  unfold nCopy at h
  split at h
  · rename_i d e q off len sz u hd htd hx hy
    obtain ⟨hx1, hx2⟩ := ev_spec hx
    obtain ⟨hy1, hy2⟩ := ev_spec hy
    split at h
    · rename_i te obj hte hobj
      have hq : q < st.mem.length := (List.getElem?_eq_some_iff.1 hobj).1
      obtain ⟨ie, z, htd', hie, hz, hzc, hzl, hsz, hby⟩ := tiOf_spec hte
      split at h
      · rename_i own ys
        injection h with h; injection h with h1 h2; injection h2 with h2 h3; subst h2; subst h3
        simp only [Bool.and_eq_true, lt_iff, Nat.beq_eq, Nat.blt_eq, Nat.ble_eq] at h1
        obtain ⟨c1, c2, c3, c4, c5, c6⟩ := h1
        subst c2
        rw [← hsz] at c3 c4 c6 hx1 hx2 ⊢
        refine ⟨does_copyOf hop hd c1 (tdOf_slice htd) hie hx1 rfl (by rintro rfl; simp at c5) c6 (fun Γ S a w R ι ω hr hrel => ?_), has_append (has_append hx2 (has_one hobj)) hy2, ⟨by omega, trivial⟩⟩
        exact srcPre_list (hy1.rep hrel hr) (allLenB_s c4) c3 (Nat.min_le_left _ _)
      · rename_i q2 off2 len2 sz2
        split at h
        · rename_i obj2 hobj2
          injection h with h; injection h with h1 h2; injection h2 with h2 h3; subst h2; subst h3
          simp only [Bool.and_eq_true, lt_iff, Nat.beq_eq, Nat.blt_eq, Nat.ble_eq] at h1
          obtain ⟨c1, c2, c2', c3, c4, c5, c6, c7⟩ := h1
          subst c2; subst c2'
          rw [← hsz] at *
          refine ⟨does_copyOf hop hd c1 (tdOf_slice htd) hie hx1 rfl (by rintro rfl; simp at c6) c7 (fun Γ S a w R ι ω hr hrel => ?_), has_append (has_append hx2 (has_one hobj)) (has_append hy2 (has_one hobj2)), ⟨by omega, trivial⟩⟩
          obtain ⟨r1, r2⟩ := mem_app hr
          exact srcPre_msl hrel (hy1.rep hrel r1) (r2 (.o q2 obj2) (by simp)) (by rintro rfl; simp at c3) c4 (Nat.min_le_left _ _) c5
        · cases h
      · cases h
    · cases h
  · cases h

def xNew (P : Program) [GT P] (nt : Nat) (o : Oper) (st : St) : XR :=
  match o.op with
  | .call { callee := .builtin .len, args := ⟨[x]⟩, argTypes := tys } => nLenM P nt o.dst tys x st
  | .indexAddr t x i => match nIndexM P nt o.dst t x i st with
    | some r => some r
    | none => xNewA P nt o st
  | .slice t x lo hi mx => match nSlice0 P nt o.dst t x lo hi mx st with
    | some r => some r
    | none => nSliceM P nt o.dst t x lo hi mx st
  | .makeSlice t x y => nMakeSlice P nt o.dst t x y st
  | .buildSlice t n parts => match nBuildSlice P nt o.dst t n parts st with
    | some r => some r
    | none => xNewA P nt o st
  | .call { callee := .builtin .copy, args := ⟨[x, y]⟩, argTypes := ⟨[t, _]⟩ } => nCopy P nt o.dst t x y st
  | .binOp op t x (.const (.slice none 0 0)) _ => nEqNil P nt o.dst op t x st
  | .call { callee := .builtin .append, args := ⟨[.tmp s, x]⟩, argTypes := ⟨[t, tx]⟩ } => nAppendM P nt o.dst t tx s x st
  | _ => xNewA P nt o st

theorem xNew_s {P : Program} [GT P] {nt : Nat} {o : Oper} {st : St} {r : List Rd} {w : List Wr} (h : xNew P nt o st = some (true, r, w)) : NewOk P nt o st r w := by
  unfold xNew at h
  split at h
  · rename_i hop; exact nLenM_s hop h
  · rename_i hop
    split at h
    · rename_i r' hr; injection h with h; subst h; exact nIndexM_s hop hr
    · exact xNewA_s h
  · rename_i hop
    split at h
    · rename_i r' hr; injection h with h; subst h; exact nSlice0_s hop hr
    · exact nSliceM_s hop h
  · rename_i hop; exact nMakeSlice_s hop h
  · rename_i hop
    split at h
    · rename_i r' hr; injection h with h; subst h; exact nBuildSlice_s hop hr
    · exact xNewA_s h
  · rename_i hop; exact nCopy_s hop h
  · rename_i hop; exact nEqNil_s hop h
  · rename_i hop; exact nAppendM_s hop h
  · exact xNewA_s h

end Go.Aw
end
section
set_option linter.unusedSimpArgs false
set_option linter.unusedVariables false
namespace Go.Aw
open Go.RowKit
section
variable {Γ : Gam} {g : Nat → Option AV} {m : Nat → Option (List AV)} {a : Act} {w : World} {R : Ext0} {ι : Nat → Option Nat} {ω : Nat → Option (List Nat)}

theorem ext_freeze {b : Nat} : Ext w R w (upd R b none) :=
  ⟨Nat.le_refl _, fun b' off v hv hs => ⟨hv, fun n hn => by
    by_cases he : b' = b
    · subst he; rw [upd_same] at hn; cases hn
    · rw [upd_ne _ _ he] at hn; exact hs n hn⟩, fun _ arr e fz h => ⟨arr, e, fz, h, Nat.le_refl _⟩⟩

/-- Nobody writes an object any more: its cells are stable. -/
theorem Rel.freeze (h : Rel Γ g m a w R ι ω) {o b : Nat} {obj : List AV} (ho : m o = some obj) (hne : obj ≠ []) (hb : ι o = some b) : Rel Γ g (upd m o (some [])) a w (upd R b none) ι ω := by
  have hlo := lv_some ho hne
  have hE : Ext w R w (upd R b none) := ext_freeze
  have hO : ∀ k q, ω k = some q → w.heap[k]? = w.heap[k]? ∧ upd R b none k = R k ∧ ω k = ω k := fun k q hk => by
    refine ⟨rfl, upd_ne _ _ ?_, rfl⟩
    rintro rfl
    exact h.mr.sep k q hk o hlo hb
  have lift : ∀ {p v x}, Rep w R ι ω p v x → Rep w (upd R b none) ι ω p v x := fun hrep => hrep.ext hE (fun _ _ h => h) (fun k q hk _ => hO k q hk)
  have hlv : ∀ o', lv (upd m o (some [])) o' → o' ≠ o ∧ lv m o' := by
    intro o' hl
    by_cases he : o' = o
    · subst he; obtain ⟨c, l, hc⟩ := hl; rw [upd_same] at hc; cases hc
    · exact ⟨he, lv_ne he hl⟩
  refine ⟨fun d v hv => ?_, h.nt, h.nodef, ⟨fun o' obj' ho' => ?_, fun o' obj' ho' hne' => ?_, fun o1 o2 b' l1 l2 => h.mr.inj o1 o2 b' (hlv _ l1).2 (hlv _ l2).2, fun k p hk o' hl => h.mr.sep k p hk o' (hlv _ hl).2, h.mr.ilt, h.mr.olt⟩,
    h.env.step hE rfl rfl rfl (fun b' hb' hl _ => ⟨rfl, upd_ne _ _ (fun he => hl o hlo (he ▸ hb))⟩) (fun _ _ h => h) (fun o' b' hl hb' => .inl ⟨o', (hlv _ hl).2, hb'⟩) (fun k p hk => .inl ⟨p, hk⟩)⟩
  · obtain ⟨x, hx, hr⟩ := h.slots d v hv; exact ⟨x, hx, lift hr⟩
  · by_cases he : o' = o
    · subst he; exact ⟨b, hb⟩
    · rw [upd_ne _ _ he] at ho'; exact h.mr.dom _ _ ho'
  · by_cases he : o' = o
    · subst he; rw [upd_same] at ho'; injection ho' with ho'; subst ho'; exact absurd rfl hne'
    · rw [upd_ne _ _ he] at ho'
      obtain ⟨b1, arr1, e1, k1, k2, k3, k4, k5⟩ := h.mr.objs o' obj' ho' hne'
      have hnb : b1 ≠ b := by rintro rfl; exact he (h.mr.inj _ _ _ (lv_some ho' hne') hlo k1 hb)
      refine ⟨b1, arr1, e1, k1, k2, k3, (upd_ne _ _ hnb).trans k4, fun c v hv => ?_⟩
      obtain ⟨x, hx, hr⟩ := k5 c v hv
      exact ⟨x, hx, lift hr⟩

end

/-- What a slice into such an object is from then on. -/
theorem frozen_val {w : World} {R : Ext0} {ι : Nat → Option Nat} {ω : Nat → Option (List Nat)} {p : List Nat} {o off len sz b : Nat} {arr : Array Value} {e : TypeId} {obj : List AV} {x : Value}
    (hb : ι o = some b) (hw : w.heap[b]? = some (.cells arr e (0, 0))) (hc : ∀ (c : Nat) v, obj[c]? = some v → ∃ y, arr[c]? = some y ∧ Rep w R ι ω [1, o, c] v y) (hd : obj.all AV.data = true) (h0 : 0 < sz)
    (hfit : off + len * sz ≤ obj.length) (hx : Rep w R ι ω p (.msl o off len sz) x) : PRep w (upd R b none) (.list none (chunks sz (AV.roL (obj.drop off)) len)) x := by
  obtain ⟨b', c, rfl, hb', hlc, _⟩ := hx.msl_inv
  rw [hb] at hb'; injection hb' with hb'; subst hb'
  have hl : (chunks sz (AV.roL (obj.drop off)) len).length = len := chunks_length _ _ _
  have hrl : (AV.roL (obj.drop off)).length = obj.length - off := by rw [roL_length, List.length_drop]
  have hg : ∀ (j : Nat) (y : List AV), (chunks sz (AV.roL (obj.drop off)) len)[j]? = some y → j < len ∧ y = ((AV.roL (obj.drop off)).drop (j * sz)).take sz := by
    intro j y hy
    have hj := (List.getElem?_eq_some_iff.1 hy).1
    rw [hl] at hj
    rw [chunks_get sz len _ j hj] at hy
    injection hy with hy
    exact ⟨hj, hy.symm⟩
  have hin : ∀ j q, j < len → q < sz → off + j * sz + q < obj.length := by
    intro j q hj hq
    have : (j + 1) * sz ≤ len * sz := Nat.mul_le_mul_right _ hj
    rw [Nat.succ_mul] at this; omega
  have hcell : ∀ j q, j < len → q < sz → ∃ u y, obj[off + j * sz + q]? = some u ∧ arr[off + j * sz + q]? = some y ∧ PRep w R u.ro y := by
    intro j q hj hq
    have ho := List.getElem?_eq_getElem (hin j q hj hq)
    obtain ⟨y, hy, hyr⟩ := hc _ _ ho
    exact ⟨_, y, ho, hy, hyr.data (List.all_eq_true.1 hd _ (List.mem_of_getElem? ho))⟩
  have key : PRep w (upd R b none) (.list none (chunks sz (AV.roL (obj.drop off)) len)) (.slice (some ⟨b, off, none⟩) (chunks sz (AV.roL (obj.drop off)) len).length c) := by
    refine .list _ sz b off c (fun j q => (arr[off + j * sz + q]?).getD undef) (by rw [hl]; exact hlc) (fun j y hy => ?_) (fun j q hj hq => ?_) (fun j y hy q v hv => ?_)
    · obtain ⟨hj, rfl⟩ := hg j y hy
      rw [List.length_take, List.length_drop, hrl]
      have : (j + 1) * sz ≤ len * sz := Nat.mul_le_mul_right _ hj
      rw [Nat.succ_mul] at this; omega
    · rw [hl] at hj
      obtain ⟨u, y, h1, h2, _⟩ := hcell j q hj hq
      refine ⟨by rw [cell_of_heap hw, h2]; rfl, fun n hn => by rw [upd_same] at hn; cases hn⟩
    · obtain ⟨hj, rfl⟩ := hg j y hy
      have hq : q < sz := by have := (List.getElem?_eq_some_iff.1 hv).1; rw [List.length_take] at this; omega
      rw [List.getElem?_take_of_lt hq, List.getElem?_drop] at hv
      obtain ⟨u', hu', rfl⟩ := roL_get hv
      rw [List.getElem?_drop] at hu'
      obtain ⟨u, y, h1, h2, h3⟩ := hcell j q hj hq
      rw [show off + (j * sz + q) = off + j * sz + q from by omega, h1] at hu'
      injection hu' with hu'; subst hu'
      simp only [h2, Option.getD_some]
      exact h3.ext ext_freeze
  rw [hl] at key
  exact key

end Go.Aw
end
section
set_option linter.unusedSimpArgs false
set_option linter.unusedVariables false
namespace Go.Aw
open Go.RowKit

/-! ### Slices into a frozen object, told as lists -/
mutual
def AV.frz (o : Nat) (obj : List AV) : AV → AV
  | .msl q off len sz => if q = o then .list none (chunks sz (AV.roL (obj.drop off)) len) else .msl q off len sz
  | .func n a c => .func n (AV.frzL o obj a) (AV.frzL o obj c)
  | .iface t v => .iface t (AV.frz o obj v)
  | .agg cs => .agg (AV.frzL o obj cs)
  | .tup vs => .tup (AV.frzL o obj vs)
  | .bool b => .bool b
  | .int k n => .int k n
  | .str s => .str s
  | .nils => .nils
  | .list w xs => .list w xs
  | .ptr q f => .ptr q f
  | .eptr x f => .eptr x f
  | .nilptr => .nilptr
  | .nilfunc => .nilfunc
  | .niliface => .niliface
  | .rawp a => .rawp a
  | .nilsl => .nilsl
def AV.frzL (o : Nat) (obj : List AV) : List AV → List AV
  | [] => []
  | v :: r => AV.frz o obj v :: AV.frzL o obj r
end
mutual
def AV.frzOk (o n : Nat) : AV → Bool
  | .msl q off len sz => !(Nat.beq q o) || (Nat.blt 0 sz && Nat.ble (off + len * sz) n)
  | .func _ a c => AV.frzOkL o n a && AV.frzOkL o n c
  | .iface _ v => AV.frzOk o n v
  | .agg cs => AV.frzOkL o n cs
  | .tup vs => AV.frzOkL o n vs
  | .bool _ => true
  | .int _ _ => true
  | .str _ => true
  | .nils => true
  | .list _ _ => true
  | .ptr _ _ => true
  | .eptr _ _ => true
  | .nilptr => true
  | .nilfunc => true
  | .niliface => true
  | .rawp _ => true
  | .nilsl => true
def AV.frzOkL (o n : Nat) : List AV → Bool
  | [] => true
  | v :: r => AV.frzOk o n v && AV.frzOkL o n r
end
theorem frzL_eq (o : Nat) (obj : List AV) (l : List AV) : AV.frzL o obj l = l.map (AV.frz o obj) := by
  induction l with
  | nil => rfl
  | cons a r ih => simp only [AV.frzL, List.map_cons, ih]
theorem frzL_length (o : Nat) (obj : List AV) (l : List AV) : (AV.frzL o obj l).length = l.length := by rw [frzL_eq, List.length_map]
theorem frzL_get {o : Nat} {obj : List AV} {l : List AV} {i : Nat} {v : AV} (h : (AV.frzL o obj l)[i]? = some v) : ∃ u, l[i]? = some u ∧ v = u.frz o obj := by
  rw [frzL_eq, List.getElem?_map] at h
  cases hu : l[i]? with
  | none => rw [hu] at h; cases h
  | some u => rw [hu] at h; exact ⟨u, rfl, by injection h with h; exact h.symm⟩
theorem frzOkL_get {o n : Nat} : ∀ {l : List AV} {i : Nat} {u : AV}, AV.frzOkL o n l = true → l[i]? = some u → u.frzOk o n = true
  | [], i, u, _, h => by simp at h
  | a :: r, i, u, hk, h => by
    simp only [AV.frzOkL, Bool.and_eq_true] at hk
    cases i with
    | zero => simp at h; subst h; exact hk.1
    | succ i => simp at h; exact frzOkL_get hk.2 h
theorem PRep.frz {w : World} {R : Ext0} {v : AV} {x : Value} (h : PRep w R v x) (o : Nat) (obj : List AV) : v.frz o obj = v := by cases h <;> rfl

theorem Rep.frz {w : World} {R : Ext0} {ι : Nat → Option Nat} {ω : Nat → Option (List Nat)} {p : List Nat} {o b : Nat} {arr : Array Value} {e : TypeId} {obj : List AV} {v : AV} {x : Value}
    (hb : ι o = some b) (hw : w.heap[b]? = some (.cells arr e (0, 0))) (hc : ∀ (c : Nat) v, obj[c]? = some v → ∃ y, arr[c]? = some y ∧ Rep w R ι ω [1, o, c] v y) (hd : obj.all AV.data = true)
    (hO : ∀ k q, ω k = some q → k ≠ b) (hx : Rep w R ι ω p v x) (hk : v.frzOk o obj.length = true) : Rep w (upd R b none) ι ω p (v.frz o obj) x := by
  induction hx with
  | pure p v x h => rw [h.frz]; exact .pure p v x (h.ext ext_freeze)
  | ownnil p sz a => exact .ownnil p sz a
  | own p xs sz k off c h hsz hown hw' =>
    exact .own p xs sz k off c (h.ext ext_freeze) hsz ⟨hown.at_, hown.le, (upd_ne _ _ (hO k p hw')).trans hown.lim⟩ hw'
  | ptr p q off b' h => exact .ptr p q off b' h
  | msl p q off len sz b' c h hlc hcap =>
    simp only [AV.frz]
    split
    · rename_i hq
      subst hq
      simp only [AV.frzOk, Bool.or_eq_true, Bool.and_eq_true, Bool.not_eq_true', Nat.blt_eq, Nat.ble_eq] at hk
      rcases hk with hk | hk
      · simp at hk
      · exact .pure p _ _ (frozen_val hb hw hc hd hk.1 hk.2 (.msl p q off len sz b' c h hlc hcap))
    · exact .msl p q off len sz b' c h hlc hcap
  | func p n first cap first' cap' h1 h2 g1 g2 ih1 ih2 =>
    simp only [AV.frzOk, Bool.and_eq_true] at hk
    refine .func p n _ _ first' cap' (by rw [frzL_length]; exact h1) (by rw [frzL_length]; exact h2) ?_ ?_
    · intro i v x hv hx
      obtain ⟨u, hu, rfl⟩ := frzL_get hv
      exact ih1 i u x hu hx (frzOkL_get hk.1 hu)
    · intro i v x hv hx
      obtain ⟨u, hu, rfl⟩ := frzL_get hv
      exact ih2 i u x hu hx (frzOkL_get hk.2 hu)
  | nilfunc p => exact .nilfunc p
  | iface p t v x h ih => exact .iface p t _ x (ih hk)
  | agg p cs vs hl h ih =>
    refine .agg p _ vs (by rw [frzL_length]; exact hl) ?_
    intro i v x hv hx
    obtain ⟨u, hu, rfl⟩ := frzL_get hv
    exact ih i u x hu hx (frzOkL_get hk hu)
  | tup p cs vs hl h ih =>
    refine .tup p _ vs (by rw [frzL_length]; exact hl) ?_
    intro i v x hv hx
    obtain ⟨u, hu, rfl⟩ := frzL_get hv
    exact ih i u x hu hx (frzOkL_get hk hu)

end Go.Aw
end
section
set_option linter.unusedSimpArgs false
set_option linter.unusedVariables false
namespace Go.Aw
open Go.RowKit

def frzFr (o : Nat) (obj : List AV) : List (Nat × AV) → List (Nat × AV)
  | [] => []
  | (d, v) :: r => (d, v.frz o obj) :: frzFr o obj r
def frzFrOk (o n : Nat) : List (Nat × AV) → Bool
  | [] => true
  | (_, v) :: r => v.frzOk o n && frzFrOk o n r
def frzMem (o : Nat) (obj : List AV) : Nat → List (List AV) → List (List AV)
  | _, [] => []
  | i, x :: r => (if i = o then [] else AV.frzL o obj x) :: frzMem o obj (i + 1) r
def frzMemOk (o n : Nat) : List (List AV) → Bool
  | [] => true
  | x :: r => AV.frzOkL o n x && frzMemOk o n r
theorem frzFr_get {o : Nat} {obj : List AV} : ∀ {l : List (Nat × AV)} {d : Nat} {v : AV}, getA (frzFr o obj l) d = some v → ∃ u, getA l d = some u ∧ v = u.frz o obj
  | [], d, v, h => by cases h
  | (e, x) :: r, d, v, h => by
    simp only [frzFr, getA] at h ⊢
    split at h
    · rename_i he; rw [if_pos he]; injection h with h; exact ⟨x, rfl, h.symm⟩
    · rename_i he; rw [if_neg he]; exact frzFr_get h
theorem frzFrOk_get {o n : Nat} : ∀ {l : List (Nat × AV)} {d : Nat} {u : AV}, frzFrOk o n l = true → getA l d = some u → u.frzOk o n = true
  | [], d, u, _, h => by cases h
  | (e, x) :: r, d, u, hk, h => by
    simp only [frzFrOk, Bool.and_eq_true] at hk
    simp only [getA] at h
    split at h
    · injection h with h; subst h; exact hk.1
    · exact frzFrOk_get hk.2 h
theorem frzMem_get {o : Nat} {obj : List AV} : ∀ {l : List (List AV)} {k i : Nat} {y : List AV}, (frzMem o obj k l)[i]? = some y → ∃ x, l[i]? = some x ∧ y = (if k + i = o then [] else AV.frzL o obj x)
  | [], k, i, y, h => by simp [frzMem] at h
  | x :: r, k, 0, y, h => by simp only [frzMem, List.getElem?_cons_zero, Option.some.injEq] at h; exact ⟨x, rfl, by simpa using h.symm⟩
  | x :: r, k, i + 1, y, h => by
    simp only [frzMem, List.getElem?_cons_succ] at h
    obtain ⟨z, h1, h2⟩ := frzMem_get h
    exact ⟨z, by simpa using h1, by rwa [show k + 1 + i = k + (i + 1) from by omega] at h2⟩
theorem frzMem_length {o : Nat} {obj : List AV} : ∀ {l : List (List AV)} {k : Nat}, (frzMem o obj k l).length = l.length
  | [], _ => rfl
  | x :: r, k => by simp only [frzMem, List.length_cons, frzMem_length]
theorem frzMemOk_get {o n : Nat} : ∀ {l : List (List AV)} {i : Nat} {u : List AV}, frzMemOk o n l = true → l[i]? = some u → AV.frzOkL o n u = true
  | [], i, u, _, h => by simp at h
  | a :: r, i, u, hk, h => by
    simp only [frzMemOk, Bool.and_eq_true] at hk
    cases i with
    | zero => simp at h; subst h; exact hk.1
    | succ i => simp at h; exact frzMemOk_get hk.2 h

def St.freeze (st : St) (o : Nat) (obj : List AV) : St := ⟨frzFr o obj st.fr, frzMem o obj 0 st.mem⟩

theorem relV_freeze {Γ : Gam} {st : St} {a : Act} {w : World} {o : Nat} {obj : List AV} (ho : st.mem[o]? = some obj) (hne : obj ≠ []) (hd : obj.all AV.data = true)
    (h1 : frzFrOk o obj.length st.fr = true) (h2 : frzMemOk o obj.length st.mem = true) (h : RelV Γ st.view a w) : RelV Γ (st.freeze o obj).view a w := by
  obtain ⟨R, ι, ω, hr, hdom⟩ := h
  have hm : st.view.m o = some obj := ho
  obtain ⟨b, arr, e, k1, k2, k3, k4, k5⟩ := hr.mr.objs o obj hm hne
  have hO : ∀ k q, ω k = some q → k ≠ b := fun k q hk he => by subst he; exact hr.mr.sep k q hk o (lv_some hm hne) k1
  have hf := hr.freeze hm hne k1
  have hlv : ∀ o', lv (st.freeze o obj).view.m o' → lv (upd st.view.m o (some [])) o' := by
    intro o' hl
    obtain ⟨c, l, hc⟩ := hl
    have hc' : (frzMem o obj 0 st.mem)[o']? = some (c :: l) := hc
    obtain ⟨x, hx, he⟩ := frzMem_get hc'
    rw [Nat.zero_add] at he
    split at he
    · cases he
    · rename_i hne'
      refine lv_some (obj := x) ((upd_ne _ _ hne').trans hx) ?_
      rintro rfl
      simp [AV.frzL] at he
  refine ⟨upd R b none, ι, ω, ⟨fun d v hv => ?_, hf.nt, hf.nodef, ⟨fun o' obj' ho' => ?_, fun o' obj' ho' hne' => ?_, fun o1 o2 b' l1 l2 => hf.mr.inj o1 o2 b' (hlv _ l1) (hlv _ l2), fun k p hk o' hl => hf.mr.sep k p hk o' (hlv _ hl), hf.mr.ilt, hf.mr.olt⟩, hf.env.mem (fun o' _ hl => hlv o' hl)⟩, fun n b' hb' => ?_⟩
  · obtain ⟨u, hu, rfl⟩ := frzFr_get (show getA (frzFr o obj st.fr) d = some v from hv)
    obtain ⟨x, hx, hxr⟩ := hr.slots d u hu
    exact ⟨x, hx, hxr.frz k1 k2 k5 hd hO (frzFrOk_get h1 hu)⟩
  · obtain ⟨x, hx, _⟩ := frzMem_get (show (frzMem o obj 0 st.mem)[o']? = some obj' from ho')
    exact hr.mr.dom o' x hx
  · obtain ⟨x, hx, he⟩ := frzMem_get (show (frzMem o obj 0 st.mem)[o']? = some obj' from ho')
    rw [Nat.zero_add] at he
    split at he
    · exact absurd he hne'
    · rename_i hoo
      subst he
      have hxn : x ≠ [] := by rintro rfl; exact hne' rfl
      obtain ⟨b1, arr1, e1, g1, g2, g3, g4, g5⟩ := hr.mr.objs o' x hx hxn
      have hnb : b1 ≠ b := by rintro rfl; exact hoo (hr.mr.inj _ _ _ (lv_some (m := st.view.m) hx hxn) (lv_some hm hne) g1 k1)
      refine ⟨b1, arr1, e1, g1, g2, by rw [frzL_length]; exact g3, (upd_ne _ _ hnb).trans g4, fun c v hv => ?_⟩
      obtain ⟨u, hu, rfl⟩ := frzL_get hv
      obtain ⟨y, hy, hyr⟩ := g5 c u hu
      exact ⟨y, hy, hyr.frz k1 k2 k5 hd hO (frzOkL_get (frzMemOk_get h2 hx) hu)⟩
  · obtain ⟨ob, hob⟩ := hdom n b' hb'
    have hlt : n < st.mem.length := (List.getElem?_eq_some_iff.1 (show st.mem[n]? = some ob from hob)).1
    exact ⟨_, List.getElem?_eq_getElem (show n < (frzMem o obj 0 st.mem).length by rw [frzMem_length]; exact hlt)⟩

end Go.Aw
end
