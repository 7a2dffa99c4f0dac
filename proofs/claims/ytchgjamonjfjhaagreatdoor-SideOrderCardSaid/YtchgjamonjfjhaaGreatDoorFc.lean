/-
  A part of the proof of SideOrderCardSaid (see the last text, Om): no statement of its own, no condition.
-/
import Derived.Test.YtchgjamonjfjhaaGreatDoorFb
import Derived.Lib.ConvBytes
import Derived.Laws.BytesArg
set_option linter.unusedSimpArgs false
set_option linter.unusedVariables false
section
set_option linter.unusedSimpArgs false
namespace Go.Aw
open Go.RowKit
open Go.Lib (bytesWorld bytesCells run_convert_string_bytes bytesWorld_cell bytesWorld_at_new)

/-- Bytes as a slice's elements. -/
def byteEls (b : List UInt8) : List (List AV) := b.map fun c => [AV.int .u8 (c.toNat : Int)]
theorem strEls_eq (s : ByteArray) : strEls s = byteEls s.data.toList := rfl
theorem byteEls_length (b : List UInt8) : (byteEls b).length = b.length := List.length_map _

/-! ### Cuts -/
def OpdO : Option Operand → IntKind → Int → Int → Prop
  | none, _, n, dflt => n = dflt
  | some x, k, n, _ => Opd x (.int k n)
def rdO : Option Operand → IntKind → Int → List Rd
  | none, _, _ => []
  | some x, k, n => rdOf x (.int k n)

theorem OpdO.val {Γ : Gam} {S : Vw} {a : Act} {w : World} {R : Ext0} {ι : Nat → Option Nat} {ω : Nat → Option (List Nat)} (h : Rel Γ S.g S.m a w R ι ω)
    {x : Option Operand} {k : IntKind} {n d : Int} (ho : OpdO x k n d) (hr : ∀ r, r ∈ rdO x k n → S.has r) : (x = none ∧ n = d) ∨ ∃ y, x = some y ∧ a.eval y = .int k n := by
  cases x with
  | none => exact .inl ⟨rfl, ho⟩
  | some y => exact .inr ⟨y, rfl, (Opd.rep h ho hr).int_inv⟩

theorem run_sliceBound {P : Program} [GT P] {w : World} {k : IntKind} {n : Int} {y : Nat} {code : BoundsCode} (h0 : 0 ≤ n) (h1 : n ≤ y) : (Instr.sliceBound (.int k n) y code).run P w = .ok n.toNat w := by
  simp [Instr.sliceBound, asIntOf, h0, h1]

theorem does_sliceList {P : Program} [GT P] {nt : Nat} {o : Oper} {d t e : Nat} {x : Operand} {lo hi : Option Operand} {kl kh : IntKind} {l h : Int} {own : Option Nat} {xs : List (List AV)} {i : TypeInfo}
    (hop : o.op = .slice t x lo hi none) (hdst : o.dst = some d) (hd : d < nt) (ht : P.underlying t = some (.slice e)) (hi' : P.info? e = some i)
    (hsz : ∀ (j : Nat) (y : List AV), xs[j]? = some y → y.length = i.size) (hx : Opd x (.list own xs)) (hlo : OpdO lo kl l 0) (hhi : OpdO hi kh h xs.length) (h0 : 0 ≤ l) (h1 : l ≤ h) (h2 : h ≤ xs.length) :
    Does P nt o (rdOf x (.list own xs) ++ (rdO lo kl l ++ rdO hi kh h)) [.s d (some (.list none ((xs.take h.toNat).drop l.toNat)))] :=
  does_value hdst hd fun Γ S a w R ι ω hrd hrel => by
    obtain ⟨r1, r23⟩ := mem_app hrd
    obtain ⟨r2, r3⟩ := mem_app r23
    have hP : PRep w R (.list none xs) (a.eval x) := (hx.rep hrel r1).data rfl
    have vlo := hlo.val hrel r2
    have vhi := hhi.val hrel r3
    generalize hX : a.eval x = X at hP
    have hform : ∃ ad c, X = .slice ad xs.length c ∧ xs.length ≤ c := by
      cases hP with
      | empty a c => exact ⟨a, c, rfl, Nat.zero_le _⟩
      | list xs sz b off c val hc => exact ⟨_, c, rfl, hc⟩
    obtain ⟨ad, c, rfl, hc⟩ := hform
    have hbounds : (Instr.sliceBounds true xs.length c (lo.map a.eval) (hi.map a.eval) none).run P w = .ok (l.toNat, h.toNat, c) w := by
      unfold Instr.sliceBounds
      rcases vlo with ⟨rfl, rfl⟩ | ⟨y, rfl, hy⟩ <;> rcases vhi with ⟨rfl, rfl⟩ | ⟨y2, rfl, hy2⟩
      · simp
      · simp [hy2, run_sliceBound (P := P) (w := w) (k := kh) (n := h) (y := c) (by omega : (0 : Int) ≤ h) (by omega)]
      · simp [hy, run_sliceBound (P := P) (w := w) (k := kl) (n := l) (y := xs.length) h0 (by omega)]
      · simp [hy, hy2, run_sliceBound (P := P) (w := w) (k := kh) (n := h) (y := c) (by omega : (0 : Int) ≤ h) (by omega),
          run_sliceBound (P := P) (w := w) (k := kl) (n := l) (y := h.toNat) h0 (by omega)]
    have hrun : (Instr.sliceAt t (.slice ad xs.length c) (lo.map a.eval) (hi.map a.eval) none).run P w = .ok (.slice (if c = l.toNat then ad else ad.map (·.add (l.toNat * i.size))) (h.toNat - l.toNat) (c - l.toNat)) w := by
      simp [Instr.sliceAt, Instr.slice, run_underlying ht, hbounds, sizeOf, typeInfo, hi']
    refine ⟨.slice (if c = l.toNat then ad else ad.map (·.add (l.toNat * i.size))) (h.toNat - l.toNat) (c - l.toNat), ?_, .pure _ _ _ ?_⟩
    · simp [execOp, hop, hX, hrun]
    · have hlen : ((xs.take h.toNat).drop l.toNat).length = h.toNat - l.toNat := by simp; omega
      by_cases hz : h.toNat - l.toNat = 0
      · have : (xs.take h.toNat).drop l.toNat = [] := List.length_eq_zero_iff.1 (by omega)
        rw [this, hz]
        exact .empty _ _
      · cases hP with
        | empty a c => simp at h2; omega
        | list _ sz b off c val hc' hsz' hcell hval =>
          have hs2 : sz = i.size := by
            have h1 := List.getElem?_eq_getElem (show 0 < xs.length by omega)
            rw [← hsz' 0 _ h1, hsz 0 _ h1]
          subst hs2
          rw [if_neg (by omega), ← hlen]
          simp only [Option.map_some, Addr.add_lit]
          have hget : ∀ (j : Nat) (y : List AV), ((xs.take h.toNat).drop l.toNat)[j]? = some y → xs[l.toNat + j]? = some y ∧ l.toNat + j < h.toNat := by
            intro j y hy
            have hj := (List.getElem?_eq_some_iff.1 hy).1
            rw [hlen] at hj
            rw [List.getElem?_drop, List.getElem?_take_of_lt (by omega)] at hy
            exact ⟨hy, by omega⟩
          refine .list _ i.size b (off + l.toNat * i.size) _ (fun j q => val (l.toNat + j) q) (by rw [hlen]; omega) (fun j y hy => hsz _ y (hget j y hy).1) (fun j q hj hq => ?_) (fun j y hy q v hv => hval _ y (hget j y hy).1 q v hv)
          rw [hlen] at hj
          have := hcell (l.toNat + j) q (by omega) hq
          rw [Nat.add_mul] at this
          rw [show off + l.toNat * i.size + j * i.size + q = off + (l.toNat * i.size + j * i.size) + q from by omega]
          exact this

/-- 's[:0:0]': nothing, and no room. -/
theorem does_slice00 {P : Program} [GT P] {nt : Nat} {o : Oper} {d t e : Nat} {x : Operand} {lo : Option Operand} {k1 k2 : IntKind} {own : Option Nat} {xs : List (List AV)} {i : TypeInfo}
    (hop : o.op = .slice t x lo (some (.const (.int k1 0))) (some (.const (.int k2 0)))) (hlo : lo = none ∨ ∃ k, lo = some (.const (.int k 0))) (hdst : o.dst = some d) (hd : d < nt) (ht : P.underlying t = some (.slice e)) (hi' : P.info? e = some i) (hx : Opd x (.list own xs)) :
    Does P nt o (rdOf x (.list own xs)) [.s d (some .nils)] :=
  does_value hdst hd fun Γ S a w R ι ω hrd hrel => by
    have hP : PRep w R (.list none xs) (a.eval x) := (hx.rep hrel hrd).data rfl
    generalize hX : a.eval x = X at hP
    have hform : ∃ ad c, X = .slice ad xs.length c := by
      cases hP with
      | empty a c => exact ⟨a, c, rfl⟩
      | list xs sz b off c val hc => exact ⟨_, c, rfl⟩
    obtain ⟨ad, c, rfl⟩ := hform
    refine ⟨.slice ad 0 0, ?_, .pure _ _ _ (.nils _)⟩
    have h0 : ∀ (k : IntKind) (y : Nat) (code : BoundsCode), (Instr.sliceBound (.int k 0) y code).run P w = .ok 0 w := fun k y code => run_sliceBound (by omega) (by omega)
    have hcst : ∀ v, a.eval (.const v) = v := fun _ => rfl
    rcases hlo with rfl | ⟨k, rfl⟩ <;> simp [execOp, hop, hX, Instr.sliceAt, Instr.slice, Instr.sliceBounds, run_underlying ht, hcst, h0, sizeOf, typeInfo, hi']

theorem does_sliceStr {P : Program} [GT P] {nt : Nat} {o : Oper} {d t : Nat} {x : Operand} {lo hi : Option Operand} {kl kh : IntKind} {l h : Int} {s : ByteArray}
    (hop : o.op = .slice t x lo hi none) (hdst : o.dst = some d) (hd : d < nt) (ht : P.underlying t = some .string)
    (hx : Opd x (.str s)) (hlo : OpdO lo kl l 0) (hhi : OpdO hi kh h s.size) (h0 : 0 ≤ l) (h1 : l ≤ h) (h2 : h ≤ s.size) :
    Does P nt o (rdOf x (.str s) ++ (rdO lo kl l ++ rdO hi kh h)) [.s d (some (.str (s.extract l.toNat h.toNat)))] :=
  does_value hdst hd fun Γ S a w R ι ω hrd hrel => by
    obtain ⟨r1, r23⟩ := mem_app hrd
    obtain ⟨r2, r3⟩ := mem_app r23
    have hX := (hx.rep hrel r1).str_inv
    have vlo := hlo.val hrel r2
    have vhi := hhi.val hrel r3
    have hbounds : (Instr.sliceBounds false s.size s.size (lo.map a.eval) (hi.map a.eval) none).run P w = .ok (l.toNat, h.toNat, s.size) w := by
      unfold Instr.sliceBounds
      rcases vlo with ⟨rfl, rfl⟩ | ⟨y, rfl, hy⟩ <;> rcases vhi with ⟨rfl, rfl⟩ | ⟨y2, rfl, hy2⟩
      · simp
      · simp [hy2, run_sliceBound (P := P) (w := w) (k := kh) (n := h) (y := s.size) (by omega : (0 : Int) ≤ h) (by omega)]
      · simp [hy, run_sliceBound (P := P) (w := w) (k := kl) (n := l) (y := s.size) h0 (by omega)]
      · simp [hy, hy2, run_sliceBound (P := P) (w := w) (k := kh) (n := h) (y := s.size) (by omega : (0 : Int) ≤ h) (by omega),
          run_sliceBound (P := P) (w := w) (k := kl) (n := l) (y := h.toNat) h0 (by omega)]
    refine ⟨.string (s.extract l.toNat h.toNat), ?_, .pure _ _ _ (.str _)⟩
    simp [execOp, hop, hX, Instr.sliceAt, Instr.slice, run_underlying ht, hbounds]

/-! ### Bytes and strings -/
theorem does_bytesStr {P : Program} [GT P] {nt : Nat} {o : Oper} {d t t' e : Nat} {x : Operand} {own : Option Nat} {b : List UInt8} (hop : o.op = .convert t t' x) (hdst : o.dst = some d) (hd : d < nt)
    (ht : P.underlying t = some (.slice e)) (he : P.underlying e = some (.int .u8)) (ht' : P.underlying t' = some .string) (hx : Opd x (.list own (byteEls b))) :
    Does P nt o (rdOf x (.list own (byteEls b))) [.s d (some (.str ⟨b.toArray⟩))] :=
  does_value hdst hd fun Γ S a w R ι ω hrd hrel => by
    have hP : PRep w R (.list none (byteEls b)) (a.eval x) := (hx.rep hrel hrd).data rfl
    refine ⟨.string ⟨b.toArray⟩, ?_, .pure _ _ _ (.str _)⟩
    have hstr : strOfNums (b.map fun c => (c.toNat : Int)) = ⟨b.toArray⟩ := by
      unfold strOfNums
      simp [Function.comp_def]
    generalize hX : a.eval x = X at hP
    have hconv : (convert t t' X).run P w = .ok (.string ⟨b.toArray⟩) w := by
      generalize hB : byteEls b = B at hP
      cases hP with
      | empty ad c =>
        have : b = [] := by simpa [byteEls] using hB
        subst this
        cases ad with
        | none => exact run_convert_bytes_nil (P := P) w t e ht he 0 c t' ht'
        | some ad =>
          obtain ⟨blk, off, sp⟩ := ad
          unfold convert
          rw [Sem.run_bind, run_underlying ht w]
          simp only [Result.andThen_ok]
          rw [Sem.run_bind, run_underlying ht' w]
          simp only [Result.andThen_ok]
          rw [Sem.run_bind, run_underlying he w]
          simp [Conv.bytesToString, loadCells, loadCellsFrom]
          rfl
      | list _ sz blk off c val hc hsz hcell hval =>
        by_cases hn : B = []
        · subst hn
          have : b = [] := by simpa [byteEls] using hB
          subst this
          have := run_convert_bytes_arg (P := P) w t e ht he blk off 0 c [] rfl (fun i hi => absurd hi (by omega)) t' ht'
          simpa [strOfNums] using this
        · have hl : B.length = b.length := by rw [← hB, byteEls_length]
          have hBget : ∀ (i : Nat) (q : UInt8), b[i]? = some q → B[i]? = some [AV.int .u8 (q.toNat : Int)] := by
            intro i q hq
            rw [← hB]; unfold byteEls; rw [List.getElem?_map, hq]; rfl
          have hs1 : sz = 1 := by
            have hpos : 0 < b.length := by have := List.length_pos_iff.2 hn; omega
            have h2 := hsz 0 _ (hBget 0 _ (List.getElem?_eq_getElem hpos))
            simpa using h2.symm
          subst hs1
          have := run_convert_bytes_arg (P := P) w t e ht he blk off B.length c (b.map fun c => (c.toNat : Int)) (by simp [hl]) (fun i hi => by
            have h1 := (hcell i 0 hi (by omega)).1
            have hbi : b[i]? = some (b[i]'(by omega)) := List.getElem?_eq_getElem (by omega)
            have hBi := hBget i _ hbi
            have h2 := hval i _ hBi 0 _ rfl
            cases hvv : val i 0 with
            | int k n =>
              rw [hvv] at h2
              cases h2
              rw [hvv] at h1
              simp only [Nat.mul_one, Nat.add_zero] at h1
              rw [h1, List.getD_eq_getElem?_getD, List.getElem?_map, hbi]; rfl
            | _ => rw [hvv] at h2; cases h2) t' ht'
          rw [hstr] at this
          exact this
    simp [execOp, hop, hX, hconv]

theorem freeze_alloc (w : World) (C : Array Value) (e : TypeId) : (w.alloc (.cells C e)).freeze ⟨w.heap.size, C.size, none⟩ 1 = w.alloc (.cells C e (C.size, C.size + 1)) := by
  have : ((w.heap.push (.cells C e)).modify w.heap.size fun | .cells c elem (lo, hi) => .cells c elem (if lo == hi then (C.size, C.size + 1) else (min lo C.size, max hi (C.size + 1))) | o => o) = w.heap.push (.cells C e (C.size, C.size + 1)) := by
    apply Array.ext_getElem?
    intro i
    rw [Array.getElem?_modify, Array.getElem?_push, Array.getElem?_push]
    by_cases hi : i = w.heap.size
    · subst hi; simp
    · rw [if_neg (by omega), if_neg hi, if_neg hi]
  simp only [World.freeze]
  rw [if_neg (by omega)]
  exact congrArg (fun h => ({ heap := h, tape := w.tape, drawn := w.drawn, os := w.os, output := w.output } : World)) this

theorem does_strBytes {P : Program} [GT P] {nt : Nat} {o : Oper} {d t t' e : Nat} {x : Operand} {s : ByteArray} {u : TypeDesc} (hop : o.op = .convert t t' x) (hdst : o.dst = some d) (hd : d < nt)
    (ht : P.underlying t = some u) (ht' : P.underlying t' = some (.slice e)) (he : P.underlying e = some (.int .u8)) (hx : Opd x (.str s)) :
    Does P nt o (rdOf x (.str s)) [.s d (some (.list (some 1) (strEls s)))] := by
  intro Γ S a w next Q hnt hr hrel hn
  have hntn := hnt.1
  obtain ⟨R, ι, ω, hrel, hdom⟩ := hrel
  have hX := (hx.rep hrel hr).str_inv
  have hrun := Lib.run_convert_string_bytes (P := P) w t t' e s ht ht' he
  refine wp_value (x := .slice (some ⟨w.heap.size, 0, none⟩) s.size (grownCap w s.size 0 e)) (w' := bytesWorld w e s) ?_ (hn _ _ ?_)
  · simp [execOp, hop, hX, hrun]
  · rw [hdst]
    have hl : (strEls s).length = s.size := by unfold strEls; rw [List.length_map, Array.length_toList]; rfl
    have hge := grownCap_ge w s.size 0 e
    have hw : bytesWorld w e s = w.drew.alloc (.cells (bytesCells w e s) e ((bytesCells w e s).size, (bytesCells w e s).size + 1)) := by
      unfold bytesWorld
      exact freeze_alloc w.drew _ e
    have hcs : (bytesCells w e s).size = grownCap w s.size 0 e := by
      have h3 : s.data.size = s.size := rfl
      simp [bytesCells]
      omega
    rw [hw, ← hl]
    refine ⟨_, ι, _, hrel.drew.allocRow (d := d) (xs := strEls s) (sz := 1) (c := grownCap w (strEls s).length 0 e) (arr := bytesCells w e s) (by omega) e _ (by intro i hi hh; simp at hh; omega) (by rw [hl]; exact hge)
      (by rw [hl, hcs]; omega) ?_ (fun j _ => .int .u8 (s.data.toList.getD j 0).toNat) ?_ ?_, hdom⟩
    · intro j y hy
      unfold strEls at hy
      rw [List.getElem?_map] at hy
      cases hb : s.data.toList[j]? with
      | none => rw [hb] at hy; cases hy
      | some q => rw [hb] at hy; simp only [Option.map_some] at hy; injection hy with hy; subst hy; rfl
    · intro j i hj hi
      obtain rfl : i = 0 := by omega
      have := bytesWorld_cell w e s j (by omega)
      rw [World.cell?, bytesWorld_at_new] at this
      simpa using this
    · intro j y hy i v hv
      unfold strEls at hy
      rw [List.getElem?_map] at hy
      cases hb : s.data.toList[j]? with
      | none => rw [hb] at hy; cases hy
      | some q =>
        rw [hb] at hy; simp only [Option.map_some] at hy; injection hy with hy; subst hy
        cases i with
        | zero =>
          simp at hv; subst hv
          rw [List.getD_eq_getElem?_getD, hb]; exact .int _ _
        | succ i => simp at hv

end Go.Aw
end
section
set_option linter.unusedSimpArgs false
namespace Go.Aw
open Go.RowKit

/-! ### What is known of a type -/
inductive TD where
  | int (k : IntKind)
  | bool
  | string
  | slice (e : TypeId)
  | array (n : Nat) (e : TypeId)
  | struct (places : List (Nat × Nat))
  | iface
  | other

structure TI where
  d : TD
  size : Nat
  bytes : Nat
  zero : List AV

def tdOf (P : Program) (t : TypeId) : Option TD :=
  match P.underlying t with
  | some (.int k) => some (.int k)
  | some .bool => some .bool
  | some .string => some .string
  | some (.slice e) => some (.slice e)
  | some (.array n e) => some (.array n e)
  | some (.struct fields) => (fields.toList.mapM (fun f => (P.info? f.type).map fun i => (f.offset, i.size))).map .struct
  | some (.interface _) => some .iface
  | some _ => some .other
  | none => none

def tiOf (P : Program) (t : TypeId) : Option TI :=
  match tdOf P t, P.info? t with
  | some d, some i => match i.zero with
    | some z => match constL z.cells.toList with
      | some zs => if zs.length = i.size then some ⟨d, i.size, i.bytes, zs⟩ else none
      | none => none
    | none => none
  | _, _ => none

def TD.row : TD → Bool
  | .struct _ => true
  | .array _ _ => true
  | _ => false

theorem tiOf_spec {P : Program} {t : TypeId} {ti : TI} (h : tiOf P t = some ti) :
    ∃ i z, tdOf P t = some ti.d ∧ P.info? t = some i ∧ i.zero = some z ∧ constL z.cells.toList = some ti.zero ∧ ti.zero.length = i.size ∧ i.size = ti.size ∧ i.bytes = ti.bytes := by
  unfold tiOf at h
  split at h
  · rename_i d i hd hi
    split at h
    · rename_i z hz
      split at h
      · rename_i zs hzs
        split at h
        · rename_i hl
          injection h with h; subst h
          exact ⟨i, z, hd, hi, hz, hzs, hl, rfl, rfl⟩
        · cases h
      · cases h
    · cases h
  · cases h

theorem tdOf_int {P : Program} {t : TypeId} {k : IntKind} (h : tdOf P t = some (.int k)) : P.underlying t = some (.int k) := by
  unfold tdOf at h
  split at h <;> first | (cases h; done) | (injection h with h; cases h; assumption) | skip
  all_goals (cases hm : (List.mapM _ _ : Option _) <;> rw [hm] at h <;> cases h)
theorem tdOf_bool {P : Program} {t : TypeId} (h : tdOf P t = some .bool) : P.underlying t = some .bool := by
  unfold tdOf at h
  split at h <;> first | (cases h; done) | (injection h with h; cases h; assumption) | assumption | skip
  all_goals (cases hm : (List.mapM _ _ : Option _) <;> rw [hm] at h <;> cases h)
theorem tdOf_string {P : Program} {t : TypeId} (h : tdOf P t = some .string) : P.underlying t = some .string := by
  unfold tdOf at h
  split at h <;> first | (cases h; done) | (injection h with h; cases h; assumption) | assumption | skip
  all_goals (cases hm : (List.mapM _ _ : Option _) <;> rw [hm] at h <;> cases h)
theorem tdOf_slice {P : Program} {t e : TypeId} (h : tdOf P t = some (.slice e)) : P.underlying t = some (.slice e) := by
  unfold tdOf at h
  split at h <;> first | (cases h; done) | (injection h with h; cases h; assumption) | skip
  all_goals (cases hm : (List.mapM _ _ : Option _) <;> rw [hm] at h <;> cases h)
theorem tdOf_array {P : Program} {t e : TypeId} {n : Nat} (h : tdOf P t = some (.array n e)) : P.underlying t = some (.array n e) := by
  unfold tdOf at h
  split at h <;> first | (cases h; done) | (injection h with h; cases h; assumption) | skip
  all_goals (cases hm : (List.mapM _ _ : Option _) <;> rw [hm] at h <;> cases h)
theorem tdOf_struct {P : Program} {t : TypeId} {places : List (Nat × Nat)} (h : tdOf P t = some (.struct places)) :
    ∃ fields, P.underlying t = some (.struct fields) ∧ fields.toList.mapM (fun f => (P.info? f.type).map fun i => (f.offset, i.size)) = some places := by
  unfold tdOf at h
  split at h <;> first | (cases h; done) | (injection h with h; cases h; done) | skip
  rename_i fields hf
  cases hm : fields.toList.mapM (fun f => (P.info? f.type).map fun i => (f.offset, i.size)) with
  | none => rw [hm] at h; cases h
  | some pl => rw [hm] at h; simp only [Option.map_some] at h; injection h with h; cases h; exact ⟨fields, hf, hm⟩

/-- A type's description, and whether it is a row. -/
theorem tdOf_row {P : Program} {t : TypeId} {d : TD} (h : tdOf P t = some d) : ∃ dt, P.underlying t = some dt ∧ dt.isRow = d.row ∧ ((∀ ms, dt ≠ .interface ms) ∨ d = .iface) := by
  unfold tdOf at h
  cases hu : P.underlying t with
  | none => rw [hu] at h; cases h
  | some dt =>
    rw [hu] at h
    refine ⟨dt, rfl, ?_, ?_⟩
    · cases dt <;> simp only at h <;> first
        | (injection h with h; subst h; rfl)
        | (rename_i fields; cases hm : fields.toList.mapM (fun f => (P.info? f.type).map fun i => (f.offset, i.size)) <;> rw [hm] at h <;> first | (cases h; done) | (simp only [Option.map_some] at h; injection h with h; subst h; rfl))
    · cases dt <;> first
        | (left; intro ms hh; cases hh; done)
        | (right; simp only at h; injection h with h; exact h.symm)

theorem place_field {P : Program} {fields : Array Field} {places : List (Nat × Nat)} (h : fields.toList.mapM (fun f => (P.info? f.type).map fun i => (f.offset, i.size)) = some places) {f off sz : Nat} (hp : places[f]? = some (off, sz)) :
    ∃ fl i, fields[f]? = some fl ∧ P.info? fl.type = some i ∧ fl.offset = off ∧ i.size = sz := by
  have key : ∀ (l : List Field) (places : List (Nat × Nat)) (f : Nat), l.mapM (fun f => (P.info? f.type).map fun i => (f.offset, i.size)) = some places → places[f]? = some (off, sz) →
      ∃ fl i, l[f]? = some fl ∧ P.info? fl.type = some i ∧ fl.offset = off ∧ i.size = sz := by
    intro l
    induction l with
    | nil => intro places f h hp; simp at h; subst h; simp at hp
    | cons a l ih =>
      intro places f h hp
      simp only [List.mapM_cons, Option.bind_eq_bind, Option.pure_def] at h
      cases hi : P.info? a.type with
      | none => simp [hi] at h
      | some i =>
        cases hr : l.mapM (fun f => (P.info? f.type).map fun i => (f.offset, i.size)) with
        | none => simp [hi, hr] at h
        | some rest =>
          simp [hi, hr] at h
          subst h
          cases f with
          | zero => simp at hp; exact ⟨a, i, by simp, hi, hp.1, hp.2⟩
          | succ f =>
            simp at hp
            obtain ⟨fl, i', h1, h2, h3, h4⟩ := ih rest f hr hp
            exact ⟨fl, i', by simpa using h1, h2, h3, h4⟩
  obtain ⟨fl, i, h1, h2, h3, h4⟩ := key fields.toList places f h hp
  exact ⟨fl, i, by simpa using h1, h2, h3, h4⟩

theorem placesOf_struct {P : Program} [GT P] {t : TypeId} {places : List (Nat × Nat)} (h : tdOf P t = some (.struct places)) : placesOf P t = some fun i => places[i]? := by
  obtain ⟨fields, h1, h2⟩ := tdOf_struct h
  unfold placesOf
  rw [h1]; simp only; rw [h2]
theorem placesOf_array {P : Program} [GT P] {t e : TypeId} {n : Nat} {te : TI} (h : tdOf P t = some (.array n e)) (he : tiOf P e = some te) : placesOf P t = some fun i => some (i * te.size, te.size) := by
  obtain ⟨i, z, _, hi, _, _, _, hs, _⟩ := tiOf_spec he
  unfold placesOf
  rw [tdOf_array h]; simp only; rw [hi]; simp only; rw [hs]

end Go.Aw
end
section
set_option linter.unusedSimpArgs false
namespace Go.Aw
open Go.RowKit

/-! ### The state of a walk -/
structure St where
  fr : List (Nat × AV)
  mem : List (List AV)

def getA : List (Nat × AV) → Nat → Option AV
  | [], _ => none
  | (d, v) :: r, t => if d = t then some v else getA r t
def setA : List (Nat × AV) → Nat → AV → List (Nat × AV)
  | [], t, u => [(t, u)]
  | (d, v) :: r, t, u => if d = t then (d, u) :: r else (d, v) :: setA r t u
def delA : List (Nat × AV) → Nat → List (Nat × AV)
  | [], _ => []
  | (d, v) :: r, t => if d = t then delA r t else (d, v) :: delA r t

theorem getA_setA (l : List (Nat × AV)) (t : Nat) (u : AV) (e : Nat) : getA (setA l t u) e = if e = t then some u else getA l e := by
  induction l with
  | nil => by_cases h : e = t <;> simp [setA, getA, h]; omega
  | cons p l ih =>
    obtain ⟨d, v⟩ := p
    by_cases h : d = t
    · subst h
      simp only [setA, if_true, getA]
      by_cases h2 : e = d
      · subst h2; simp
      · rw [if_neg (Ne.symm h2), if_neg h2, if_neg (Ne.symm h2)]
    · simp only [setA, h, if_false, getA]
      by_cases h2 : d = e
      · subst h2; simp [h]
      · rw [if_neg h2, ih, if_neg h2]
theorem getA_delA (l : List (Nat × AV)) (t e : Nat) : getA (delA l t) e = if e = t then none else getA l e := by
  induction l with
  | nil => simp [delA, getA]
  | cons p l ih =>
    obtain ⟨d, v⟩ := p
    by_cases h : d = t
    · subst h
      simp only [delA, if_true, ih, getA]
      by_cases h2 : e = d
      · subst h2; simp
      · rw [if_neg h2, if_neg h2, if_neg (Ne.symm h2)]
    · simp only [delA, h, if_false, getA]
      by_cases h2 : d = e
      · subst h2; simp [h]
      · rw [if_neg h2, ih, if_neg h2]

def St.view (st : St) : Vw := ⟨getA st.fr, fun o => st.mem[o]?⟩
def setM (mem : List (List AV)) (n : Nat) (obj : List AV) : List (List AV) := if n < mem.length then mem.set n obj else mem ++ [obj]
def St.put (st : St) : Wr → St
  | .s d (some v) => ⟨setA st.fr d v, st.mem⟩
  | .s d none => ⟨delA st.fr d, st.mem⟩
  | .o n obj => ⟨st.fr, setM st.mem n obj⟩
def St.puts (st : St) : List Wr → St
  | [] => st
  | x :: l => (st.put x).puts l

def wfW (len : Nat) : List Wr → Prop
  | [] => True
  | .s _ _ :: l => wfW len l
  | .o n _ :: l => n ≤ len ∧ wfW (max len (n + 1)) l

theorem setM_get (mem : List (List AV)) (n : Nat) (obj : List AV) (h : n ≤ mem.length) (o : Nat) : (setM mem n obj)[o]? = if o = n then some obj else mem[o]? := by
  unfold setM
  by_cases hn : n < mem.length
  · rw [if_pos hn]
    by_cases ho : o = n
    · subst ho; rw [if_pos rfl, List.getElem?_set_self hn]
    · rw [if_neg ho, List.getElem?_set_ne (Ne.symm ho)]
  · rw [if_neg hn]
    have : n = mem.length := by omega
    subst this
    by_cases ho : o = mem.length
    · subst ho; simp
    · rw [if_neg ho]
      by_cases h2 : o < mem.length
      · rw [List.getElem?_append_left h2]
      · rw [List.getElem?_append_right (by omega), List.getElem?_eq_none (by simp; omega), List.getElem?_eq_none (by omega)]
theorem setM_length (mem : List (List AV)) (n : Nat) (obj : List AV) (h : n ≤ mem.length) : (setM mem n obj).length = max mem.length (n + 1) := by
  unfold setM
  by_cases hn : n < mem.length
  · rw [if_pos hn, List.length_set]; omega
  · rw [if_neg hn]; simp; omega

theorem view_puts (st : St) : ∀ (l : List Wr), wfW st.mem.length l → (st.puts l).view = st.view.puts l
  | [], _ => rfl
  | .s d v :: l, h => by
    have hv : (st.put (.s d v)).view = st.view.put (.s d v) := by
      cases v with
      | none => simp only [St.put, St.view, Vw.put]; congr 1; funext e; rw [getA_delA]; rfl
      | some v => simp only [St.put, St.view, Vw.put]; congr 1; funext e; rw [getA_setA]; rfl
    have hm : (st.put (.s d v)).mem = st.mem := by cases v <;> rfl
    rw [St.puts, view_puts _ l (by rw [hm]; exact h), hv]; rfl
  | .o n obj :: l, h => by
    have hv : (st.put (.o n obj)).view = st.view.put (.o n obj) := by
      simp only [St.put, St.view, Vw.put]
      congr 1; funext o; rw [setM_get _ _ _ h.1]; rfl
    rw [St.puts, view_puts _ l (by simp only [St.put]; rw [setM_length _ _ _ h.1]; exact h.2), hv]; rfl

def St.ev (st : St) : Operand → Option AV
  | .tmp t => getA st.fr t
  | .const c => constAV c
  | .func f => some (.func f [] [])
  | .global _ => none

theorem ev_spec {st : St} {x : Operand} {v : AV} (h : st.ev x = some v) : Opd x v ∧ ∀ r, r ∈ rdOf x v → st.view.has r := by
  cases x with
  | tmp t => exact ⟨trivial, fun r hr => by simp only [rdOf, List.mem_singleton] at hr; subst hr; exact h⟩
  | const c => exact ⟨h, fun r hr => by simp [rdOf] at hr⟩
  | global g => cases h
  | func f => simp only [St.ev] at h; injection h with h; exact ⟨h.symm, fun r hr => by simp [rdOf] at hr⟩

def St.evs (st : St) : List Operand → Option (List AV)
  | [] => some []
  | x :: r => match st.ev x with
    | some v => match st.evs r with
      | some l => some (v :: l)
      | none => none
    | none => none

theorem evs_spec {st : St} : ∀ {xs : List Operand} {vs : List AV}, st.evs xs = some vs → Opds xs vs ∧ ∀ r, r ∈ rdsOf xs vs → st.view.has r
  | [], vs, h => by simp only [St.evs] at h; injection h with h; subst h; exact ⟨trivial, fun r hr => by simp [rdsOf] at hr⟩
  | x :: xs, vs, h => by
    simp only [St.evs] at h
    cases hx : st.ev x with
    | none => rw [hx] at h; cases h
    | some v =>
      rw [hx] at h; simp only at h
      cases hr : st.evs xs with
      | none => rw [hr] at h; cases h
      | some l =>
        rw [hr] at h; simp only at h; injection h with h; subst h
        obtain ⟨h1, h2⟩ := ev_spec hx
        obtain ⟨h3, h4⟩ := evs_spec hr
        refine ⟨⟨h1, h3⟩, fun r hr => ?_⟩
        simp only [rdsOf, List.mem_append] at hr
        rcases hr with hr | hr
        · exact h2 r hr
        · exact h4 r hr

def isTmp (d : Nat) : Option Operand → Bool
  | some (.tmp s) => s == d
  | _ => false
/-- Is what slot d holds used up later in this region? -/
def usesUp (d : Nat) (o : Oper) : Bool :=
  match o.op with
  | .call { callee := .builtin .append, args := args, .. } => isTmp d (args[0]?)
  | .assign (.tmp s) => s == d
  | .store _ _ (.tmp s) => s == d
  | .extract (.tmp s) _ => s == d
  | _ => false
def consumed : List Oper → Nat → Bool
  | [], _ => false
  | o :: r, d => usesUp d o || (match o.op, o.dst with | .move (.tmp s), some e => s == d && consumed r e | _, _ => false) || consumed r d

def owns : AV → Bool
  | .list (some _) _ => true
  | .nils => true
  | .tup _ => true
  | _ => false

abbrev K2 := List Rd → List Wr → Prop
def Snd (P : Program) [GT P] (nt : Nat) (o : Oper) (st : St) (X : K2 → Prop) : Prop :=
  ∀ k, X k → ∃ rds wrs, Does P nt o rds wrs ∧ (∀ r, r ∈ rds → st.view.has r) ∧ wfW st.mem.length wrs ∧ k rds wrs

theorem does_const {P : Program} [GT P] {nt : Nat} {o : Oper} {d : Nat} {c : Value} {v : AV} (hop : o.op = .move (.const c) ∨ o.op = .assign (.const c)) (hdst : o.dst = some d) (hd : d < nt) (hx : constAV c = some v) :
    Does P nt o [] [.s d (some v)] :=
  does_value hdst hd fun Γ S a w R ι ω hr hrel => by
    refine ⟨c, ?_, constAV_rep hx w R ι ω _⟩
    rcases hop with h | h <;> simp [execOp, h, Act.eval]

/-! ### Steps -/
def stMove (nt : Nat) (asg : Bool) (rest : List Oper) (dst : Option Nat) (x : Operand) (st : St) (k : K2) : Prop :=
  match dst, x with
  | some d, .tmp s => match getA st.fr s with
    | some v => d < nt ∧ if ((asg || consumed rest d) && owns v && s != d) = true then k [.s s v] [.s s (some v.ro), .s d (some v)] else k [.s s v] [.s d (some v.ro)]
    | none => False
  | some d, .const c => match constAV c with
    | some v => d < nt ∧ k [] [.s d (some v)]
    | none => False
  | some d, .func f => d < nt ∧ k [] [.s d (some (.func f [] []))]
  | _, _ => False

theorem stMove_snd {P : Program} [GT P] {nt : Nat} {o : Oper} {st : St} {x : Operand} (asg : Bool) (rest : List Oper) (hop : o.op = .move x ∨ o.op = .assign x) : Snd P nt o st (stMove nt asg rest o.dst x st) := by
  intro k h
  unfold stMove at h
  split at h
  · rename_i d s hd
    split at h
    · rename_i v hv
      obtain ⟨hlt, h⟩ := h
      have hhas : ∀ r, r ∈ [Rd.s s v] → st.view.has r := fun r hr => by simp at hr; subst hr; exact hv
      split at h
      · rename_i hc
        have hne : s ≠ d := by simp at hc; exact hc.2
        exact ⟨_, _, does_hand hop hd hlt hne, hhas, trivial, h⟩
      · exact ⟨_, _, does_move (x := .tmp s) hop hd hlt trivial, hhas, trivial, h⟩
    · exact h.elim
  · rename_i d c hd
    split at h
    · rename_i v hv
      exact ⟨_, _, does_const hop hd h.1 hv, fun r hr => by simp at hr, trivial, h.2⟩
    · exact h.elim
  · rename_i d f hd
    exact ⟨_, _, does_move (x := .func f) (v := .func f [] []) hop hd h.1 rfl, fun r hr => by simp [rdOf] at hr, trivial, h.2⟩
  · exact h.elim

def stLoad (P : Program) [GT P] (nt : Nat) (rest : List Oper) (dst : Option Nat) (t : TypeId) (x : Operand) (st : St) (k : K2) : Prop :=
  match dst, st.ev x, tiOf P t with
  | some d, some (.ptr n off), some ti => match st.mem[n]? with
    | some obj =>
      if ti.d.row = true then (d < nt ∧ (0 < ti.size ∧ off + ti.size ≤ obj.length)) ∧ k (rdOf x (.ptr n off) ++ [.o n obj]) [.s d (some (.agg (AV.roL ((obj.drop off).take ti.size))))]
      else match obj[off]? with
        | some v => d < nt ∧ if (consumed rest d && owns v) = true then k (rdOf x (.ptr n off) ++ [.o n obj]) [.o n (obj.set off v.ro), .s d (some v)]
          else k (rdOf x (.ptr n off) ++ [.o n obj]) [.s d (some v.ro)]
        | none => False
    | none => False
  | some d, some (.eptr y off), some ti =>
    if ti.d.row = true then (d < nt ∧ off + ti.size ≤ y.length) ∧ k (rdOf x (.eptr y off)) [.s d (some (.agg ((y.drop off).take ti.size)))]
    else match y[off]? with
      | some v => d < nt ∧ k (rdOf x (.eptr y off)) [.s d (some v)]
      | none => False
  | _, _, _ => False

theorem has_append {S : Vw} {a b : List Rd} (h1 : ∀ r, r ∈ a → S.has r) (h2 : ∀ r, r ∈ b → S.has r) : ∀ r, r ∈ a ++ b → S.has r := by
  intro r hr
  rcases List.mem_append.1 hr with h | h
  · exact h1 r h
  · exact h2 r h
theorem has_one {S : Vw} {r : Rd} (h : S.has r) : ∀ q, q ∈ [r] → S.has q := fun q hq => by simp at hq; subst hq; exact h

theorem stLoad_snd {P : Program} [GT P] {nt : Nat} {o : Oper} {st : St} {t : TypeId} {x : Operand} (rest : List Oper) (hop : o.op = .load t x) : Snd P nt o st (stLoad P nt rest o.dst t x st) := by
  intro k h
  unfold stLoad at h
  split at h
  · rename_i d n off ti hd hx hti
    obtain ⟨hx1, hx2⟩ := ev_spec hx
    obtain ⟨i, z, htd, hi, hz, hzc, hzl, hsz, hby⟩ := tiOf_spec hti
    obtain ⟨dt, hdt, hrow, _⟩ := tdOf_row htd
    split at h
    · rename_i obj hobj
      have hm : st.view.has (.o n obj) := hobj
      split at h
      · rename_i hr
        obtain ⟨⟨hlt, hl⟩, h⟩ := h
        exact ⟨_, _, does_loadAgg hop hd hlt hdt (hrow.trans hr) (by rw [hi]; simp [hsz]) hx1 hl.1 hl.2, has_append hx2 (has_one hm), trivial, h⟩
      · rename_i hr
        split at h
        · rename_i v hv
          obtain ⟨hlt, h⟩ := h
          have hr' : dt.isRow = false := by rw [hrow]; simpa using hr
          split at h
          · refine ⟨_, _, does_loadHand hop hd hlt hdt hr' hx1 hv, has_append hx2 (has_one hm), ?_, h⟩
            have : n < st.mem.length := (List.getElem?_eq_some_iff.1 hobj).1
            exact ⟨by omega, trivial⟩
          · exact ⟨_, _, does_load hop hd hlt hdt hr' hx1 hv, has_append hx2 (has_one hm), trivial, h⟩
        · exact h.elim
    · exact h.elim
  · rename_i d y off ti hd hx hti
    obtain ⟨hx1, hx2⟩ := ev_spec hx
    obtain ⟨i, z, htd, hi, hz, hzc, hzl, hsz, hby⟩ := tiOf_spec hti
    obtain ⟨dt, hdt, hrow, _⟩ := tdOf_row htd
    split at h
    · rename_i hr
      obtain ⟨⟨hlt, hl⟩, h⟩ := h
      exact ⟨_, _, does_loadEAgg hop hd hlt hdt (hrow.trans hr) (by rw [hi]; simp [hsz]) hx1 hl, hx2, trivial, h⟩
    · rename_i hr
      split at h
      · rename_i v hv
        obtain ⟨hlt, h⟩ := h
        exact ⟨_, _, does_loadE hop hd hlt hdt (by rw [hrow]; simpa using hr) hx1 hv, hx2, trivial, h⟩
      · exact h.elim
  · exact h.elim

def stStore (P : Program) [GT P] (dst : Option Nat) (t : TypeId) (x y : Operand) (st : St) (k : K2) : Prop :=
  match dst, st.ev x, st.ev y, tiOf P t with
  | none, some (.ptr n off), some (.agg cs), some ti => match st.mem[n]? with
    | some obj => ((ti.size = cs.length ∧ (0 < cs.length ∧ off + cs.length ≤ obj.length)) ∧ cs.all AV.plain = true) ∧ k (rdOf x (.ptr n off) ++ rdOf y (.agg cs) ++ [.o n obj]) [.o n (splice obj off (AV.roL cs))]
    | none => False
  | none, some (.ptr n off), some v, some ti => match st.mem[n]? with
    | some obj => ((ti.size = 1 ∧ off < obj.length) ∧ v.plain = true) ∧
      match y with
      | .tmp s => if owns v = true then k (rdOf x (.ptr n off) ++ [.s s v] ++ [.o n obj]) [.o n (obj.set off v), .s s (some v.ro)]
        else k (rdOf x (.ptr n off) ++ rdOf y v ++ [.o n obj]) [.o n (obj.set off v.ro)]
      | _ => k (rdOf x (.ptr n off) ++ rdOf y v ++ [.o n obj]) [.o n (obj.set off v.ro)]
    | none => False
  | _, _, _, _ => False

theorem stStore_snd {P : Program} [GT P] {nt : Nat} {o : Oper} {st : St} {t : TypeId} {x y : Operand} (hop : o.op = .store t x y) : Snd P nt o st (stStore P o.dst t x y st) := by
  intro k h
  unfold stStore at h
  split at h
  · rename_i n off cs ti hd hx hy hti
    obtain ⟨hx1, hx2⟩ := ev_spec hx
    obtain ⟨hy1, hy2⟩ := ev_spec hy
    obtain ⟨i, z, htd, hi, hz, hzc, hzl, hsz, hby⟩ := tiOf_spec hti
    split at h
    · rename_i obj hobj
      obtain ⟨⟨⟨h1, h2⟩, h3⟩, h⟩ := h
      have hn : n < st.mem.length := (List.getElem?_eq_some_iff.1 hobj).1
      exact ⟨_, _, does_storeAgg hop hd hi (by omega) hx1 hy1 h3 h2.1 h2.2, has_append (has_append hx2 hy2) (has_one hobj), ⟨by omega, trivial⟩, h⟩
    · exact h.elim
  · rename_i n off v ti hna hd hx hy hti
    obtain ⟨hx1, hx2⟩ := ev_spec hx
    obtain ⟨hy1, hy2⟩ := ev_spec hy
    obtain ⟨i, z, htd, hi, hz, hzc, hzl, hsz, hby⟩ := tiOf_spec hti
    split at h
    · rename_i obj hobj
      obtain ⟨⟨⟨h1, h2⟩, h3⟩, h⟩ := h
      have hn : n < st.mem.length := (List.getElem?_eq_some_iff.1 hobj).1
      split at h
      · rename_i s
        split at h
        · exact ⟨_, _, does_storeHand hop hd hi (by omega) hx1 h3 h2, has_append (has_append hx2 hy2) (has_one hobj), ⟨by omega, trivial⟩, h⟩
        · exact ⟨_, _, does_store hop hd hi (by omega) hx1 hy1 h3 h2, has_append (has_append hx2 hy2) (has_one hobj), ⟨by omega, trivial⟩, h⟩
      · exact ⟨_, _, does_store hop hd hi (by omega) hx1 hy1 h3 h2, has_append (has_append hx2 hy2) (has_one hobj), ⟨by omega, trivial⟩, h⟩
    · exact h.elim
  · exact h.elim

end Go.Aw
end
section
set_option linter.unusedSimpArgs false
namespace Go.Aw
open Go.RowKit

def stAlloc (P : Program) [GT P] (nt : Nat) (dst : Option Nat) (t : TypeId) (st : St) (k : K2) : Prop :=
  match dst, tiOf P t with
  | some d, some ti => d < nt ∧ k [.new st.mem.length] [.o st.mem.length ti.zero, .s d (some (.ptr st.mem.length 0))]
  | _, _ => False
theorem stAlloc_snd {P : Program} [GT P] {nt : Nat} {o : Oper} {st : St} {t : TypeId} (hop : o.op = .alloc t) : Snd P nt o st (stAlloc P nt o.dst t st) := by
  intro k h
  unfold stAlloc at h
  split at h
  · rename_i d ti hd hti
    obtain ⟨i, z, htd, hi, hz, hzc, hzl, hsz, hby⟩ := tiOf_spec hti
    exact ⟨_, _, does_alloc hop hd h.1 hi hz hzc, has_one (List.getElem?_eq_none (Nat.le_refl _)), ⟨Nat.le_refl _, trivial⟩, h.2⟩
  · exact h.elim

def stBox (nt : Nat) (dst : Option Nat) (x : Operand) (st : St) (k : K2) : Prop :=
  match dst, st.ev x with
  | some d, some (.agg cs) => d < nt ∧ k (rdOf x (.agg cs) ++ [.new st.mem.length]) [.o st.mem.length (AV.roL cs), .s d (some (.ptr st.mem.length 0))]
  | some d, some v => (d < nt ∧ v.plain = true) ∧ k (rdOf x v ++ [.new st.mem.length]) [.o st.mem.length [v.ro], .s d (some (.ptr st.mem.length 0))]
  | _, _ => False
theorem stBox_snd {P : Program} [GT P] {nt : Nat} {o : Oper} {st : St} {t : TypeId} {x : Operand} (hop : o.op = .box t x) : Snd P nt o st (stBox nt o.dst x st) := by
  intro k h
  unfold stBox at h
  have hnew : st.view.has (.new st.mem.length) := List.getElem?_eq_none (Nat.le_refl _)
  split at h
  · rename_i d cs hd hx
    obtain ⟨hx1, hx2⟩ := ev_spec hx
    exact ⟨_, _, does_boxAgg hop hd h.1 hx1, has_append hx2 (has_one hnew), ⟨Nat.le_refl _, trivial⟩, h.2⟩
  · rename_i d v hna hd hx
    obtain ⟨hx1, hx2⟩ := ev_spec hx
    exact ⟨_, _, does_box hop hd h.1.1 hx1 h.1.2, has_append hx2 (has_one hnew), ⟨Nat.le_refl _, trivial⟩, h.2⟩
  · exact h.elim

def placeTD (P : Program) [GT P] : TD → Option (Nat → Option (Nat × Nat))
  | .struct places => some fun i => places[i]?
  | .array _ e => match tiOf P e with
    | some te => some fun i => some (i * te.size, te.size)
    | none => none
  | _ => none

theorem placeTD_spec {P : Program} [GT P] {t : TypeId} {d : TD} {pl : Nat → Option (Nat × Nat)} (h : tdOf P t = some d) (hp : placeTD P d = some pl) : placesOf P t = some pl := by
  cases d <;> simp only [placeTD, reduceCtorEq] at hp
  case array n e =>
    split at hp
    · rename_i te hte
      injection hp with hp; subst hp
      exact placesOf_array h hte
    · cases hp
  case struct places => injection hp with hp; subst hp; exact placesOf_struct h

def stBuild (P : Program) [GT P] (nt : Nat) (dst : Option Nat) (t : TypeId) (parts : Array (Nat × Operand)) (st : St) (k : K2) : Prop :=
  match dst, tiOf P t, st.evs (parts.toList.map (·.2)) with
  | some d, some ti, some vs => match placeTD P ti.d, pairAV parts.toList vs with
    | some pl, some ps => match fillAV pl ti.zero ps with
      | some r => (d < nt ∧ vs.all notTup = true) ∧ k (rdsOf (parts.toList.map (·.2)) vs) [.s d (some (.agg (AV.roL r)))]
      | none => False
    | _, _ => False
  | _, _, _ => False
theorem stBuild_snd {P : Program} [GT P] {nt : Nat} {o : Oper} {st : St} {t : TypeId} {parts : Array (Nat × Operand)} (hop : o.op = .build t parts) : Snd P nt o st (stBuild P nt o.dst t parts st) := by
  intro k h
  unfold stBuild at h
  split at h
  · rename_i d ti vs hd hti hvs
    obtain ⟨h1, h2⟩ := evs_spec hvs
    obtain ⟨i, z, htd, hi, hz, hzc, hzl, hsz, hby⟩ := tiOf_spec hti
    split at h
    · rename_i pl ps hpl hps
      split at h
      · rename_i r hr
        exact ⟨_, _, does_build hop hd h.1.1 hi hz hzc (placeTD_spec htd hpl) h1 hps h.1.2 hr, h2, trivial, h.2⟩
      · exact h.elim
    · exact h.elim
  · exact h.elim

def repl (zs : List AV) : Nat → List AV
  | 0 => []
  | n + 1 => zs ++ repl zs n
theorem repl_length (zs : List AV) (n : Nat) : (repl zs n).length = n * zs.length := by
  induction n with
  | zero => simp [repl]
  | succ n ih => simp [repl, ih, Nat.succ_mul]; omega
theorem repl_get (zs : List AV) (h0 : 0 < zs.length) : ∀ (n q : Nat), q < n * zs.length → (repl zs n)[q]? = zs[q % zs.length]?
  | 0, q, h => by omega
  | n + 1, q, h => by
    simp only [repl]
    by_cases hq : q < zs.length
    · rw [List.getElem?_append_left hq, Nat.mod_eq_of_lt hq]
    · rw [List.getElem?_append_right (by omega), repl_get zs h0 n (q - zs.length) (by rw [Nat.succ_mul] at h; omega)]
      congr 1
      rw [← Nat.mod_eq_sub_mod (by omega)]

theorem constL_of : ∀ {l : List Value} {cs : List AV}, l.length = cs.length → (∀ (i : Nat) x, l[i]? = some x → ∃ u, cs[i]? = some u ∧ constAV x = some u) → constL l = some cs
  | [], [], _, _ => rfl
  | [], _ :: _, h, _ => by simp at h
  | _ :: _, [], h, _ => by simp at h
  | v :: l, c :: cs, h, hc => by
    obtain ⟨u, hu, huc⟩ := hc 0 v rfl
    simp at hu; subst hu
    have := constL_of (l := l) (cs := cs) (by simpa using h) (fun i x hx => by simpa using hc (i + 1) x (by simpa using hx))
    simp only [constL, huc, this]

theorem constL_repl {z : Value} {zs : List AV} (h : constL z.cells.toList = some zs) (n sz : Nat) (hs : zs.length = sz) : constL ((Array.range (n * sz)).map (z.cells[· % z.cells.size]!)).toList = some (repl zs n) := by
  obtain ⟨h1, h2⟩ := constL_spec h
  have hl : z.cells.size = zs.length := by simpa using h1
  refine constL_of (by simp [repl_length, hs]) (fun i x hx => ?_)
  have hi : i < n * sz := by have := (List.getElem?_eq_some_iff.1 hx).1; simpa using this
  have h0 : 0 < zs.length := by
    rcases Nat.eq_zero_or_pos zs.length with h | h
    · rw [← hs, h] at hi; omega
    · exact h
  have hmod := Nat.mod_lt i h0
  have hx2 : x = z.cells[i % z.cells.size]'(by rw [hl]; exact hmod) := by
    simp only [Array.toList_map, List.getElem?_map, Array.toList_range, List.getElem?_range hi, Option.map_some] at hx
    injection hx with hx
    rw [← hx]
    exact getElem!_pos z.cells _ _
  have hu : zs[i % zs.length]? = some zs[i % zs.length] := List.getElem?_eq_getElem hmod
  obtain ⟨x', hx', hc⟩ := h2 _ _ hu
  refine ⟨zs[i % zs.length], by rw [repl_get zs h0 n i (by rw [hs]; exact hi)]; exact hu, ?_⟩
  have : x' = x := by
    rw [hx2]
    have h3 : z.cells.toList[i % zs.length]? = some (z.cells[i % z.cells.size]'(by rw [hl]; exact hmod)) := by
      simp [hl, hmod]
    rw [h3] at hx'; injection hx' with hx'; exact hx'.symm
  rw [← this]; exact hc

def stBuildSlice (P : Program) [GT P] (nt : Nat) (dst : Option Nat) (t : TypeId) (n : Nat) (parts : Array (Nat × Operand)) (st : St) (k : K2) : Prop :=
  match dst, tdOf P t, st.evs (parts.toList.map (·.2)) with
  | some d, some (.slice e), some vs => match tiOf P e, pairAV parts.toList vs with
    | some te, some ps => match fillAV (fun j => some (j * te.size, te.size)) (repl te.zero n) ps with
      | some r => ((d < nt ∧ n * te.size ≤ 16777216) ∧ (vs.all notTup = true ∧ r.all AV.data = true)) ∧ k (rdsOf (parts.toList.map (·.2)) vs) [.s d (some (.list (some te.size) (chunks te.size (AV.roL r) n)))]
      | none => False
    | _, _ => False
  | _, _, _ => False
theorem stBuildSlice_snd {P : Program} [GT P] {nt : Nat} {o : Oper} {st : St} {t : TypeId} {n : Nat} {parts : Array (Nat × Operand)} (hop : o.op = .buildSlice t n parts) : Snd P nt o st (stBuildSlice P nt o.dst t n parts st) := by
  intro k h
  unfold stBuildSlice at h
  split at h
  · rename_i d e vs hd htd hvs
    obtain ⟨h1, h2⟩ := evs_spec hvs
    split at h
    · rename_i te ps hte hps
      obtain ⟨i, z, htd', hi, hz, hzc, hzl, hsz, hby⟩ := tiOf_spec hte
      split at h
      · rename_i r hr
        obtain ⟨⟨⟨g1, g2⟩, g3, g4⟩, h⟩ := h
        rw [← hsz] at hr g2 h
        exact ⟨_, _, does_buildSlice hop hd g1 (tdOf_slice htd) hi hz g2 (constL_repl hzc n i.size hzl) h1 hps g3 hr g4, h2, trivial, h⟩
      · exact h.elim
    · exact h.elim
  · exact h.elim

def stFieldAddr (P : Program) [GT P] (nt : Nat) (dst : Option Nat) (s : TypeId) (x : Operand) (f : Nat) (st : St) (k : K2) : Prop :=
  match dst, tdOf P s, st.ev x with
  | some d, some (.struct places), some v => match places[f]? with
    | some (off, sz) => match addPtr off v with
      | some r => (d < nt ∧ sz ≠ 0) ∧ k (rdOf x v) [.s d (some r)]
      | none => False
    | none => False
  | _, _, _ => False
theorem stFieldAddr_snd {P : Program} [GT P] {nt : Nat} {o : Oper} {st : St} {s : TypeId} {x : Operand} {f : Nat} (hop : o.op = .fieldAddr s x f) : Snd P nt o st (stFieldAddr P nt o.dst s x f st) := by
  intro k h
  unfold stFieldAddr at h
  split at h
  · rename_i d places v hd htd hx
    obtain ⟨hx1, hx2⟩ := ev_spec hx
    obtain ⟨fields, hf1, hf2⟩ := tdOf_struct htd
    split at h
    · rename_i off sz hp
      obtain ⟨fl, i, p1, p2, p3, p4⟩ := place_field hf2 hp
      split at h
      · rename_i r hr
        exact ⟨_, _, does_fieldAddr hop hd h.1.1 hf1 p1 p2 (by rw [p4]; exact h.1.2) hx1 (by rw [p3]; exact hr), hx2, trivial, h.2⟩
      · exact h.elim
    · exact h.elim
  · exact h.elim

def stIndexAddr (P : Program) [GT P] (nt : Nat) (dst : Option Nat) (t : TypeId) (x i : Operand) (st : St) (k : K2) : Prop :=
  match dst, tdOf P t, st.ev x, st.ev i with
  | some d, some (.slice e), some (.list own xs), some (.int kd n) => match tiOf P e, xs[n.toNat]? with
    | some te, some y => ((d < nt ∧ y.length = te.size) ∧ 0 ≤ n) ∧ k (rdOf x (.list own xs) ++ rdOf i (.int kd n)) [.s d (some (.eptr y 0))]
    | _, _ => False
  | some d, some (.array len e), some v, some (.int kd n) => match tiOf P e with
    | some te => match addPtr (n.toNat * te.size) v with
      | some r => (d < nt ∧ 0 ≤ n ∧ n < len) ∧ k (rdOf x v ++ rdOf i (.int kd n)) [.s d (some r)]
      | none => False
    | none => False
  | _, _, _, _ => False
theorem stIndexAddr_snd {P : Program} [GT P] {nt : Nat} {o : Oper} {st : St} {t : TypeId} {x i : Operand} (hop : o.op = .indexAddr t x i) : Snd P nt o st (stIndexAddr P nt o.dst t x i st) := by
  intro k h
  unfold stIndexAddr at h
  split at h
  · rename_i d e own xs kd n hd htd hx hi
    obtain ⟨hx1, hx2⟩ := ev_spec hx
    obtain ⟨hi1, hi2⟩ := ev_spec hi
    split at h
    · rename_i te y hte hy
      obtain ⟨ie, z, htd', hie, hz, hzc, hzl, hsz, hby⟩ := tiOf_spec hte
      obtain ⟨⟨⟨g1, g2⟩, g3⟩, h⟩ := h
      exact ⟨_, _, does_indexSlice hop hd g1 (tdOf_slice htd) hie hx1 hi1 g3 hy (by omega), has_append hx2 hi2, trivial, h⟩
    · exact h.elim
  · rename_i d len e v kd n hd htd hx hi
    obtain ⟨hx1, hx2⟩ := ev_spec hx
    obtain ⟨hi1, hi2⟩ := ev_spec hi
    split at h
    · rename_i te hte
      obtain ⟨ie, z, htd', hie, hz, hzc, hzl, hsz, hby⟩ := tiOf_spec hte
      split at h
      · rename_i r hr
        exact ⟨_, _, does_indexArr hop hd h.1.1 (tdOf_array htd) hie hx1 hi1 h.1.2.1 h.1.2.2 (by rw [hsz]; exact hr), has_append hx2 hi2, trivial, h.2⟩
      · exact h.elim
    · exact h.elim
  · exact h.elim

def stBinOp (P : Program) [GT P] (nt : Nat) (dst : Option Nat) (op : BinOp) (t : TypeId) (x y : Operand) (st : St) (k : K2) : Prop :=
  match dst, st.ev x, st.ev y with
  | some d, some (.bool p), some (.bool q) => match op with
    | .eql => (d < nt ∧ tdOf P t = some .bool) ∧ k (rdOf x (.bool p) ++ rdOf y (.bool q)) [.s d (some (.bool (p == q)))]
    | .neq => (d < nt ∧ tdOf P t = some .bool) ∧ k (rdOf x (.bool p) ++ rdOf y (.bool q)) [.s d (some (.bool (!(p == q))))]
    | _ => False
  | some d, some u, some v => match binAV op u v with
    | some r => d < nt ∧ k (rdOf x u ++ rdOf y v) [.s d (some r)]
    | none => False
  | _, _, _ => False
theorem stBinOp_snd {P : Program} [GT P] {nt : Nat} {o : Oper} {st : St} {op : BinOp} {t t' : TypeId} {x y : Operand} (hop : o.op = .binOp op t x y t') : Snd P nt o st (stBinOp P nt o.dst op t x y st) := by
  intro k h
  unfold stBinOp at h
  split at h
  · rename_i d p q hd hx hy
    obtain ⟨hx1, hx2⟩ := ev_spec hx
    obtain ⟨hy1, hy2⟩ := ev_spec hy
    split at h
    · exact ⟨_, _, does_boolEq hop hd h.1.1 (tdOf_bool h.1.2) hx1 hy1 (.inl ⟨rfl, rfl⟩), has_append hx2 hy2, trivial, h.2⟩
    · exact ⟨_, _, does_boolEq hop hd h.1.1 (tdOf_bool h.1.2) hx1 hy1 (.inr ⟨rfl, rfl⟩), has_append hx2 hy2, trivial, h.2⟩
    · exact h.elim
  · rename_i d u v _ hd hx hy
    obtain ⟨hx1, hx2⟩ := ev_spec hx
    obtain ⟨hy1, hy2⟩ := ev_spec hy
    split at h
    · rename_i r hr
      exact ⟨_, _, does_binOp hop hd h.1 hx1 hy1 hr, has_append hx2 hy2, trivial, h.2⟩
    · exact h.elim
  · exact h.elim

def stUnOp (nt : Nat) (dst : Option Nat) (u : UnOp) (x : Operand) (st : St) (k : K2) : Prop :=
  match dst, st.ev x with
  | some d, some v => match unAV u v with
    | some r => d < nt ∧ k (rdOf x v) [.s d (some r)]
    | none => False
  | _, _ => False
theorem stUnOp_snd {P : Program} [GT P] {nt : Nat} {o : Oper} {st : St} {u : UnOp} {t : TypeId} {x : Operand} (hop : o.op = .unOp u t x) : Snd P nt o st (stUnOp nt o.dst u x st) := by
  intro k h
  unfold stUnOp at h
  split at h
  · rename_i d v hd hx
    obtain ⟨hx1, hx2⟩ := ev_spec hx
    split at h
    · rename_i r hr
      exact ⟨_, _, does_unOp hop hd h.1 hx1 hr, hx2, trivial, h.2⟩
    · exact h.elim
  · exact h.elim

end Go.Aw
end
section
set_option linter.unusedSimpArgs false
namespace Go.Aw
open Go.RowKit

def unbytes : List (List AV) → Option (List UInt8)
  | [] => some []
  | [.int .u8 n] :: r => match unbytes r with
    | some l => if n = ((UInt8.ofNat n.toNat).toNat : Int) then some (UInt8.ofNat n.toNat :: l) else none
    | none => none
  | _ :: _ => none
theorem unbytes_spec : ∀ {xs : List (List AV)} {b : List UInt8}, unbytes xs = some b → xs = byteEls b
  | [], b, h => by simp only [unbytes] at h; injection h with h; subst h; rfl
  | x :: xs, b, h => by
    unfold unbytes at h
    split at h
    · rename_i heq; cases heq
    · rename_i n r heq
      injection heq with h1 h2
      subst h1; subst h2
      split at h
      · rename_i l hl
        split at h
        · rename_i hn
          injection h with h; subst h
          rw [unbytes_spec hl]
          simp only [byteEls, List.map_cons]
          rw [← hn]
        · cases h
      · cases h
    · cases h
theorem unbytes_byteEls (b : List UInt8) : unbytes (byteEls b) = some b := by
  induction b with
  | nil => rfl
  | cons c b ih =>
    simp only [byteEls, List.map_cons, unbytes]
    have : unbytes (List.map (fun c => [AV.int IntKind.u8 (c.toNat : Int)]) b) = some b := ih
    rw [this]
    simp

theorem does_convStr {P : Program} [GT P] {nt : Nat} {o : Oper} {d s t : Nat} {x : Operand} {b : ByteArray} {ds : TypeDesc} (hop : o.op = .convert s t x) (hdst : o.dst = some d) (hd : d < nt)
    (hs : P.underlying s = some ds) (ht : P.underlying t = some .string) (hx : Opd x (.str b)) : Does P nt o (rdOf x (.str b)) [.s d (some (.str b))] :=
  does_value hdst hd fun Γ S a w R ι ω hrd hrel => by
    have h1 := (hx.rep hrel hrd).str_inv
    refine ⟨.string b, ?_, .pure _ _ _ (.str _)⟩
    have : (convert s t (.string b)).run P w = .ok (.string b) w := by
      unfold convert
      rw [Sem.run_bind, run_underlying hs w]
      simp only [Result.andThen_ok]
      rw [Sem.run_bind, run_underlying ht w]
      cases ds <;> rfl
    simp [execOp, hop, h1, this]

def stConvert (P : Program) [GT P] (nt : Nat) (dst : Option Nat) (s t : TypeId) (x : Operand) (st : St) (k : K2) : Prop :=
  match dst, tdOf P s, tdOf P t, st.ev x with
  | some d, some _, some (.int kd), some (.int k' n) => d < nt ∧ k (rdOf x (.int k' n)) [.s d (some (.int kd (kd.wrap n)))]
  | some d, some (.slice e), some .string, some (.list own xs) => match unbytes xs with
    | some b => (d < nt ∧ tdOf P e = some (.int .u8)) ∧ k (rdOf x (.list own xs)) [.s d (some (.str ⟨b.toArray⟩))]
    | none => False
  | some d, some _, some (.slice e), some (.str b) => (d < nt ∧ tdOf P e = some (.int .u8)) ∧ k (rdOf x (.str b)) [.s d (some (.list (some 1) (strEls b)))]
  | some d, some _, some .string, some (.str b) => d < nt ∧ k (rdOf x (.str b)) [.s d (some (.str b))]
  | _, _, _, _ => False
theorem stConvert_snd {P : Program} [GT P] {nt : Nat} {o : Oper} {st : St} {s t : TypeId} {x : Operand} (hop : o.op = .convert s t x) : Snd P nt o st (stConvert P nt o.dst s t x st) := by
  intro k h
  unfold stConvert at h
  split at h
  · rename_i d td kd k' n hd hs ht hx
    obtain ⟨hx1, hx2⟩ := ev_spec hx
    obtain ⟨ds, hds, _⟩ := tdOf_row hs
    exact ⟨_, _, does_convInt hop hd h.1 hds (tdOf_int ht) hx1, hx2, trivial, h.2⟩
  · rename_i d e own xs hd hs ht hx
    obtain ⟨hx1, hx2⟩ := ev_spec hx
    split at h
    · rename_i b hb
      have := unbytes_spec hb
      subst this
      exact ⟨_, _, does_bytesStr hop hd h.1.1 (tdOf_slice hs) (tdOf_int h.1.2) (tdOf_string ht) hx1, hx2, trivial, h.2⟩
    · exact h.elim
  · rename_i d td e b hd hs ht hx
    obtain ⟨hx1, hx2⟩ := ev_spec hx
    obtain ⟨ds, hds, _⟩ := tdOf_row hs
    exact ⟨_, _, does_strBytes hop hd h.1.1 hds (tdOf_slice ht) (tdOf_int h.1.2) hx1, hx2, trivial, h.2⟩
  · rename_i d td b hd hs ht hx
    obtain ⟨hx1, hx2⟩ := ev_spec hx
    obtain ⟨ds, hds, _⟩ := tdOf_row hs
    exact ⟨_, _, does_convStr hop hd h.1 hds (tdOf_string ht) hx1, hx2, trivial, h.2⟩
  · exact h.elim

/-- A bound of a cut: its kind and number, or the default. -/
def St.bnd (st : St) (x : Option Operand) (dflt : Int) : Option (IntKind × Int) :=
  match x with
  | none => some (.i64, dflt)
  | some x => match st.ev x with
    | some (.int k n) => some (k, n)
    | _ => none
theorem bnd_spec {st : St} {x : Option Operand} {dflt n : Int} {k : IntKind} (h : st.bnd x dflt = some (k, n)) : OpdO x k n dflt ∧ ∀ r, r ∈ rdO x k n → st.view.has r := by
  cases x with
  | none => simp only [St.bnd] at h; injection h with h; injection h with h1 h2; subst h2; exact ⟨rfl, fun r hr => by simp [rdO] at hr⟩
  | some x =>
    simp only [St.bnd] at h
    split at h
    · rename_i k' n' hx
      injection h with h; injection h with h1 h2; subst h1; subst h2
      obtain ⟨hx1, hx2⟩ := ev_spec hx
      exact ⟨hx1, hx2⟩
    · cases h

def zero00 : Option Operand → Option Operand → Option Operand → Bool
  | none, some (.const (.int _ 0)), some (.const (.int _ 0)) => true
  | some (.const (.int _ 0)), some (.const (.int _ 0)), some (.const (.int _ 0)) => true
  | _, _, _ => false
def allLen (n : Nat) (xs : List (List AV)) : Prop := ∀ (j : Nat) (y : List AV), xs[j]? = some y → y.length = n

def stSlice (P : Program) [GT P] (nt : Nat) (dst : Option Nat) (t : TypeId) (x : Operand) (lo hi mx : Option Operand) (st : St) (k : K2) : Prop :=
  match dst, tdOf P t, st.ev x with
  | some d, some (.slice e), some (.list own xs) => match tiOf P e with
    | some te =>
      if zero00 lo hi mx = true then d < nt ∧ k (rdOf x (.list own xs)) [.s d (some .nils)]
      else match mx, st.bnd lo 0, st.bnd hi xs.length with
        | none, some (kl, l), some (kh, h) => ((d < nt ∧ allLen te.size xs) ∧ (0 ≤ l ∧ l ≤ h ∧ h ≤ xs.length)) ∧ k (rdOf x (.list own xs) ++ (rdO lo kl l ++ rdO hi kh h)) [.s d (some (.list none ((xs.take h.toNat).drop l.toNat)))]
        | _, _, _ => False
    | none => False
  | some d, some .string, some (.str s) => match mx, st.bnd lo 0, st.bnd hi s.size with
    | none, some (kl, l), some (kh, h) => (d < nt ∧ (0 ≤ l ∧ l ≤ h ∧ h ≤ s.size)) ∧ k (rdOf x (.str s) ++ (rdO lo kl l ++ rdO hi kh h)) [.s d (some (.str (s.extract l.toNat h.toNat)))]
    | _, _, _ => False
  | _, _, _ => False
theorem stSlice_snd {P : Program} [GT P] {nt : Nat} {o : Oper} {st : St} {t : TypeId} {x : Operand} {lo hi mx : Option Operand} (hop : o.op = .slice t x lo hi mx) : Snd P nt o st (stSlice P nt o.dst t x lo hi mx st) := by
  intro k h
  unfold stSlice at h
  split at h
  · rename_i d e own xs hd htd hx
    obtain ⟨hx1, hx2⟩ := ev_spec hx
    split at h
    · rename_i te hte
      obtain ⟨ie, z, htd', hie, hz, hzc, hzl, hsz, hby⟩ := tiOf_spec hte
      split at h
      · rename_i h00
        unfold zero00 at h00
        split at h00
        · exact ⟨_, _, does_slice00 hop (.inl rfl) hd h.1 (tdOf_slice htd) hie hx1, hx2, trivial, h.2⟩
        · exact ⟨_, _, does_slice00 hop (.inr ⟨_, rfl⟩) hd h.1 (tdOf_slice htd) hie hx1, hx2, trivial, h.2⟩
        · cases h00
      · rename_i hnz
        split at h
        · rename_i kl l kh hh hl hhi
          obtain ⟨l1, l2⟩ := bnd_spec hl
          obtain ⟨h1, h2⟩ := bnd_spec hhi
          obtain ⟨⟨⟨g1, g2⟩, g3, g4, g5⟩, h⟩ := h
          exact ⟨_, _, does_sliceList hop hd g1 (tdOf_slice htd) hie (fun j y hy => by rw [hsz]; exact g2 j y hy) hx1 l1 h1 g3 g4 g5, has_append hx2 (has_append l2 h2), trivial, h⟩
        · exact h.elim
    · exact h.elim
  · rename_i d s hd htd hx
    obtain ⟨hx1, hx2⟩ := ev_spec hx
    split at h
    · rename_i kl l kh hh hl hhi
      obtain ⟨l1, l2⟩ := bnd_spec hl
      obtain ⟨h1, h2⟩ := bnd_spec hhi
      obtain ⟨⟨g1, g3, g4, g5⟩, h⟩ := h
      exact ⟨_, _, does_sliceStr hop hd g1 (tdOf_string htd) hx1 l1 h1 g3 g4 g5, has_append hx2 (has_append l2 h2), trivial, h⟩
    · exact h.elim
  · exact h.elim

def stExtract (nt : Nat) (dst : Option Nat) (x : Operand) (i : Nat) (st : St) (k : K2) : Prop :=
  match dst, st.ev x with
  | some d, some (.tup vs) => match vs[i]? with
    | some v => d < nt ∧ match x with
      | .tmp s => if (owns v && s != d) = true then k [.s s (.tup vs)] [.s s (some (AV.tup vs).ro), .s d (some v)] else k [.s s (.tup vs)] [.s d (some v.ro)]
      | _ => False
    | none => False
  | _, _ => False
theorem stExtract_snd {P : Program} [GT P] {nt : Nat} {o : Oper} {st : St} {x : Operand} {i : Nat} (hop : o.op = .extract x i) : Snd P nt o st (stExtract nt o.dst x i st) := by
  intro k h
  unfold stExtract at h
  split at h
  · rename_i d vs hd hx
    obtain ⟨hx1, hx2⟩ := ev_spec hx
    split at h
    · rename_i v hv
      obtain ⟨hlt, h⟩ := h
      split at h
      · rename_i s
        split at h
        · rename_i hc
          exact ⟨_, _, does_extractHand hop hd hlt (by simp at hc; exact hc.2) hv, hx2, trivial, h⟩
        · exact ⟨_, _, does_extract hop hd hlt hx1 hv, hx2, trivial, h⟩
      · exact h.elim
    · exact h.elim
  · exact h.elim

def isPtr : AV → Bool
  | .ptr _ _ => true
  | .eptr _ _ => true
  | .func _ _ _ => true
  | _ => false
def stNilCheck (nt : Nat) (dst : Option Nat) (x : Operand) (st : St) (k : K2) : Prop :=
  match dst, st.ev x with
  | some d, some v => (d < nt ∧ isPtr v = true) ∧ k (rdOf x v) [.s d (some v.ro)]
  | _, _ => False
theorem stNilCheck_snd {P : Program} [GT P] {nt : Nat} {o : Oper} {st : St} {x : Operand} (hop : o.op = .nilCheck x) : Snd P nt o st (stNilCheck nt o.dst x st) := by
  intro k h
  unfold stNilCheck at h
  split at h
  · rename_i d v hd hx
    obtain ⟨hx1, hx2⟩ := ev_spec hx
    refine ⟨_, _, does_nilCheck hop hd h.1.1 hx1 ?_, hx2, trivial, h.2⟩
    have := h.1.2
    cases v <;> simp [isPtr] at this <;> first | exact .inl ⟨_, _, rfl⟩ | exact .inr (.inl ⟨_, _, rfl⟩) | exact .inr (.inr ⟨_, _, _, rfl⟩)
  · exact h.elim

def stMakeFunc (nt : Nat) (dst : Option Nat) (fn : Fn) (first cap : Array Operand) (st : St) (k : K2) : Prop :=
  match dst, fn, st.evs first.toList, st.evs cap.toList with
  | some d, .func f, some fv, some cv => d < nt ∧ k (rdsOf first.toList fv ++ rdsOf cap.toList cv) [.s d (some (.func f (AV.roL fv) (AV.roL cv)))]
  | _, _, _, _ => False
theorem stMakeFunc_snd {P : Program} [GT P] {nt : Nat} {o : Oper} {st : St} {fn : Fn} {first cap : Array Operand} (hop : o.op = .makeFunc fn first cap) : Snd P nt o st (stMakeFunc nt o.dst fn first cap st) := by
  intro k h
  unfold stMakeFunc at h
  split at h
  · rename_i d f fv cv hd hf hc
    obtain ⟨f1, f2⟩ := evs_spec hf
    obtain ⟨c1, c2⟩ := evs_spec hc
    exact ⟨_, _, does_makeFunc hop hd h.1 f1 c1, has_append f2 c2, trivial, h.2⟩
  · exact h.elim

def stMakeInterface (P : Program) [GT P] (nt : Nat) (dst : Option Nat) (t : TypeId) (x : Operand) (st : St) (k : K2) : Prop :=
  match dst, tdOf P t, st.ev x with
  | some _, some .iface, some _ => False
  | some d, some _, some v => d < nt ∧ k (rdOf x v) [.s d (some (.iface t v.ro))]
  | _, _, _ => False
theorem stMakeInterface_snd {P : Program} [GT P] {nt : Nat} {o : Oper} {st : St} {t : TypeId} {x : Operand} (hop : o.op = .makeInterface t x) : Snd P nt o st (stMakeInterface P nt o.dst t x st) := by
  intro k h
  unfold stMakeInterface at h
  split at h
  · exact h.elim
  · rename_i d td v hna hd ht hx
    obtain ⟨hx1, hx2⟩ := ev_spec hx
    obtain ⟨dt, hdt, _, hni⟩ := tdOf_row ht
    refine ⟨_, _, does_makeInterface hop hd h.1 hdt ?_ hx1, hx2, trivial, h.2⟩
    rcases hni with hni | rfl
    · exact hni
    · first | exact (hna rfl).elim | exact absurd rfl hna | exact (hna _ _ hd ht hx).elim | simp_all
  · exact h.elim

def srcEls : AV → Option (List (List AV))
  | .list _ ys => some ys
  | .nils => some []
  | .nilsl => some []
  | .str s => some (strEls s)
  | _ => none
theorem srcEls_spec {u : AV} {ys : List (List AV)} (h : srcEls u = some ys) : SrcAV u ys := by
  cases u <;> simp only [srcEls, reduceCtorEq] at h <;> (injection h with h; subst h)
  all_goals first | exact .str _ | exact .nils | exact .nilsl | exact .list _ _
def dstEls (sz : Nat) : AV → Option (List (List AV))
  | .list (some z) xs => if z = sz then some xs else none
  | .nils => some []
  | .nilsl => some []
  | _ => none

def srcKind (P : Program) [GT P] (size : Nat) (tx : TypeId) : AV → Prop
  | .str _ => tdOf P tx = some .string ∧ size = 1
  | _ => ∃ e, tdOf P tx = some (.slice e)

def stAppend (P : Program) [GT P] (nt : Nat) (dst : Option Nat) (tys : Array TypeId) (s x : Operand) (st : St) (k : K2) : Prop :=
  match dst, s, tys.toList with
  | some d, .tmp s, [t, tx] => match tdOf P t, getA st.fr s, st.ev x with
    | some (.slice e), some v, some u => match tiOf P e, srcEls u with
      | some te, some ys => match dstEls te.size v with
        | some xs => (((d < nt ∧ s ≠ d) ∧ (0 < te.size ∧ srcKind P te.size tx u)) ∧ (allLen te.size ys ∧ ((xs.length + ys.length) * te.bytes ≤ 140737488355328 ∧ xs.length + ys.length ≤ 9223372036854775807))) ∧
          k ([.s s v] ++ rdOf x u) [.s s (some (.list none xs)), .s d (some (.list (some te.size) (xs ++ ys)))]
        | none => False
      | _, _ => False
    | _, _, _ => False
  | _, _, _ => False
theorem stAppend_snd {P : Program} [GT P] {nt : Nat} {o : Oper} {st : St} {tys : Array TypeId} {s x : Operand} (hop : o.op = .call { callee := .builtin .append, args := #[s, x], argTypes := tys }) : Snd P nt o st (stAppend P nt o.dst tys s x st) := by
  intro k h
  unfold stAppend at h
  split at h
  · rename_i d s t tx hd htl
    split at h
    · rename_i e v u htd hs hx
      obtain ⟨hx1, hx2⟩ := ev_spec hx
      split at h
      · rename_i te ys hte hsrc
        obtain ⟨ie, z, htd', hie, hz, hzc, hzl, hsz, hby⟩ := tiOf_spec hte
        split at h
        · rename_i xs hxs
          obtain ⟨⟨⟨⟨g1, g2⟩, g3, g4⟩, g5, g6, g7⟩, h⟩ := h
          have htys : tys = #[t, tx] := by apply Array.ext'; simpa using htl
          subst htys
          have hzs : z.cells.size = ie.size := by have := (constL_spec hzc).1; simp at this; omega
          refine ⟨_, _, ?_, has_append (has_one (r := .s s v) hs) hx2, ?_, h⟩
          case refine_2 => trivial
          rw [← hsz]
          refine does_append hop hd g1 g2 (tdOf_slice htd) hie hz hzs (by omega) ?_ hx1 (srcEls_spec hsrc) ?_ (fun j y hy => by rw [hsz]; exact g5 j y hy) (by rw [hby]; exact g6) g7
          · rw [← hsz] at hxs
            unfold dstEls at hxs
            split at hxs
            · split at hxs
              · rename_i hzz; injection hxs with hxs; subst hxs; subst hzz; exact .inr rfl
              · cases hxs
            · first | (injection hxs with hxs; subst hxs; exact .inl ⟨.inl rfl, rfl⟩) | (injection hxs with hxs; subst hxs; exact .inl ⟨.inr rfl, rfl⟩)
            · first | (injection hxs with hxs; subst hxs; exact .inl ⟨.inl rfl, rfl⟩) | (injection hxs with hxs; subst hxs; exact .inl ⟨.inr rfl, rfl⟩)
            · cases hxs
          · cases u with
            | str b => exact .inr ⟨tdOf_string g4.1, by rw [hsz]; exact g4.2, b, rfl⟩
            | _ => first | (obtain ⟨e', he'⟩ := g4; exact .inl ⟨⟨e', tdOf_slice he'⟩, fun s hh => by cases hh⟩) | (simp [srcEls] at hsrc)
        · exact h.elim
      · exact h.elim
    · exact h.elim
  · exact h.elim

def stLen (P : Program) [GT P] (nt : Nat) (dst : Option Nat) (tys : Array TypeId) (x : Operand) (st : St) (k : K2) : Prop :=
  match dst, tys[0]?, st.ev x with
  | some d, some t, some (.list own xs) => (d < nt ∧ ∃ e, tdOf P t = some (.slice e)) ∧ k (rdOf x (.list own xs)) [.s d (some (.int .i64 xs.length))]
  | some d, some t, some .nils => (d < nt ∧ ∃ e, tdOf P t = some (.slice e)) ∧ k (rdOf x .nils) [.s d (some (.int .i64 0))]
  | some d, some t, some (.str s) => (d < nt ∧ tdOf P t = some .string) ∧ k (rdOf x (.str s)) [.s d (some (.int .i64 s.size))]
  | _, _, _ => False
theorem stLen_snd {P : Program} [GT P] {nt : Nat} {o : Oper} {st : St} {tys : Array TypeId} {x : Operand} (hop : o.op = .call { callee := .builtin .len, args := #[x], argTypes := tys }) : Snd P nt o st (stLen P nt o.dst tys x st) := by
  intro k h
  unfold stLen at h
  split at h
  · rename_i d t own xs hd ht hx
    obtain ⟨hx1, hx2⟩ := ev_spec hx
    obtain ⟨⟨g1, e, g2⟩, h⟩ := h
    exact ⟨_, _, does_len hop ht hd g1 (tdOf_slice g2) hx1, hx2, trivial, h⟩
  · rename_i d t hd ht hx
    obtain ⟨hx1, hx2⟩ := ev_spec hx
    obtain ⟨⟨g1, e, g2⟩, h⟩ := h
    exact ⟨_, _, does_lenNil hop ht hd g1 (tdOf_slice g2) hx1, hx2, trivial, h⟩
  · rename_i d t s hd ht hx
    obtain ⟨hx1, hx2⟩ := ev_spec hx
    exact ⟨_, _, does_lenStr hop ht hd h.1.1 (tdOf_string h.1.2) hx1, hx2, trivial, h.2⟩
  · exact h.elim

end Go.Aw
end
section
set_option linter.unusedSimpArgs false
namespace Go.Aw
open Go.RowKit

/-! ### A call -/
def addNew (l : List Nat) (x : Nat) : List Nat := if l.contains x = true then l else l ++ [x]
def addAll (l : List Nat) : List Nat → List Nat
  | [] => l
  | x :: r => addAll (addNew l x) r
def reach1 (mem : List (List AV)) (l : List Nat) : List Nat → List Nat
  | [] => l
  | o :: r => reach1 mem (match mem[o]? with | some obj => addAll l (AV.ptrsL obj) | none => l) r
def reach (mem : List (List AV)) (args : List AV) : List Nat :=
  let a := addAll [] (AV.ptrsL args)
  let b := reach1 mem a a
  reach1 mem b b

theorem addNew_nodup {l : List Nat} (h : l.Nodup) (x : Nat) : (addNew l x).Nodup := by
  unfold addNew
  split
  · exact h
  · rename_i hc
    rw [List.nodup_append]
    refine ⟨h, by simp, fun a ha b hb => ?_⟩
    simp at hb; subst hb
    rintro rfl
    simp at hc; exact hc ha
theorem addAll_nodup : ∀ (r l : List Nat), l.Nodup → (addAll l r).Nodup
  | [], _, h => h
  | x :: r, l, h => addAll_nodup r _ (addNew_nodup h x)
theorem reach1_nodup (mem : List (List AV)) : ∀ (r l : List Nat), l.Nodup → (reach1 mem l r).Nodup
  | [], _, h => h
  | o :: r, l, h => by
    simp only [reach1]
    split
    · exact reach1_nodup mem r _ (addAll_nodup _ _ h)
    · exact reach1_nodup mem r _ h
theorem reach_nodup (mem : List (List AV)) (args : List AV) : (reach mem args).Nodup :=
  reach1_nodup mem _ _ (reach1_nodup mem _ _ (addAll_nodup _ _ List.nodup_nil))

/-- Each number is one of these. -/
def within (fp : List Nat) : List Nat → Prop
  | [] => True
  | x :: r => x ∈ fp ∧ within fp r
theorem within_mem {fp : List Nat} : ∀ {l : List Nat}, within fp l → ∀ q, q ∈ l → q ∈ fp
  | [], _, q, hq => by cases hq
  | x :: r, h, q, hq => by
    rcases List.mem_cons.1 hq with rfl | hq
    · exact h.1
    · exact within_mem h.2 q hq

/-- The objects that a callee is handed. -/
def objsOf (mem : List (List AV)) : List Nat → Option (List (List AV))
  | [] => some []
  | o :: r => match mem[o]? with
    | some obj => match objsOf mem r with
      | some l => some (obj :: l)
      | none => none
    | none => none
theorem objsOf_spec {mem : List (List AV)} : ∀ {fp : List Nat} {l : List (List AV)}, objsOf mem fp = some l → l.length = fp.length ∧ ∀ (i o : Nat), fp[i]? = some o → ∃ obj, l[i]? = some obj ∧ mem[o]? = some obj
  | [], l, h => by simp only [objsOf] at h; injection h with h; subst h; exact ⟨rfl, fun i o hi => by simp at hi⟩
  | o :: r, l, h => by
    simp only [objsOf] at h
    cases ho : mem[o]? with
    | none => rw [ho] at h; cases h
    | some obj =>
      rw [ho] at h; simp only at h
      cases hr : objsOf mem r with
      | none => rw [hr] at h; cases h
      | some l' =>
        rw [hr] at h; simp only at h; injection h with h; subst h
        obtain ⟨h1, h2⟩ := objsOf_spec hr
        refine ⟨by simp [h1], fun i o' hi => ?_⟩
        cases i with
        | zero => simp at hi; subst hi; exact ⟨obj, by simp, ho⟩
        | succ i => simp at hi; obtain ⟨ob, e1, e2⟩ := h2 i o' hi; exact ⟨ob, by simpa using e1, e2⟩

def renM (f : Nat → Nat) : List (List AV) → List (List AV)
  | [] => []
  | o :: r => AV.renL f o :: renM f r
theorem renM_eq (f : Nat → Nat) (l : List (List AV)) : renM f l = l.map (AV.renL f) := by
  induction l with
  | nil => rfl
  | cons a r ih => simp only [renM, List.map_cons, ih]

def ptrsM : List (List AV) → List Nat
  | [] => []
  | o :: r => AV.ptrsL o ++ ptrsM r
theorem ptrsM_mem {l : List (List AV)} {i : Nat} {u : List AV} (h : l[i]? = some u) {o : Nat} (ho : o ∈ AV.ptrsL u) : o ∈ ptrsM l := by
  induction l generalizing i with
  | nil => simp at h
  | cons a r ih =>
    simp only [ptrsM, List.mem_append]
    cases i with
    | zero => simp at h; subst h; exact .inl ho
    | succ i => simp at h; exact .inr (ih h)

/-- What a call writes: its objects, new ones from N on. -/
def wrsObjs (N : Nat) : List Nat → List (List AV) → List Wr
  | o :: fp, x :: l => .o o x :: wrsObjs N fp l
  | [], x :: l => .o N x :: wrsObjs (N + 1) [] l
  | _, [] => []
def rdsObjs : List Nat → List (List AV) → List Rd
  | o :: fp, x :: l => .o o x :: rdsObjs fp l
  | _, _ => []
def newRds (N : Nat) : Nat → List Rd
  | 0 => []
  | n + 1 => .new N :: newRds (N + 1) n
theorem rdsObjs_has {S : Vw} : ∀ {fp : List Nat} {l : List (List AV)}, (∀ r, r ∈ rdsObjs fp l → S.has r) → ∀ (i o : Nat) obj, fp[i]? = some o → l[i]? = some obj → S.m o = some obj
  | [], _, _, i, o, obj, h, _ => by simp at h
  | _ :: _, [], _, i, o, obj, _, h => by simp at h
  | o' :: fp, x :: l, h, i, o, obj, hi, hl => by
    cases i with
    | zero => simp at hi hl; subst hi; subst hl; exact h (.o o' x) (by simp [rdsObjs])
    | succ i => simp at hi hl; exact rdsObjs_has (fun r hr => h r (by simp only [rdsObjs, List.mem_cons]; exact .inr hr)) i o obj hi hl
theorem newRds_has {S : Vw} : ∀ {n N : Nat}, (∀ r, r ∈ newRds N n → S.has r) → ∀ o, N ≤ o → o < N + n → S.m o = none
  | 0, N, _, o, h1, h2 => by omega
  | n + 1, N, h, o, h1, h2 => by
    by_cases ho : o = N
    · subst ho; exact h (.new o) (by simp [newRds])
    · exact newRds_has (n := n) (N := N + 1) (fun r hr => h r (by simp only [newRds, List.mem_cons]; exact .inr hr)) o (by omega) (by omega)

theorem puts_append (S : Vw) (a b : List Wr) : S.puts (a ++ b) = (S.puts a).puts b := by simp [Vw.puts]

theorem puts_objs_new : ∀ (l : List (List AV)) (N : Nat) (S : Vw), ((S.puts (wrsObjs N [] l)).g = S.g) ∧ ∀ o, (S.puts (wrsObjs N [] l)).m o = if N ≤ o ∧ o - N < l.length then l[o - N]? else S.m o
  | [], N, S => ⟨rfl, fun o => by rw [if_neg (by simp)]; rfl⟩
  | x :: l, N, S => by
    simp only [wrsObjs, puts_cons]
    obtain ⟨h1, h2⟩ := puts_objs_new l (N + 1) (S.put (.o N x))
    refine ⟨h1, fun o => ?_⟩
    rw [h2 o]
    simp only [Vw.put, List.length_cons]
    by_cases ho : o = N
    · subst ho
      rw [if_neg (by omega), upd_same, if_pos (by omega)]; simp
    · rw [upd_ne _ _ ho]
      by_cases h3 : N + 1 ≤ o ∧ o - (N + 1) < l.length
      · rw [if_pos h3, if_pos (by omega), show o - N = (o - (N + 1)) + 1 from by omega, List.getElem?_cons_succ]
      · rw [if_neg h3, if_neg (by omega)]

theorem puts_objs : ∀ (fp : List Nat) (l : List (List AV)) (N : Nat) (S : Vw), fp.Nodup → fp.length ≤ l.length → (∀ o, o ∈ fp → ¬ (N ≤ o ∧ fp.length + (o - N) < l.length)) →
    ((S.puts (wrsObjs N fp l)).g = S.g) ∧ ∀ o, (S.puts (wrsObjs N fp l)).m o = match fp.idxOf? o with
      | some i => l[i]?
      | none => if N ≤ o ∧ fp.length + (o - N) < l.length then l[fp.length + (o - N)]? else S.m o
  | [], l, N, S, _, _, _ => by
    obtain ⟨h1, h2⟩ := puts_objs_new l N S
    refine ⟨h1, fun o => ?_⟩
    rw [h2 o]; simp
  | _ :: _, [], N, S, _, h, _ => by simp at h
  | o' :: fp, x :: l, N, S, hn, hl, hd => by
    simp only [wrsObjs, puts_cons]
    simp only [List.nodup_cons] at hn
    simp only [List.length_cons] at hl hd
    obtain ⟨h1, h2⟩ := puts_objs fp l N (S.put (.o o' x)) hn.2 (by omega) (fun o ho => by have := hd o (List.mem_cons.2 (.inr ho)); omega)
    refine ⟨h1, fun o => ?_⟩
    rw [h2 o]
    have hne := hd o' (List.mem_cons.2 (.inl rfl))
    simp only [List.idxOf?_cons, List.length_cons]
    by_cases ho : o' = o
    · subst ho
      have : fp.idxOf? o' = none := by
        cases hh : fp.idxOf? o' with
        | none => rfl
        | some i => exact absurd (List.mem_of_getElem? (get_idxOf hh)) hn.1
      rw [this]
      simp only [beq_self_eq_true, if_true]
      rw [if_neg (by omega)]
      simp [Vw.put, upd_same]
    · have hb : (o' == o) = false := by simpa using ho
      rw [hb]
      cases hh : fp.idxOf? o with
      | some i => simp
      | none =>
        simp only [Bool.false_eq_true, if_false, Option.map_none]
        by_cases h3 : N ≤ o ∧ fp.length + (o - N) < l.length
        · rw [if_pos h3, if_pos (by omega), show fp.length + 1 + (o - N) = fp.length + (o - N) + 1 from by omega, List.getElem?_cons_succ]
        · rw [if_neg h3, if_neg (by omega)]
          simp only [Vw.put]
          rw [upd_ne _ _ (Ne.symm ho)]

def dstW (d : Option Nat) (v : AV) : List Wr := match d with | some d => [.s d (some v)] | none => []

end Go.Aw
end
