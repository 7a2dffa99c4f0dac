/-
  A part of the proof of SideOrderCardSaid (see the last text, Om): no statement of its own, no condition.
-/
import Derived.Orders
import Derived.Below
import Derived.KernelRfl
set_option linter.unusedSimpArgs false
set_option linter.unusedVariables false
section
namespace Go.Aw

/-- Values, as a walk sees them: a slice is the list of its elements, an element the list of its cells. -/
inductive AV where
  | bool (b : Bool)
  | int (k : IntKind) (n : Int)
  | str (s : ByteArray)
  | nils
  | list (own : Option Nat) (xs : List (List AV))
  | ptr (o : Nat) (off : Nat)
  | eptr (x : List AV) (off : Nat)
  | nilptr
  | func (f : FuncId) (first cap : List AV)
  | nilfunc
  | iface (t : TypeId) (v : AV)
  | niliface
  | agg (cs : List AV)
  | tup (vs : List AV)
  | nilsl
  | msl (o off len sz : Nat)
  | rawp (a : Addr)

abbrev Ext0 := Nat → Option Nat
def stable (R : Ext0) (b off : Nat) : Prop := ∀ n, R b = some n → off < n

/-- Pure data: no pointer in it, and nothing that is owned. Its cells are stable. -/
inductive PRep (w : World) (R : Ext0) : AV → Value → Prop
  | bool (b : Bool) : PRep w R (.bool b) (.bool b)
  | int (k : IntKind) (n : Int) : PRep w R (.int k n) (.int k n)
  | str (s : ByteArray) : PRep w R (.str s) (.string s)
  | nils (a : Option Addr) : PRep w R .nils (.slice a 0 0)
  | nilsl : PRep w R .nilsl (.slice none 0 0)
  | nilptr : PRep w R .nilptr (.pointer none)
  | niliface : PRep w R .niliface .nilIface
  | rawp (a : Addr) : PRep w R (.rawp a) (.pointer (some a))
  | empty (a : Option Addr) (c : Nat) : PRep w R (.list none []) (.slice a 0 c)
  | list (xs : List (List AV)) (sz b off c : Nat) (val : Nat → Nat → Value) (hc : xs.length ≤ c)
      (hsz : ∀ (j : Nat) (x : List AV), xs[j]? = some x → x.length = sz)
      (hcell : ∀ j i, j < xs.length → i < sz → w.cell? ⟨b, off + j * sz + i, none⟩ = some (val j i) ∧ stable R b (off + j * sz + i))
      (hval : ∀ (j : Nat) (x : List AV), xs[j]? = some x → ∀ (i : Nat) (v : AV), x[i]? = some v → PRep w R v (val j i)) :
      PRep w R (.list none xs) (.slice (some ⟨b, off, none⟩) xs.length c)
  | eptr (x : List AV) (b off o : Nat) (val : Nat → Value)
      (hcell : ∀ i, i < x.length → w.cell? ⟨b, off + i, none⟩ = some (val i) ∧ stable R b (off + i))
      (hval : ∀ (i : Nat) (v : AV), x[i]? = some v → PRep w R v (val i)) :
      PRep w R (.eptr x o) (.pointer (some ⟨b, off + o, none⟩))

/-- What a slice is that owns what lies behind it. -/
structure Owned (w : World) (R : Ext0) (k off c sz n : Nat) : Prop where
  at_ : ∃ cur e fz, w.heap[k]? = some (.cells cur e fz) ∧ off + c * sz ≤ cur.size ∧ ∀ i, i < cur.size → w.frozen? ⟨k, i, none⟩ = false
  le : n ≤ c
  lim : R k = some (off + n * sz)

inductive Rep (w : World) (R : Ext0) (ι : Nat → Option Nat) (ω : Nat → Option (List Nat)) : List Nat → AV → Value → Prop
  | pure (p : List Nat) (v : AV) (x : Value) (h : PRep w R v x) : Rep w R ι ω p v x
  | ownnil (p : List Nat) (sz : Nat) (a : Option Addr) : Rep w R ι ω p (.list (some sz) []) (.slice a 0 0)
  | own (p : List Nat) (xs : List (List AV)) (sz k off c : Nat) (h : PRep w R (.list none xs) (.slice (some ⟨k, off, none⟩) xs.length c))
      (hsz : ∀ (j : Nat) (x : List AV), xs[j]? = some x → x.length = sz) (ho : Owned w R k off c sz xs.length) (hw : ω k = some p) :
      Rep w R ι ω p (.list (some sz) xs) (.slice (some ⟨k, off, none⟩) xs.length c)
  | msl (p : List Nat) (o off len sz b c : Nat) (h : ι o = some b) (hc : len ≤ c) (hcap : ∃ arr e fz, w.heap[b]? = some (.cells arr e fz) ∧ off + c * sz ≤ arr.size) :
      Rep w R ι ω p (.msl o off len sz) (.slice (some ⟨b, off, none⟩) len c)
  | ptr (p : List Nat) (o off b : Nat) (h : ι o = some b) : Rep w R ι ω p (.ptr o off) (.pointer (some ⟨b, off, none⟩))
  | func (p : List Nat) (f : FuncId) (first cap : List AV) (first' cap' : Array Value) (h1 : first.length = first'.size) (h2 : cap.length = cap'.size)
      (g1 : ∀ (i : Nat) v x, first[i]? = some v → first'[i]? = some x → Rep w R ι ω (p ++ [0, i]) v x)
      (g2 : ∀ (i : Nat) v x, cap[i]? = some v → cap'[i]? = some x → Rep w R ι ω (p ++ [1, i]) v x) :
      Rep w R ι ω p (.func f first cap) (.func (.func f) first' cap')
  | nilfunc (p : List Nat) : Rep w R ι ω p .nilfunc .nilFunc
  | iface (p : List Nat) (t : TypeId) (v : AV) (x : Value) (h : Rep w R ι ω (p ++ [0]) v x) : Rep w R ι ω p (.iface t v) (.iface t x)
  | agg (p : List Nat) (cs : List AV) (vs : Array Value) (hl : cs.length = vs.size)
      (h : ∀ (i : Nat) v x, cs[i]? = some v → vs[i]? = some x → Rep w R ι ω (p ++ [i]) v x) : Rep w R ι ω p (.agg cs) (.agg vs)
  | tup (p : List Nat) (cs : List AV) (vs : Array Value) (hl : cs.length = vs.size)
      (h : ∀ (i : Nat) v x, cs[i]? = some v → vs[i]? = some x → Rep w R ι ω (p ++ [i]) v x) : Rep w R ι ω p (.tup cs) (.tuple vs)

/-- Stable cells stay, and stay stable. -/
structure Ext (w : World) (R : Ext0) (w' : World) (R' : Ext0) : Prop where
  size : w.heap.size ≤ w'.heap.size
  cell : ∀ b off v, w.cell? ⟨b, off, none⟩ = some v → stable R b off → w'.cell? ⟨b, off, none⟩ = some v ∧ stable R' b off
  blk : ∀ (b : Nat) (arr : Array Value) (e : TypeId) (fz : Nat × Nat), w.heap[b]? = some (.cells arr e fz) → ∃ arr' e' fz', w'.heap[b]? = some (.cells arr' e' fz') ∧ arr.size ≤ arr'.size

theorem Ext.refl (w : World) (R : Ext0) : Ext w R w R := ⟨Nat.le_refl _, fun _ _ _ h hs => ⟨h, hs⟩, fun _ arr e fz h => ⟨arr, e, fz, h, Nat.le_refl _⟩⟩
theorem Ext.trans {w w1 w2 : World} {R R1 R2 : Ext0} (h : Ext w R w1 R1) (k : Ext w1 R1 w2 R2) : Ext w R w2 R2 :=
  ⟨Nat.le_trans h.size k.size, fun b off v hv hs => by
    obtain ⟨h1, h2⟩ := h.cell b off v hv hs
    exact k.cell b off v h1 h2, fun b arr e fz hb => by
    obtain ⟨a1, e1, f1, g1, g2⟩ := h.blk b arr e fz hb
    obtain ⟨a2, e2, f2, g3, g4⟩ := k.blk b a1 e1 f1 g1
    exact ⟨a2, e2, f2, g3, Nat.le_trans g2 g4⟩⟩

theorem PRep.ext {w w' : World} {R R' : Ext0} {v : AV} {x : Value} (h : PRep w R v x) (e : Ext w R w' R') : PRep w' R' v x := by
  induction h with
  | bool b => exact .bool b
  | int k n => exact .int k n
  | str s => exact .str s
  | nils a => exact .nils a
  | nilsl => exact .nilsl
  | nilptr => exact .nilptr
  | niliface => exact .niliface
  | rawp a => exact .rawp a
  | empty a c => exact .empty a c
  | list xs sz b off c val hc hsz hcell hval ih =>
    exact .list xs sz b off c val hc hsz (fun j i hj hi => e.cell _ _ _ (hcell j i hj hi).1 (hcell j i hj hi).2) ih
  | eptr x b off o val hcell hval ih =>
    exact .eptr x b off o val (fun i hi => e.cell _ _ _ (hcell i hi).1 (hcell i hi).2) ih

theorem Rep.ext {w w' : World} {R R' : Ext0} {ι ι' : Nat → Option Nat} {ω ω' : Nat → Option (List Nat)} {p : List Nat} {v : AV} {x : Value}
    (h : Rep w R ι ω p v x) (e : Ext w R w' R') (hi : ∀ o b, ι o = some b → ι' o = some b)
    (ho : ∀ k q, ω k = some q → p <+: q → w'.heap[k]? = w.heap[k]? ∧ R' k = R k ∧ ω' k = ω k) : Rep w' R' ι' ω' p v x := by
  induction h with
  | pure p v x h => exact .pure p v x (h.ext e)
  | ownnil p sz a => exact .ownnil p sz a
  | own p xs sz k off c h hsz hown hw =>
    obtain ⟨h1, h2, h3⟩ := ho k p hw (List.prefix_refl p)
    refine .own p xs sz k off c (h.ext e) hsz ⟨?_, hown.le, h2.trans hown.lim⟩ (h3.trans hw)
    obtain ⟨cur, el, fz, a1, a2, a3⟩ := hown.at_
    refine ⟨cur, el, fz, h1.trans a1, a2, fun i hi => ?_⟩
    have := a3 i hi
    simpa [World.frozen?, h1] using this
  | msl p o off len sz b c h hc hcap =>
    obtain ⟨arr, el, fz, g1, g2⟩ := hcap
    obtain ⟨arr', el', fz', g3, g4⟩ := e.blk b arr el fz g1
    exact .msl p o off len sz b c (hi o b h) hc ⟨arr', el', fz', g3, Nat.le_trans g2 g4⟩
  | ptr p o off b h => exact .ptr p o off b (hi o b h)
  | func p f first cap first' cap' h1 h2 g1 g2 ih1 ih2 =>
    exact .func p f first cap first' cap' h1 h2
      (fun i v x hv hx => ih1 i v x hv hx (fun k q hk hq => ho k q hk ((List.prefix_append p [0, i]).trans hq)))
      (fun i v x hv hx => ih2 i v x hv hx (fun k q hk hq => ho k q hk ((List.prefix_append p [1, i]).trans hq)))
  | nilfunc p => exact .nilfunc p
  | iface p t v x h ih => exact .iface p t v x (ih (fun k q hk hq => ho k q hk ((List.prefix_append p [0]).trans hq)))
  | agg p cs vs hl h ih => exact .agg p cs vs hl (fun i v x hv hx => ih i v x hv hx (fun k q hk hq => ho k q hk ((List.prefix_append p [i]).trans hq)))
  | tup p cs vs hl h ih => exact .tup p cs vs hl (fun i v x hv hx => ih i v x hv hx (fun k q hk hq => ho k q hk ((List.prefix_append p [i]).trans hq)))

end Go.Aw
end
section
namespace Go.Aw

/-! ### Nothing owned any more -/
mutual
def AV.ro : AV → AV
  | .list _ xs => .list none xs
  | .func f first cap => .func f (AV.roL first) (AV.roL cap)
  | .iface t v => .iface t v.ro
  | .agg cs => .agg (AV.roL cs)
  | .tup vs => .tup (AV.roL vs)
  | .bool b => .bool b
  | .int k n => .int k n
  | .str s => .str s
  | .nils => .list none []
  | .ptr o f => .ptr o f
  | .eptr x f => .eptr x f
  | .nilptr => .nilptr
  | .nilfunc => .nilfunc
  | .niliface => .niliface
  | .rawp a => .rawp a
  | .nilsl => .nilsl
  | .msl o f l z => .msl o f l z
def AV.roL : List AV → List AV
  | [] => []
  | v :: r => v.ro :: AV.roL r
end

theorem roL_eq (l : List AV) : AV.roL l = l.map AV.ro := by
  induction l with
  | nil => rfl
  | cons a r ih => simp only [AV.roL, List.map_cons, ih]
theorem roL_length (l : List AV) : (AV.roL l).length = l.length := by rw [roL_eq, List.length_map]
theorem roL_get {l : List AV} {i : Nat} {v : AV} (h : (AV.roL l)[i]? = some v) : ∃ u, l[i]? = some u ∧ v = u.ro := by
  rw [roL_eq, List.getElem?_map] at h
  cases hu : l[i]? with
  | none => rw [hu] at h; cases h
  | some u => rw [hu] at h; exact ⟨u, rfl, by injection h with h; exact h.symm⟩

theorem PRep.ro {w : World} {R : Ext0} {v : AV} {x : Value} (h : PRep w R v x) : PRep w R v.ro x := by
  cases h with
  | bool b => exact .bool b
  | int k n => exact .int k n
  | str s => exact .str s
  | nils a => exact .empty a 0
  | nilsl => exact .nilsl
  | nilptr => exact .nilptr
  | niliface => exact .niliface
  | rawp a => exact .rawp a
  | empty a c => exact .empty a c
  | list xs sz b off c val hc hsz hcell hval => exact .list xs sz b off c val hc hsz hcell hval
  | eptr x b off o val hcell hval => exact .eptr x b off o val hcell hval

theorem Rep.ro {w : World} {R : Ext0} {ι : Nat → Option Nat} {ω : Nat → Option (List Nat)} {p : List Nat} {v : AV} {x : Value} (h : Rep w R ι ω p v x)
    (ω' : Nat → Option (List Nat)) (q : List Nat) : Rep w R ι ω' q v.ro x := by
  induction h generalizing q with
  | pure p v x h => exact .pure q _ x h.ro
  | ownnil p sz a => exact .pure q _ _ (.empty a 0)
  | own p xs sz k off c h hsz hown hw => exact .pure q _ _ h
  | ptr p o off b h => exact .ptr q o off b h
  | msl p o off len sz b c h hc hcap => exact .msl q o off len sz b c h hc hcap
  | func p f first cap first' cap' h1 h2 g1 g2 ih1 ih2 =>
    refine .func q f _ _ first' cap' (by rw [roL_length]; exact h1) (by rw [roL_length]; exact h2) ?_ ?_
    · intro i v x hv hx
      obtain ⟨u, hu, rfl⟩ := roL_get hv
      exact ih1 i u x hu hx _
    · intro i v x hv hx
      obtain ⟨u, hu, rfl⟩ := roL_get hv
      exact ih2 i u x hu hx _
  | nilfunc p => exact .nilfunc q
  | iface p t v x h ih => exact .iface q t _ x (ih _)
  | agg p cs vs hl h ih =>
    refine .agg q _ vs (by rw [roL_length]; exact hl) ?_
    intro i v x hv hx
    obtain ⟨u, hu, rfl⟩ := roL_get hv
    exact ih i u x hu hx _
  | tup p cs vs hl h ih =>
    refine .tup q _ vs (by rw [roL_length]; exact hl) ?_
    intro i v x hv hx
    obtain ⟨u, hu, rfl⟩ := roL_get hv
    exact ih i u x hu hx _

/-! ### Weaker values -/
inductive Wk : AV → AV → Prop
  | refl (v : AV) : Wk v v
  | nilsOwn (sz : Nat) : Wk .nils (.list (some sz) [])
  | nilsRo : Wk .nils (.list none [])
  | nilslOwn (sz : Nat) : Wk .nilsl (.list (some sz) [])
  | nilslRo : Wk .nilsl (.list none [])
  | nilslNils : Wk .nilsl .nils
  | ro (xs : List (List AV)) (sz : Nat) : Wk (.list (some sz) xs) (.list none xs)
  | agg (cs ds : List AV) (hl : cs.length = ds.length) (h : ∀ (i : Nat) c d, cs[i]? = some c → ds[i]? = some d → Wk c d) : Wk (.agg cs) (.agg ds)
  | tup (cs ds : List AV) (hl : cs.length = ds.length) (h : ∀ (i : Nat) c d, cs[i]? = some c → ds[i]? = some d → Wk c d) : Wk (.tup cs) (.tup ds)

theorem Rep.wk {w : World} {R : Ext0} {ι : Nat → Option Nat} {ω : Nat → Option (List Nat)} {p : List Nat} {v v' : AV} {x : Value} (h : Rep w R ι ω p v x)
    (k : Wk v v') : Rep w R ι ω p v' x := by
  induction k generalizing p x with
  | refl v => exact h
  | nilsOwn sz =>
    cases h with
    | pure p v x h => cases h; exact .ownnil p sz _
  | nilsRo =>
    cases h with
    | pure p v x h => cases h; exact .pure p _ _ (.empty _ 0)
  | nilslOwn sz =>
    cases h with
    | pure p v x h => cases h; exact .ownnil p sz _
  | nilslRo =>
    cases h with
    | pure p v x h => cases h; exact .pure p _ _ (.empty _ 0)
  | nilslNils =>
    cases h with
    | pure p v x h => cases h; exact .pure p _ _ (.nils _)
  | ro xs sz =>
    cases h with
    | pure p v x h => cases h
    | ownnil p sz a => exact .pure p _ _ (.empty a 0)
    | own p xs sz k off c h hsz hown hw => exact .pure p _ _ h
  | agg cs ds hl _ ih =>
    cases h with
    | pure p v x h => cases h
    | agg p cs vs hl' h =>
      refine .agg p ds vs (hl ▸ hl') ?_
      intro i d x hd hx
      obtain ⟨c, hc⟩ : ∃ c, cs[i]? = some c := by
        have := (List.getElem?_eq_some_iff.1 hd).1
        exact ⟨cs[i]'(by omega), List.getElem?_eq_getElem (by omega)⟩
      exact ih i c d hc hd (h i c x hc hx)
  | tup cs ds hl _ ih =>
    cases h with
    | pure p v x h => cases h
    | tup p cs vs hl' h =>
      refine .tup p ds vs (hl ▸ hl') ?_
      intro i d x hd hx
      obtain ⟨c, hc⟩ : ∃ c, cs[i]? = some c := by
        have := (List.getElem?_eq_some_iff.1 hd).1
        exact ⟨cs[i]'(by omega), List.getElem?_eq_getElem (by omega)⟩
      exact ih i c d hc hd (h i c x hc hx)

/-! ### A value that is handed on: its places -/
theorem Rep.remap {w : World} {R : Ext0} {ι : Nat → Option Nat} {ω ω' : Nat → Option (List Nat)} {p : List Nat} {v : AV} {x : Value} (h : Rep w R ι ω p v x) :
    ∀ (q : List Nat), (∀ k s, ω k = some (p ++ s) → ω' k = some (q ++ s)) → Rep w R ι ω' q v x := by
  induction h with
  | pure p v x h => intro q _; exact .pure q v x h
  | ownnil p sz a => intro q _; exact .ownnil q sz a
  | own p xs sz k off c h hsz hown hw =>
    intro q hq
    exact .own q xs sz k off c h hsz hown (by have := hq k [] (by simpa using hw); simpa using this)
  | ptr p o off b h => intro q _; exact .ptr q o off b h
  | msl p o off len sz b c h hc hcap => intro q _; exact .msl q o off len sz b c h hc hcap
  | func p f first cap first' cap' h1 h2 g1 g2 ih1 ih2 =>
    intro q hq
    exact .func q f first cap first' cap' h1 h2
      (fun i v x hv hx => ih1 i v x hv hx _ (fun k s hs => by rw [List.append_assoc] at hs ⊢; exact hq k _ hs))
      (fun i v x hv hx => ih2 i v x hv hx _ (fun k s hs => by rw [List.append_assoc] at hs ⊢; exact hq k _ hs))
  | nilfunc p => intro q _; exact .nilfunc q
  | iface p t v x h ih => intro q hq; exact .iface q t v x (ih _ (fun k s hs => by rw [List.append_assoc] at hs ⊢; exact hq k _ hs))
  | agg p cs vs hl h ih =>
    intro q hq
    exact .agg q cs vs hl (fun i v x hv hx => ih i v x hv hx _ (fun k s hs => by rw [List.append_assoc] at hs ⊢; exact hq k _ hs))
  | tup p cs vs hl h ih =>
    intro q hq
    exact .tup q cs vs hl (fun i v x hv hx => ih i v x hv hx _ (fun k s hs => by rw [List.append_assoc] at hs ⊢; exact hq k _ hs))

/-- The path behind another head. -/
def rp (p q r : List Nat) : List Nat := if p.isPrefixOf r then q ++ r.drop p.length else r
theorem rp_at (p q s : List Nat) : rp p q (p ++ s) = q ++ s := by
  unfold rp
  have : p.isPrefixOf (p ++ s) = true := by rw [List.isPrefixOf_iff_prefix]; exact List.prefix_append p s
  rw [if_pos this, List.drop_left]
/-- Two places, neither of which lies in the other. -/
def apart (p r : List Nat) : Prop := ∀ s t, p ++ s ≠ r ++ t
theorem rp_far {p q r : List Nat} (h : apart p r) (s : List Nat) : rp p q (r ++ s) = r ++ s := by
  unfold rp
  rw [if_neg]
  intro hp
  rw [List.isPrefixOf_iff_prefix] at hp
  obtain ⟨t, ht⟩ := hp
  exact h t s ht
theorem apart_slot {d e : Nat} (h : d ≠ e) : apart [0, d] [0, e] := by intro s t he; simp at he; exact h he.1
theorem apart_slot_obj (d o c : Nat) : apart [0, d] [1, o, c] := by intro s t he; simp at he
theorem apart_obj_slot (d o c : Nat) : apart [1, o, c] [0, d] := by intro s t he; simp at he
theorem apart_obj {o c o' c' : Nat} (h : ¬ (o = o' ∧ c = c')) : apart [1, o, c] [1, o', c'] := by
  intro s t he; simp at he; exact h ⟨he.1, he.2.1⟩

end Go.Aw
end
section
namespace Go.Aw
open Go.RowKit

def upd {α : Type} (f : Nat → Option α) (k : Nat) (v : Option α) : Nat → Option α := fun i => if i = k then v else f i
theorem upd_same {α : Type} (f : Nat → Option α) (k : Nat) (v : Option α) : upd f k v k = v := if_pos rfl
theorem upd_ne {α : Type} (f : Nat → Option α) {k i : Nat} (v : Option α) (h : i ≠ k) : upd f k v i = f i := if_neg h

/-! ### Objects behind pointers -/
/-- An object of which something is told. -/
def lv (m : Nat → Option (List AV)) (o : Nat) : Prop := ∃ c l, m o = some (c :: l)
theorem lv_some {m : Nat → Option (List AV)} {o : Nat} {obj : List AV} (h : m o = some obj) (hne : obj ≠ []) : lv m o := by
  cases obj with
  | nil => exact absurd rfl hne
  | cons c l => exact ⟨c, l, h⟩
theorem lv_of {m : Nat → Option (List AV)} {o : Nat} (h : lv m o) : ∃ obj, m o = some obj ∧ obj ≠ [] := by
  obtain ⟨c, l, h⟩ := h; exact ⟨_, h, by simp⟩
theorem lv_upd {m : Nat → Option (List AV)} {o o2 : Nat} {obj obj' : List AV} (ho : m o = some obj) (hne : obj ≠ []) (h : lv (upd m o (some obj')) o2) : lv m o2 := by
  by_cases he : o2 = o
  · subst he; exact lv_some ho hne
  · obtain ⟨c, l, h⟩ := h; rw [upd_ne _ _ he] at h; exact ⟨c, l, h⟩
theorem ne_of_get {obj : List AV} {c : Nat} {v : AV} (h : obj[c]? = some v) : obj ≠ [] := by rintro rfl; simp at h

structure MR (w : World) (R : Ext0) (ι : Nat → Option Nat) (ω : Nat → Option (List Nat)) (m : Nat → Option (List AV)) : Prop where
  dom : ∀ o obj, m o = some obj → ∃ b, ι o = some b
  objs : ∀ o obj, m o = some obj → obj ≠ [] → ∃ b arr e, ι o = some b ∧ w.heap[b]? = some (.cells arr e (0, 0)) ∧ obj.length ≤ arr.size ∧ R b = some 0 ∧
    ∀ c v, obj[c]? = some v → ∃ x, arr[c]? = some x ∧ Rep w R ι ω [1, o, c] v x
  inj : ∀ o o' b, lv m o → lv m o' → ι o = some b → ι o' = some b → o = o'
  sep : ∀ k p, ω k = some p → ∀ o, lv m o → ι o ≠ some k
  ilt : ∀ o b, ι o = some b → b < w.heap.size
  olt : ∀ k p, ω k = some p → k < w.heap.size

/-- Package variables that no one writes: what each holds. -/
class GT (P : Program) where
  tab : Nat → Option (List AV)
  /-- Slices of which types are objects from the start. -/
  mutT : TypeId → Bool := fun _ => false
  /-- The same, of slices that begin as nil. -/
  mutN : TypeId → Bool := fun _ => false
  /-- Behind which functions results are frozen. -/
  frzF : FuncId → Bool := fun _ => false
def GOK (P : Program) [GT P] (w : World) (R : Ext0) : Prop := ∀ g cells, GT.tab P g = some cells → PRep w R (.eptr cells 0) (.pointer (some ⟨g, 0, none⟩))
theorem GOK.ext {P : Program} [GT P] {w w' : World} {R R' : Ext0} (h : GOK P w R) (e : Ext w R w' R') : GOK P w' R' := fun g cells hg => (h g cells hg).ext e

/-- How a call began. -/
structure Gam where
  w0 : World
  R0 : Ext0
  ι0 : Nat → Option Nat
  M0 : Nat → Prop
  nt : Nat

def Gam.Fit (Γ : Gam) (P : Program) [GT P] (nt : Nat) : Prop := Γ.nt = nt ∧ GOK P Γ.w0 Γ.R0

structure Env (Γ : Gam) (w : World) (R : Ext0) (ι : Nat → Option Nat) (ω : Nat → Option (List Nat)) (m : Nat → Option (List AV)) : Prop where
  ext : Ext Γ.w0 Γ.R0 w R
  os : w.os = Γ.w0.os
  tape : w.tape = Γ.w0.tape
  output : w.output = Γ.w0.output
  kept : ∀ b, b < Γ.w0.heap.size → ¬ Γ.M0 b → w.heap[b]? = Γ.w0.heap[b]? ∧ R b = Γ.R0 b
  inew : ∀ o b, lv m o → ι o = some b → Γ.M0 b ∨ Γ.w0.heap.size ≤ b
  i0 : ∀ o b, Γ.ι0 o = some b → ι o = some b
  oold : ∀ k p, ω k = some p → Γ.w0.heap.size ≤ k ∨ Γ.M0 k

structure Rel (Γ : Gam) (g : Nat → Option AV) (m : Nat → Option (List AV)) (a : Act) (w : World) (R : Ext0) (ι : Nat → Option Nat) (ω : Nat → Option (List Nat)) : Prop where
  slots : ∀ d v, g d = some v → ∃ x, a.tmps[d]? = some x ∧ Rep w R ι ω [0, d] v x
  nt : a.tmps.size = Γ.nt
  nodef : a.defers = []
  mr : MR w R ι ω m
  env : Env Γ w R ι ω m

theorem Env.step {Γ : Gam} {w w' : World} {R R' : Ext0} {ι ι' : Nat → Option Nat} {ω ω' : Nat → Option (List Nat)} {m m' : Nat → Option (List AV)} (h : Env Γ w R ι ω m)
    (e : Ext w R w' R') (h1 : w'.os = w.os) (h2 : w'.tape = w.tape) (h3 : w'.output = w.output)
    (hk : ∀ b, b < w.heap.size → (∀ o, lv m o → ι o ≠ some b) → ω b = none → w'.heap[b]? = w.heap[b]? ∧ R' b = R b)
    (hi : ∀ o b, ι o = some b → ι' o = some b) (hn : ∀ o b, lv m' o → ι' o = some b → (∃ o2, lv m o2 ∧ ι o2 = some b) ∨ w.heap.size ≤ b ∨ ∃ q, ω b = some q)
    (ho : ∀ k p, ω' k = some p → (∃ q, ω k = some q) ∨ w.heap.size ≤ k ∨ ∃ o2, lv m o2 ∧ ι o2 = some k) : Env Γ w' R' ι' ω' m' where
  ext := h.ext.trans e
  os := h1.trans h.os
  tape := h2.trans h.tape
  output := h3.trans h.output
  kept := fun b hb hM => by
    obtain ⟨k1, k2⟩ := h.kept b hb hM
    have hs := h.ext.size
    have : w'.heap[b]? = w.heap[b]? ∧ R' b = R b := by
      refine hk b (by omega) (fun o hl ho => ?_) ?_
      · rcases h.inew o b hl ho with h' | h'
        · exact hM h'
        · omega
      · cases hw : ω b with
        | none => rfl
        | some p =>
          rcases h.oold b p hw with h' | h'
          · omega
          · exact absurd h' hM
    exact ⟨this.1.trans k1, this.2.trans k2⟩
  inew := fun o b hl hb => by
    have hs := h.ext.size
    rcases hn o b hl hb with ⟨o2, hl2, h'⟩ | h' | ⟨q, h'⟩
    · exact h.inew o2 b hl2 h'
    · exact .inr (by omega)
    · exact (h.oold b q h').symm
  i0 := fun o b hb => hi o b (h.i0 o b hb)
  oold := fun k p hp => by
    have hs := h.ext.size
    rcases ho k p hp with ⟨q, hq⟩ | h' | ⟨o2, hl2, h'⟩
    · exact h.oold k q hq
    · exact .inl (by omega)
    · exact (h.inew o2 k hl2 h').symm

/-! ### Steps that leave memory alone -/
theorem eval_tmp {Γ : Gam} {g : Nat → Option AV} {m : Nat → Option (List AV)} {a : Act} {w : World} {R : Ext0} {ι : Nat → Option Nat} {ω : Nat → Option (List Nat)}
    (h : Rel Γ g m a w R ι ω) {t : Nat} {v : AV} (hv : g t = some v) : Rep w R ι ω [0, t] v (a.eval (.tmp t)) := by
  obtain ⟨x, hx, hr⟩ := h.slots t v hv
  have : a.eval (.tmp t) = x := by simp [Act.eval, hx]
  rw [this]; exact hr

theorem put_get {a : Act} {d : Nat} {x : Value} (hd : d < a.tmps.size) (e : Nat) :
    (a.put (some d) x).tmps[e]? = if e = d then some x else a.tmps[e]? := by
  simp only [Act.put, Array.getElem?_setIfInBounds]
  by_cases h : e = d
  · subst h; simp [hd]
  · rw [if_neg (by omega), if_neg h]

theorem Rel.set {Γ : Gam} {g : Nat → Option AV} {m : Nat → Option (List AV)} {a : Act} {w : World} {R : Ext0} {ι : Nat → Option Nat} {ω : Nat → Option (List Nat)}
    (h : Rel Γ g m a w R ι ω) {d : Nat} {v : AV} {x : Value} (hd : d < Γ.nt) (hr : Rep w R ι ω [0, d] v x) :
    Rel Γ (upd g d (some v)) m (a.put (some d) x) w R ι ω where
  slots := fun e u hu => by
    have hs : d < a.tmps.size := by rw [h.nt]; exact hd
    rw [put_get hs]
    by_cases he : e = d
    · subst he
      rw [upd_same] at hu; injection hu with hu; subst hu
      exact ⟨x, if_pos rfl, hr⟩
    · rw [upd_ne _ _ he] at hu
      rw [if_neg he]
      exact h.slots e u hu
  nt := by simp only [Act.put, Array.size_setIfInBounds]; exact h.nt
  nodef := h.nodef
  mr := h.mr
  env := h.env

/-- A slot is written of which nothing is told. -/
theorem Rel.unset {Γ : Gam} {g : Nat → Option AV} {m : Nat → Option (List AV)} {a : Act} {w : World} {R : Ext0} {ι : Nat → Option Nat} {ω : Nat → Option (List Nat)}
    (h : Rel Γ g m a w R ι ω) (d : Option Nat) (x : Value) :
    Rel Γ (match d with | some d => upd g d none | none => g) m (a.put d x) w R ι ω where
  slots := fun e u hu => by
    cases d with
    | none => exact h.slots e u hu
    | some d =>
      simp only [Act.put]
      by_cases he : e = d
      · subst he; simp only [upd_same] at hu; cases hu
      · simp only [upd_ne _ _ he] at hu
        obtain ⟨y, hy, hr⟩ := h.slots e u hu
        exact ⟨y, by rw [Array.getElem?_setIfInBounds, if_neg (by omega)]; exact hy, hr⟩
  nt := by cases d <;> simp only [Act.put, Array.size_setIfInBounds] <;> exact h.nt
  nodef := by cases d <;> exact h.nodef
  mr := h.mr
  env := h.env

/-- Less is told. -/
theorem Rel.less {Γ : Gam} {g g' : Nat → Option AV} {m : Nat → Option (List AV)} {a : Act} {w : World} {R : Ext0} {ι : Nat → Option Nat} {ω : Nat → Option (List Nat)}
    (h : Rel Γ g m a w R ι ω) (hg : ∀ d v, g' d = some v → ∃ u, g d = some u ∧ Wk u v) : Rel Γ g' m a w R ι ω where
  slots := fun d v hv => by
    obtain ⟨u, hu, hw⟩ := hg d v hv
    obtain ⟨x, hx, hr⟩ := h.slots d u hu
    exact ⟨x, hx, hr.wk hw⟩
  nt := h.nt
  nodef := h.nodef
  mr := h.mr
  env := h.env

theorem MR.remap {w : World} {R : Ext0} {ι : Nat → Option Nat} {ω : Nat → Option (List Nat)} {m : Nat → Option (List AV)} (h : MR w R ι ω m) (f : List Nat → List Nat)
    (hf : ∀ o c s, f ([1, o, c] ++ s) = [1, o, c] ++ s) : MR w R ι (fun k => (ω k).map f) m where
  dom := h.dom
  objs := fun o obj ho hne => by
    obtain ⟨b, arr, e, h1, h2, h3, h4, h5⟩ := h.objs o obj ho hne
    refine ⟨b, arr, e, h1, h2, h3, h4, fun c v hv => ?_⟩
    obtain ⟨x, hx, hr⟩ := h5 c v hv
    exact ⟨x, hx, hr.remap _ (fun k s hs => by simp only [hs, Option.map_some]; rw [hf])⟩
  inj := h.inj
  sep := fun k p hp o => by
    cases hw : ω k with
    | none => simp [hw] at hp
    | some q => exact h.sep k q hw o
  ilt := h.ilt
  olt := fun k p hp => by
    cases hw : ω k with
    | none => simp [hw] at hp
    | some q => exact h.olt k q hw

theorem Env.remap {Γ : Gam} {w : World} {R : Ext0} {ι : Nat → Option Nat} {ω : Nat → Option (List Nat)} {m : Nat → Option (List AV)} (h : Env Γ w R ι ω m) (f : List Nat → List Nat) :
    Env Γ w R ι (fun k => (ω k).map f) m :=
  ⟨h.ext, h.os, h.tape, h.output, h.kept, h.inew, h.i0, fun k p hp => by
      cases hw : ω k with
      | none => simp [hw] at hp
      | some q => exact h.oold k q hw⟩

theorem Env.mem {Γ : Gam} {w : World} {R : Ext0} {ι : Nat → Option Nat} {ω : Nat → Option (List Nat)} {m m' : Nat → Option (List AV)} (h : Env Γ w R ι ω m) (hm : ∀ o, Nat → lv m' o → lv m o) : Env Γ w R ι ω m' :=
  ⟨h.ext, h.os, h.tape, h.output, h.kept, fun o b hl hb => h.inew o b (hm o b hl) hb, h.i0, h.oold⟩

/-- What slot s owns goes over to slot d (v: the part of it at path r in s). -/
theorem Rel.hand {Γ : Gam} {g : Nat → Option AV} {m : Nat → Option (List AV)} {a : Act} {w : World} {R : Ext0} {ι : Nat → Option Nat} {ω : Nat → Option (List Nat)}
    (h : Rel Γ g m a w R ι ω) {s d : Nat} {u v : AV} {x : Value} (r : List Nat) (hs : g s = some u) (hd : d < Γ.nt) (hne : s ≠ d)
    (hr : Rep w R ι ω ([0, s] ++ r) v x) :
    Rel Γ (upd (upd g s (some u.ro)) d (some v)) m (a.put (some d) x) w R ι (fun k => (ω k).map (rp ([0, s] ++ r) [0, d])) where
  slots := fun e y hy => by
    have hsz : d < a.tmps.size := by rw [h.nt]; exact hd
    rw [put_get hsz]
    by_cases he : e = d
    · subst he
      rw [upd_same] at hy; injection hy with hy; subst hy
      exact ⟨x, if_pos rfl, hr.remap _ (fun k t ht => by simp only [ht, Option.map_some]; rw [rp_at])⟩
    · rw [upd_ne _ _ he] at hy
      rw [if_neg he]
      by_cases he2 : e = s
      · subst he2
        rw [upd_same] at hy; injection hy with hy; subst hy
        obtain ⟨z, hz, hzr⟩ := h.slots e u hs
        exact ⟨z, hz, hzr.ro _ _⟩
      · rw [upd_ne _ _ he2] at hy
        obtain ⟨z, hz, hzr⟩ := h.slots e y hy
        refine ⟨z, hz, hzr.remap _ (fun k t ht => ?_)⟩
        simp only [ht, Option.map_some]
        rw [rp_far]
        intro s' t' hh
        simp at hh
        exact he2 hh.1.symm
  nt := by simp only [Act.put, Array.size_setIfInBounds]; exact h.nt
  nodef := h.nodef
  mr := h.mr.remap _ (fun o c s' => rp_far (by intro s2 t hh; simp at hh) s')
  env := h.env.remap _

/-- What an object's cell owns goes over to slot d. -/
theorem Rel.handObj {Γ : Gam} {g : Nat → Option AV} {m : Nat → Option (List AV)} {a : Act} {w : World} {R : Ext0} {ι : Nat → Option Nat} {ω : Nat → Option (List Nat)}
    (h : Rel Γ g m a w R ι ω) {o c d : Nat} {obj : List AV} {v : AV} {x : Value} (ho : m o = some obj) (hv : obj[c]? = some v) (hd : d < Γ.nt)
    (hr : Rep w R ι ω [1, o, c] v x) :
    Rel Γ (upd g d (some v)) (upd m o (some (obj.set c v.ro))) (a.put (some d) x) w R ι (fun k => (ω k).map (rp [1, o, c] [0, d])) where
  slots := fun e y hy => by
    have hsz : d < a.tmps.size := by rw [h.nt]; exact hd
    rw [put_get hsz]
    by_cases he : e = d
    · subst he
      rw [upd_same] at hy; injection hy with hy; subst hy
      exact ⟨x, if_pos rfl, hr.remap _ (fun k t ht => by simp only [ht, Option.map_some]; rw [rp_at])⟩
    · rw [upd_ne _ _ he] at hy
      rw [if_neg he]
      obtain ⟨z, hz, hzr⟩ := h.slots e y hy
      refine ⟨z, hz, hzr.remap _ (fun k t ht => ?_)⟩
      simp only [ht, Option.map_some]
      rw [rp_far (apart_obj_slot e o c)]
  nt := by simp only [Act.put, Array.size_setIfInBounds]; exact h.nt
  nodef := h.nodef
  mr := {
    dom := fun o' obj' ho' => by
      by_cases he : o' = o
      · subst he; exact h.mr.dom _ _ ho
      · rw [upd_ne _ _ he] at ho'; exact h.mr.dom _ _ ho'
    objs := fun o' obj' ho' hne' => by
      by_cases he : o' = o
      · subst he
        rw [upd_same] at ho'; injection ho' with ho'; subst ho'
        obtain ⟨b, arr, e, h1, h2, h3, h4, h5⟩ := h.mr.objs o' obj ho (ne_of_get hv)
        refine ⟨b, arr, e, h1, h2, by rw [List.length_set]; exact h3, h4, fun c' v' hv' => ?_⟩
        by_cases hc : c' = c
        · subst hc
          rw [List.getElem?_set_self (List.getElem?_eq_some_iff.1 hv).1] at hv'
          injection hv' with hv'; subst hv'
          obtain ⟨y, hy, hyr⟩ := h5 c' v hv
          exact ⟨y, hy, hyr.ro _ _⟩
        · rw [List.getElem?_set_ne (by omega)] at hv'
          obtain ⟨y, hy, hyr⟩ := h5 c' v' hv'
          refine ⟨y, hy, hyr.remap _ (fun k t ht => ?_)⟩
          simp only [ht, Option.map_some]
          rw [rp_far (apart_obj (by omega))]
      · rw [upd_ne _ _ he] at ho'
        obtain ⟨b, arr, e, h1, h2, h3, h4, h5⟩ := h.mr.objs o' obj' ho' hne'
        refine ⟨b, arr, e, h1, h2, h3, h4, fun c' v' hv' => ?_⟩
        obtain ⟨y, hy, hyr⟩ := h5 c' v' hv'
        refine ⟨y, hy, hyr.remap _ (fun k t ht => ?_)⟩
        simp only [ht, Option.map_some]
        rw [rp_far (apart_obj (by omega))]
    inj := fun o1 o2 b l1 l2 => h.mr.inj o1 o2 b (lv_upd ho (ne_of_get hv) l1) (lv_upd ho (ne_of_get hv) l2)
    sep := fun k p hp o' hl => by
      cases hw : ω k with
      | none => simp [hw] at hp
      | some q => exact h.mr.sep k q hw o' (lv_upd ho (ne_of_get hv) hl)
    ilt := h.mr.ilt
    olt := fun k p hp => by
      cases hw : ω k with
      | none => simp [hw] at hp
      | some q => exact h.mr.olt k q hw }
  env := (h.env.remap _).mem (fun o' b hl => lv_upd ho (ne_of_get hv) hl)

end Go.Aw
end
section
namespace Go.Aw
open Go.RowKit

section
variable {Γ : Gam} {g : Nat → Option AV} {m : Nat → Option (List AV)} {a : Act} {w : World} {R : Ext0} {ι : Nat → Option Nat} {ω : Nat → Option (List Nat)}

theorem ext_alloc (w : World) (R : Ext0) (arr : Array Value) (e : TypeId) (fz : Nat × Nat) (n : Nat) :
    Ext w R (w.alloc (.cells arr e fz)) (upd R w.heap.size (some n)) where
  size := by show w.heap.size ≤ (w.heap.push _).size; rw [Array.size_push]; omega
  cell := fun b off v hv hs => by
    have hb : b < w.heap.size := World.block_lt_of_cell? w _ hv
    refine ⟨by rw [World.cell?_alloc_lt]; exact hv; exact hb, ?_⟩
    intro k hk
    rw [upd_ne _ _ (by omega)] at hk
    exact hs k hk
  blk := fun b arr' e' fz' hb => by
    have hlt : b < w.heap.size := by
      rcases Nat.lt_or_ge b w.heap.size with h | h
      · exact h
      · rw [Array.getElem?_eq_none h] at hb; cases hb
    exact ⟨arr', e', fz', (Below.heap_alloc w _ b hlt).trans hb, Nat.le_refl _⟩
theorem lv_ne {m : Nat → Option (List AV)} {o o2 : Nat} {v : Option (List AV)} (hne : o2 ≠ o) (h : lv (upd m o v) o2) : lv m o2 := by
  obtain ⟨c, l, h⟩ := h; rw [upd_ne _ _ hne] at h; exact ⟨c, l, h⟩

theorem heap_alloc_lt {k : Nat} (o : Obj) (h : k < w.heap.size) : (w.alloc o).heap[k]? = w.heap[k]? := Below.heap_alloc w o k h
theorem heap_alloc_new (o : Obj) : (w.alloc o).heap[w.heap.size]? = some o := by show (w.heap.push o)[w.heap.size]? = some o; simp

/-- A new variable in memory. -/
theorem Rel.allocObj (h : Rel Γ g m a w R ι ω) {o d : Nat} (hio : ι o = none) (hd : d < Γ.nt) {cells : List AV} {arr : Array Value} (e : TypeId)
    (hl : arr.size = cells.length) (hr : ∀ c v, cells[c]? = some v → ∃ x, arr[c]? = some x ∧ Rep w R ι ω [1, o, c] v x) :
    Rel Γ (upd g d (some (.ptr o 0))) (upd m o (some cells)) (a.put (some d) (.pointer (some ⟨w.heap.size, 0, none⟩)))
      (w.alloc (.cells arr e)) (upd R w.heap.size (some 0)) (upd ι o (some w.heap.size)) ω := by
  have hE := ext_alloc w R arr e (0, 0) 0
  have hI : ∀ o' b, ι o' = some b → upd ι o (some w.heap.size) o' = some b := fun o' b hb => by
    rw [upd_ne]; exact hb
    rintro rfl; rw [hio] at hb; cases hb
  have hO : ∀ k q, ω k = some q → (w.alloc (.cells arr e)).heap[k]? = w.heap[k]? ∧ upd R w.heap.size (some 0) k = R k ∧ ω k = ω k := fun k q hk => by
    have := h.mr.olt k q hk
    exact ⟨heap_alloc_lt _ this, upd_ne _ _ (by omega), rfl⟩
  have lift : ∀ {p v x}, Rep w R ι ω p v x → Rep (w.alloc (.cells arr e)) (upd R w.heap.size (some 0)) (upd ι o (some w.heap.size)) ω p v x :=
    fun hrep => hrep.ext hE hI (fun k q hk _ => hO k q hk)
  refine ⟨?_, ?_, h.nodef, ⟨?_, ?_, ?_, ?_, ?_, ?_⟩, ?_⟩
  · intro e' y hy
    have hsz : d < a.tmps.size := by rw [h.nt]; exact hd
    rw [put_get hsz]
    by_cases he : e' = d
    · subst he
      rw [upd_same] at hy; injection hy with hy; subst hy
      exact ⟨_, if_pos rfl, .ptr _ o 0 _ (upd_same _ _ _)⟩
    · rw [upd_ne _ _ he] at hy
      rw [if_neg he]
      obtain ⟨z, hz, hzr⟩ := h.slots e' y hy
      exact ⟨z, hz, lift hzr⟩
  · simp only [Act.put, Array.size_setIfInBounds]; exact h.nt
  · intro o' obj ho'
    by_cases he : o' = o
    · subst he; exact ⟨_, upd_same _ _ _⟩
    · rw [upd_ne _ _ he] at ho'
      obtain ⟨b, hb⟩ := h.mr.dom _ _ ho'
      exact ⟨b, hI _ _ hb⟩
  · intro o' obj ho' hne'
    by_cases he : o' = o
    · subst he
      rw [upd_same] at ho'; injection ho' with ho'; subst ho'
      refine ⟨w.heap.size, arr, e, upd_same _ _ _, heap_alloc_new _, by omega, upd_same _ _ _, fun c v hv => ?_⟩
      obtain ⟨x, hx, hxr⟩ := hr c v hv
      exact ⟨x, hx, lift hxr⟩
    · rw [upd_ne _ _ he] at ho'
      obtain ⟨b, arr', e', h1, h2, h3, h4, h5⟩ := h.mr.objs o' obj ho' hne'
      have hlt := h.mr.ilt o' b h1
      refine ⟨b, arr', e', hI _ _ h1, (heap_alloc_lt _ hlt).trans h2, h3, (upd_ne _ _ (by omega)).trans h4, fun c v hv => ?_⟩
      obtain ⟨x, hx, hxr⟩ := h5 c v hv
      exact ⟨x, hx, lift hxr⟩
  · intro o1 o2 b l1 l2 h1 h2
    by_cases e1 : o1 = o
    · by_cases e2 : o2 = o
      · rw [e1, e2]
      · rw [e1, upd_same] at h1; rw [upd_ne _ _ e2] at h2
        have := h.mr.ilt _ _ h2; injection h1 with h1; omega
    · rw [upd_ne _ _ e1] at h1
      by_cases e2 : o2 = o
      · rw [e2, upd_same] at h2
        have := h.mr.ilt _ _ h1; injection h2 with h2; omega
      · rw [upd_ne _ _ e2] at h2; exact h.mr.inj _ _ _ (lv_ne e1 l1) (lv_ne e2 l2) h1 h2
  · intro k p hk o' hl'
    by_cases e1 : o' = o
    · rw [e1, upd_same]; have := h.mr.olt _ _ hk; intro hh; injection hh with hh; omega
    · rw [upd_ne _ _ e1]; exact h.mr.sep k p hk o' (lv_ne e1 hl')
  · intro o' b hb
    show _ < (w.heap.push _).size; rw [Array.size_push]
    by_cases e1 : o' = o
    · rw [e1, upd_same] at hb; injection hb with hb; omega
    · rw [upd_ne _ _ e1] at hb; have := h.mr.ilt _ _ hb; omega
  · intro k p hk
    show _ < (w.heap.push _).size; rw [Array.size_push]
    have := h.mr.olt _ _ hk; omega
  · refine h.env.step hE rfl rfl rfl ?_ hI ?_ (fun k p hp => .inl ⟨p, hp⟩)
    · intro b hb _ _
      exact ⟨heap_alloc_lt _ hb, upd_ne _ _ (by omega)⟩
    · intro o' b hl' hb
      by_cases e1 : o' = o
      · rw [e1, upd_same] at hb; injection hb with hb; exact .inr (.inl (by omega))
      · rw [upd_ne _ _ e1] at hb; exact .inl ⟨o', lv_ne e1 hl', hb⟩

/-- A new slice that owns what lies behind it. -/
theorem Rel.allocRow (h : Rel Γ g m a w R ι ω) {d : Nat} (hd : d < Γ.nt) {xs : List (List AV)} {sz c : Nat} {arr : Array Value} (e : TypeId) (fz : Nat × Nat)
    (hfz : ∀ i, i < arr.size → ¬ (fz.1 ≤ i ∧ i < fz.2)) (hc : xs.length ≤ c) (hca : c * sz ≤ arr.size) (hsz : ∀ (j : Nat) (x : List AV), xs[j]? = some x → x.length = sz) (val : Nat → Nat → Value)
    (hcell : ∀ j i, j < xs.length → i < sz → arr[j * sz + i]? = some (val j i))
    (hval : ∀ (j : Nat) (x : List AV), xs[j]? = some x → ∀ (i : Nat) (v : AV), x[i]? = some v → PRep w R v (val j i)) :
    Rel Γ (upd g d (some (.list (some sz) xs))) m (a.put (some d) (.slice (some ⟨w.heap.size, 0, none⟩) xs.length c))
      (w.alloc (.cells arr e fz)) (upd R w.heap.size (some (xs.length * sz))) ι (upd ω w.heap.size (some [0, d])) := by
  have hE := ext_alloc w R arr e fz (xs.length * sz)
  have hO : ∀ k q, ω k = some q → (w.alloc (.cells arr e fz)).heap[k]? = w.heap[k]? ∧ upd R w.heap.size (some (xs.length * sz)) k = R k ∧ upd ω w.heap.size (some [0, d]) k = ω k := fun k q hk => by
    have := h.mr.olt k q hk
    exact ⟨heap_alloc_lt _ this, upd_ne _ _ (by omega), upd_ne _ _ (by omega)⟩
  have lift : ∀ {p v x}, Rep w R ι ω p v x → Rep (w.alloc (.cells arr e fz)) (upd R w.heap.size (some (xs.length * sz))) ι (upd ω w.heap.size (some [0, d])) p v x :=
    fun hrep => hrep.ext hE (fun _ _ hb => hb) (fun k q hk _ => hO k q hk)
  refine ⟨?_, ?_, h.nodef, ⟨h.mr.dom, ?_, ?_, ?_, ?_, ?_⟩, ?_⟩
  · intro e' y hy
    have hsz' : d < a.tmps.size := by rw [h.nt]; exact hd
    rw [put_get hsz']
    by_cases he : e' = d
    · subst he
      rw [upd_same] at hy; injection hy with hy; subst hy
      refine ⟨_, if_pos rfl, .own _ xs sz w.heap.size 0 c ?_ hsz ⟨⟨arr, e, fz, heap_alloc_new _, by omega, ?_⟩, hc, by rw [upd_same]; simp⟩ (upd_same _ _ _)⟩
      · refine .list xs sz _ 0 c val hc hsz (fun j i hj hi => ⟨?_, ?_⟩) (fun j x hx i v hv => (hval j x hx i v hv).ext hE)
        · rw [World.cell?, heap_alloc_new]; simpa using hcell j i hj hi
        · intro n hn
          rw [upd_same] at hn; injection hn with hn; subst hn
          have : (j + 1) * sz ≤ xs.length * sz := Nat.mul_le_mul_right _ (by omega)
          rw [Nat.succ_mul] at this; omega
      · intro i hi
        have := hfz i hi
        simp only [World.frozen?, heap_alloc_new]
        obtain ⟨lo, hi'⟩ := fz
        simp at this ⊢
        omega
    · rw [upd_ne _ _ he] at hy
      rw [if_neg he]
      obtain ⟨z, hz, hzr⟩ := h.slots e' y hy
      exact ⟨z, hz, lift hzr⟩
  · simp only [Act.put, Array.size_setIfInBounds]; exact h.nt
  · intro o' obj ho' hne'
    obtain ⟨b, arr', e', h1, h2, h3, h4, h5⟩ := h.mr.objs o' obj ho' hne'
    have hlt := h.mr.ilt o' b h1
    refine ⟨b, arr', e', h1, (heap_alloc_lt _ hlt).trans h2, h3, (upd_ne _ _ (by omega)).trans h4, fun c v hv => ?_⟩
    obtain ⟨x, hx, hxr⟩ := h5 c v hv
    exact ⟨x, hx, lift hxr⟩
  · exact h.mr.inj
  · intro k p hk o' hl'
    by_cases e1 : k = w.heap.size
    · intro hh; have := h.mr.ilt _ _ hh; omega
    · rw [upd_ne _ _ e1] at hk; exact h.mr.sep k p hk o' hl'
  · intro o' b hb
    show _ < (w.heap.push _).size; rw [Array.size_push]
    have := h.mr.ilt _ _ hb; omega
  · intro k p hk
    show _ < (w.heap.push _).size; rw [Array.size_push]
    by_cases e1 : k = w.heap.size
    · omega
    · rw [upd_ne _ _ e1] at hk; have := h.mr.olt _ _ hk; omega
  · refine h.env.step hE rfl rfl rfl ?_ (fun _ _ hb => hb) (fun o' _ hl' hb => .inl ⟨o', hl', hb⟩) ?_
    · intro b hb _ _
      exact ⟨heap_alloc_lt _ hb, upd_ne _ _ (by omega)⟩
    · intro k p hp
      by_cases e1 : k = w.heap.size
      · exact .inr (.inl (by omega))
      · rw [upd_ne _ _ e1] at hp; exact .inl ⟨p, hp⟩

/-- One block is written: an object's. -/
theorem ext_obj {b : Nat} (hR : R b = some 0) {w' : World} (hsz : w'.heap.size = w.heap.size) (hoth : ∀ k, k ≠ b → w'.heap[k]? = w.heap[k]?)
    (hbk : ∀ (arr : Array Value) e fz, w.heap[b]? = some (.cells arr e fz) → ∃ arr' e' fz', w'.heap[b]? = some (.cells arr' e' fz') ∧ arr.size ≤ arr'.size) : Ext w R w' R where
  size := by omega
  blk := fun b' arr e fz hb => by
    by_cases hne : b' = b
    · subst hne; exact hbk arr e fz hb
    · exact ⟨arr, e, fz, (hoth _ hne).trans hb, Nat.le_refl _⟩
  cell := fun b' off v hv hs => by
    have hne : b' ≠ b := by
      rintro rfl
      have := hs 0 hR
      omega
    refine ⟨?_, hs⟩
    rw [World.cell?] at hv ⊢
    rw [hoth _ hne]; exact hv

theorem Rel.storeObj (h : Rel Γ g m a w R ι ω) {o b : Nat} {obj obj' : List AV} {arr' : Array Value} {e : TypeId} {w' : World} (ho : m o = some obj) (hne0 : obj ≠ []) (hb : ι o = some b) (hR : R b = some 0)
    (hbk : ∀ (arr : Array Value) e fz, w.heap[b]? = some (.cells arr e fz) → arr.size ≤ arr'.size)
    (hw' : w'.heap[b]? = some (.cells arr' e (0, 0))) (hsz : w'.heap.size = w.heap.size) (hoth : ∀ k, k ≠ b → w'.heap[k]? = w.heap[k]?)
    (h1 : w'.os = w.os) (h2 : w'.tape = w.tape) (h3 : w'.output = w.output) (f : List Nat → List Nat) (g' : Nat → Option AV)
    (hl : obj'.length ≤ arr'.size) (hcells : ∀ c v, obj'[c]? = some v → ∃ x, arr'[c]? = some x ∧ Rep w R ι (fun k => (ω k).map f) [1, o, c] v x)
    (hslots : ∀ d v, g' d = some v → ∃ x, a.tmps[d]? = some x ∧ Rep w R ι (fun k => (ω k).map f) [0, d] v x)
    (hobj : ∀ o' c s, o' ≠ o → f ([1, o', c] ++ s) = [1, o', c] ++ s) :
    Rel Γ g' (upd m o (some obj')) a w' R ι (fun k => (ω k).map f) := by
  have hE := ext_obj hR hsz hoth (fun arr e0 fz h0 => ⟨arr', e, (0, 0), hw', hbk arr e0 fz h0⟩)
  have hlo : lv m o := lv_some ho hne0
  have hO : ∀ k q, (ω k).map f = some q → w'.heap[k]? = w.heap[k]? ∧ R k = R k ∧ (ω k).map f = (ω k).map f := fun k q hk => by
    refine ⟨hoth k ?_, rfl, rfl⟩
    rintro rfl
    cases hw : ω k with
    | none => simp [hw] at hk
    | some p => exact h.mr.sep k p hw o hlo hb
  have lift : ∀ {p v x}, Rep w R ι (fun k => (ω k).map f) p v x → Rep w' R ι (fun k => (ω k).map f) p v x :=
    fun hrep => hrep.ext hE (fun _ _ hb => hb) (fun k q hk _ => hO k q hk)
  refine ⟨?_, h.nt, h.nodef, ⟨fun o' obj1 ho' => ?_, ?_, fun o1 o2 b l1 l2 => h.mr.inj o1 o2 b (lv_upd ho hne0 l1) (lv_upd ho hne0 l2), ?_, ?_, ?_⟩, ?_⟩
  · intro d v hv
    obtain ⟨x, hx, hr⟩ := hslots d v hv
    exact ⟨x, hx, lift hr⟩
  · by_cases he : o' = o
    · subst he; exact ⟨b, hb⟩
    · rw [upd_ne _ _ he] at ho'; exact h.mr.dom _ _ ho'
  · intro o' obj1 ho' hne1
    by_cases he : o' = o
    · subst he
      rw [upd_same] at ho'; injection ho' with ho'; subst ho'
      refine ⟨b, arr', e, hb, hw', hl, hR, fun c v hv => ?_⟩
      obtain ⟨x, hx, hr⟩ := hcells c v hv
      exact ⟨x, hx, lift hr⟩
    · rw [upd_ne _ _ he] at ho'
      obtain ⟨b1, arr1, e1, k1, k2, k3, k4, k5⟩ := h.mr.objs o' obj1 ho' hne1
      have hne : b1 ≠ b := by rintro rfl; exact he (h.mr.inj _ _ _ (lv_some ho' hne1) hlo k1 hb)
      refine ⟨b1, arr1, e1, k1, (hoth _ hne).trans k2, k3, k4, fun c v hv => ?_⟩
      obtain ⟨x, hx, hr⟩ := k5 c v hv
      exact ⟨x, hx, lift (hr.remap _ (fun k s hs => by simp only [hs, Option.map_some]; rw [hobj o' c s he]))⟩
  · intro k p hk o' hl'
    cases hw : ω k with
    | none => simp [hw] at hk
    | some q => exact h.mr.sep k q hw o' (lv_upd ho hne0 hl')
  · intro o' b' hb'; rw [hsz]; exact h.mr.ilt o' b' hb'
  · intro k p hk
    cases hw : ω k with
    | none => simp [hw] at hk
    | some q => rw [hsz]; exact h.mr.olt k q hw
  · refine h.env.step hE h1 h2 h3 ?_ (fun _ _ hb => hb) (fun o' _ hl' hb => .inl ⟨o', lv_upd ho hne0 hl', hb⟩) ?_
    · intro k hk hko _
      exact ⟨hoth k (fun e => hko o hlo (e ▸ hb)), rfl⟩
    · intro k p hk
      cases hw : ω k with
      | none => simp [hw] at hk
      | some q => exact .inl ⟨q, rfl⟩

/-- More is laid behind a slice that owns the place. -/
theorem Rel.appendIn (h : Rel Γ g m a w R ι ω) {s d k off c sz : Nat} {xs ys : List (List AV)} {w' : World} {cur' : Array Value} {e : TypeId} {fz : Nat × Nat}
    (hs : g s = some (.list (some sz) xs)) (hx : a.tmps[s]? = some (.slice (some ⟨k, off, none⟩) xs.length c)) (hr : Rep w R ι ω [0, s] (.list (some sz) xs) (.slice (some ⟨k, off, none⟩) xs.length c))
    (hd : d < Γ.nt) (hne : s ≠ d) (hc0 : 0 < c) (hc : xs.length + ys.length ≤ c)
    (hw' : w'.heap[k]? = some (.cells cur' e fz)) (hfz : ∀ i, i < cur'.size → w'.frozen? ⟨k, i, none⟩ = false) (hcur : off + c * sz ≤ cur'.size)
    (hbk : ∀ (arr : Array Value) e fz, w.heap[k]? = some (.cells arr e fz) → arr.size ≤ cur'.size)
    (hsz : w'.heap.size = w.heap.size) (hoth : ∀ i, i ≠ k → w'.heap[i]? = w.heap[i]?) (h1 : w'.os = w.os) (h2 : w'.tape = w.tape) (h3 : w'.output = w.output)
    (hkeep : ∀ i, i < off + xs.length * sz → w'.cell? ⟨k, i, none⟩ = w.cell? ⟨k, i, none⟩)
    (hysz : ∀ (j : Nat) (x : List AV), ys[j]? = some x → x.length = sz) (val : Nat → Nat → Value)
    (hcell : ∀ j i, j < ys.length → i < sz → w'.cell? ⟨k, off + (xs.length + j) * sz + i, none⟩ = some (val j i))
    (hval : ∀ (j : Nat) (x : List AV), ys[j]? = some x → ∀ (i : Nat) (v : AV), x[i]? = some v → PRep w R v (val j i)) :
    Rel Γ (upd (upd g s (some (.list none xs))) d (some (.list (some sz) (xs ++ ys)))) m (a.put (some d) (.slice (some ⟨k, off, none⟩) (xs.length + ys.length) c))
      w' (upd R k (some (off + (xs.length + ys.length) * sz))) ι (fun i => (ω i).map (rp [0, s] [0, d])) := by
  cases hr with
  | pure p v x hp => cases hp
  | ownnil => exact absurd hc0 (Nat.lt_irrefl 0)
  | own p xs sz k off c hP hxsz hown hwk =>
  have hRk := hown.lim
  obtain ⟨R', hR'⟩ : ∃ R', R' = upd R k (some (off + (xs.length + ys.length) * sz)) := ⟨_, rfl⟩
  rw [← hR']
  have hRs : R' k = some (off + (xs.length + ys.length) * sz) := by rw [hR', upd_same]
  have hRn : ∀ i, i ≠ k → R' i = R i := fun i hi => by rw [hR', upd_ne _ _ hi]
  clear hR'
  have hE : Ext w R w' R' := by
    refine ⟨by omega, fun b o v hv hst => ?_, fun b arr e0 fz0 hb => by
      by_cases hbk' : b = k
      · subst hbk'; exact ⟨cur', e, fz, hw', hbk arr e0 fz0 hb⟩
      · exact ⟨arr, e0, fz0, (hoth _ hbk').trans hb, Nat.le_refl _⟩⟩
    by_cases hb : b = k
    · subst hb
      have hlt := hst _ hRk
      refine ⟨(hkeep o hlt).trans hv, ?_⟩
      intro n hn
      rw [hRs] at hn; injection hn with hn; subst hn
      rw [Nat.add_mul]; omega
    · refine ⟨by rw [World.cell?] at hv ⊢; rw [hoth _ hb]; exact hv, ?_⟩
      intro n hn
      rw [hRn _ hb] at hn; exact hst n hn
  have far : ∀ (p : List Nat), apart [0, s] p → apart [0, d] p → ∀ {v x}, Rep w R ι ω p v x →
      Rep w' R' ι (fun i => (ω i).map (rp [0, s] [0, d])) p v x := by
    intro p hk hk2 v x hrep
    have h' := hrep.remap (ω' := fun i => (ω i).map (rp [0, s] [0, d])) p (fun i t ht => by simp only [ht, Option.map_some]; rw [rp_far hk])
    refine h'.ext hE (fun _ _ hb => hb) (fun i q hi hq => ?_)
    have hik : i ≠ k := by
      rintro rfl
      obtain ⟨t, rfl⟩ := hq
      simp only [hwk, Option.map_some] at hi
      have hh : rp [0, s] [0, d] ([0, s] ++ []) = [0, d] ++ [] := rp_at _ _ _
      simp only [List.append_nil] at hh
      rw [hh] at hi
      injection hi with hi
      exact hk2 [] t (by simpa using hi)
    exact ⟨hoth i hik, hRn i hik, rfl⟩
  refine ⟨?_, ?_, h.nodef, ⟨h.mr.dom, ?_, h.mr.inj, ?_, ?_, ?_⟩, ?_⟩
  · intro e' y hy
    have hsz' : d < a.tmps.size := by rw [h.nt]; exact hd
    rw [put_get hsz']
    by_cases he : e' = d
    · subst he
      rw [upd_same] at hy; injection hy with hy; subst hy
      refine ⟨_, if_pos rfl, ?_⟩
      have hl : (xs ++ ys).length = xs.length + ys.length := List.length_append
      rw [← hl]
      refine .own _ (xs ++ ys) sz k off c ?_ ?_ ⟨⟨cur', e, fz, hw', hcur, hfz⟩, by rw [hl]; exact hc, by rw [hRs, hl]⟩ ?_
      · have hP' := hP.ext hE
        generalize hX : xs = X at *
        cases hP' with
        | empty a0 c0 =>
          refine .list ([] ++ ys) sz k off c val (by simpa using hc) (by simpa using hysz) (fun j i hj hi => ⟨?_, ?_⟩) (fun j x hx i v hv => (hval j x (by simpa using hx) i v hv).ext hE)
          · have := hcell j i (by simpa using hj) hi
            simpa using this
          · intro n hn
            rw [hRs] at hn; injection hn with hn; subst hn
            have hj' : j < ys.length := by simpa using hj
            have : (j + 1) * sz ≤ ys.length * sz := Nat.mul_le_mul_right _ hj'
            rw [Nat.succ_mul] at this; simp; omega
        | list _ sz1 _ _ _ val1 hc1 hsz1 hcell1 hval1 =>
          refine .list (X ++ ys) sz k off c (fun j i => if j < X.length then val1 j i else val (j - X.length) i) (by rw [hl]; exact hc) ?_ ?_ ?_
          · intro j x hx
            by_cases hj : j < X.length
            · rw [List.getElem?_append_left hj] at hx; exact hxsz j x hx
            · rw [List.getElem?_append_right (by omega)] at hx; exact hysz _ x hx
          · intro j i hj hi
            rw [hl] at hj
            by_cases hj' : j < X.length
            · have hs1 : sz1 = sz := by rw [← hsz1 j X[j] (List.getElem?_eq_getElem hj'), hxsz j X[j] (List.getElem?_eq_getElem hj')]
              subst hs1
              simp only [hj', if_true]
              exact hcell1 j i hj' hi
            · simp only [hj', if_false]
              refine ⟨?_, ?_⟩
              · have := hcell (j - X.length) i (by omega) hi
                rw [show X.length + (j - X.length) = j from by omega] at this
                exact this
              · intro n hn
                rw [hRs] at hn; injection hn with hn; subst hn
                have : (j + 1) * sz ≤ (X.length + ys.length) * sz := Nat.mul_le_mul_right _ (by omega)
                rw [Nat.succ_mul] at this; omega
          · intro j x hx i v hv
            by_cases hj : j < X.length
            · rw [List.getElem?_append_left hj] at hx
              simp only [hj, if_true]; exact hval1 j x hx i v hv
            · rw [List.getElem?_append_right (by omega)] at hx
              simp only [hj, if_false]; exact (hval _ x hx i v hv).ext hE
      · intro j x hx
        by_cases hj : j < xs.length
        · rw [List.getElem?_append_left hj] at hx; exact hxsz j x hx
        · rw [List.getElem?_append_right (by omega)] at hx; exact hysz _ x hx
      · simp only [hwk, Option.map_some]
        have := rp_at [0, s] [0, e'] []
        simpa using this
    · rw [upd_ne _ _ he] at hy
      rw [if_neg he]
      by_cases he2 : e' = s
      · subst he2
        rw [upd_same] at hy; injection hy with hy; subst hy
        exact ⟨_, hx, .pure _ _ _ (hP.ext hE)⟩
      · rw [upd_ne _ _ he2] at hy
        obtain ⟨z, hz, hzr⟩ := h.slots e' y hy
        exact ⟨z, hz, far _ (apart_slot (Ne.symm he2)) (apart_slot (Ne.symm he)) hzr⟩
  · simp only [Act.put, Array.size_setIfInBounds]; exact h.nt
  · intro o' obj ho' hne1
    obtain ⟨b, arr', e', k1, k2, k3, k4, k5⟩ := h.mr.objs o' obj ho' hne1
    have hne' : b ≠ k := by rintro rfl; exact h.mr.sep _ _ hwk o' (lv_some ho' hne1) k1
    refine ⟨b, arr', e', k1, (hoth _ hne').trans k2, k3, (hRn _ hne').trans k4, fun c v hv => ?_⟩
    obtain ⟨x, hx, hxr⟩ := k5 c v hv
    exact ⟨x, hx, far _ (apart_slot_obj s o' c) (apart_slot_obj d o' c) hxr⟩
  · intro i p hi o' hl'
    cases hw : ω i with
    | none => simp [hw] at hi
    | some q => exact h.mr.sep i q hw o' hl'
  · intro o' b hb; rw [hsz]; exact h.mr.ilt o' b hb
  · intro i p hi
    cases hw : ω i with
    | none => simp [hw] at hi
    | some q => rw [hsz]; exact h.mr.olt i q hw
  · refine h.env.step hE h1 h2 h3 ?_ (fun _ _ hb => hb) (fun o' _ hl' hb => .inl ⟨o', hl', hb⟩) ?_
    · intro i _ _ hi
      have : i ≠ k := by rintro rfl; rw [hwk] at hi; cases hi
      exact ⟨hoth i this, hRn _ this⟩
    · intro i p hi
      cases hw : ω i with
      | none => simp [hw] at hi
      | some q => exact .inl ⟨q, rfl⟩

end
end Go.Aw
end
section
namespace Go.Aw
open Go.RowKit

/-! ### Objects' numbers, told anew -/
mutual
def AV.ren (f : Nat → Nat) : AV → AV
  | .ptr o off => .ptr (f o) off
  | .func n a c => .func n (AV.renL f a) (AV.renL f c)
  | .iface t v => .iface t (v.ren f)
  | .agg cs => .agg (AV.renL f cs)
  | .tup vs => .tup (AV.renL f vs)
  | .bool b => .bool b
  | .int k n => .int k n
  | .str s => .str s
  | .nils => .nils
  | .list o xs => .list o xs
  | .eptr x o => .eptr x o
  | .nilptr => .nilptr
  | .nilfunc => .nilfunc
  | .niliface => .niliface
  | .rawp a => .rawp a
  | .nilsl => .nilsl
  | .msl o off l z => .msl (f o) off l z
def AV.renL (f : Nat → Nat) : List AV → List AV
  | [] => []
  | v :: r => v.ren f :: AV.renL f r
end
mutual
def AV.ptrs : AV → List Nat
  | .ptr o _ => [o]
  | .func _ a c => AV.ptrsL a ++ AV.ptrsL c
  | .iface _ v => v.ptrs
  | .agg cs => AV.ptrsL cs
  | .tup vs => AV.ptrsL vs
  | .bool _ => []
  | .int _ _ => []
  | .str _ => []
  | .nils => []
  | .list _ _ => []
  | .eptr _ _ => []
  | .nilptr => []
  | .nilfunc => []
  | .niliface => []
  | .rawp _ => []
  | .nilsl => []
  | .msl o _ _ _ => [o]
def AV.ptrsL : List AV → List Nat
  | [] => []
  | v :: r => v.ptrs ++ AV.ptrsL r
end
theorem renL_eq (f : Nat → Nat) (l : List AV) : AV.renL f l = l.map (AV.ren f) := by
  induction l with
  | nil => rfl
  | cons a r ih => simp only [AV.renL, List.map_cons, ih]
theorem renL_length (f : Nat → Nat) (l : List AV) : (AV.renL f l).length = l.length := by rw [renL_eq, List.length_map]
theorem renL_get {f : Nat → Nat} {l : List AV} {i : Nat} {v : AV} (h : (AV.renL f l)[i]? = some v) : ∃ u, l[i]? = some u ∧ v = u.ren f := by
  rw [renL_eq, List.getElem?_map] at h
  cases hu : l[i]? with
  | none => rw [hu] at h; cases h
  | some u => rw [hu] at h; exact ⟨u, rfl, by injection h with h; exact h.symm⟩
theorem ptrsL_mem {l : List AV} {i : Nat} {u : AV} (h : l[i]? = some u) {o : Nat} (ho : o ∈ u.ptrs) : o ∈ AV.ptrsL l := by
  induction l generalizing i with
  | nil => simp at h
  | cons a r ih =>
    simp only [AV.ptrsL, List.mem_append]
    cases i with
    | zero => simp at h; subst h; exact .inl ho
    | succ i => simp at h; exact .inr (ih h)

theorem PRep.ren {w : World} {R : Ext0} {v : AV} {x : Value} (h : PRep w R v x) (f : Nat → Nat) : v.ren f = v := by
  cases h <;> rfl

theorem Rep.ren {w : World} {R : Ext0} {ι ι' : Nat → Option Nat} {ω ω' : Nat → Option (List Nat)} {p : List Nat} {v : AV} {x : Value} (h : Rep w R ι ω p v x)
    (f : Nat → Nat) : ∀ (q : List Nat), (∀ o, o ∈ v.ptrs → ∀ b, ι o = some b → ι' (f o) = some b) → (∀ k s, ω k = some (p ++ s) → ω' k = some (q ++ s)) → Rep w R ι' ω' q (v.ren f) x := by
  induction h with
  | pure p v x h => intro q _ _; rw [h.ren]; exact .pure q v x h
  | ownnil p sz a => intro q _ _; exact .ownnil q sz a
  | own p xs sz k off c h hsz hown hw =>
    intro q _ hq
    exact .own q xs sz k off c h hsz hown (by have := hq k [] (by simpa using hw); simpa using this)
  | ptr p o off b h => intro q hp _; exact .ptr q (f o) off b (hp o (by simp [AV.ptrs]) b h)
  | msl p o off len sz b c h hc hcap => intro q hp _; exact .msl q (f o) off len sz b c (hp o (by simp [AV.ptrs]) b h) hc hcap
  | func p n first cap first' cap' h1 h2 g1 g2 ih1 ih2 =>
    intro q hp hq
    refine .func q n _ _ first' cap' (by rw [renL_length]; exact h1) (by rw [renL_length]; exact h2) ?_ ?_
    · intro i v x hv hx
      obtain ⟨u, hu, rfl⟩ := renL_get hv
      exact ih1 i u x hu hx _ (fun o ho => hp o (by simp only [AV.ptrs, List.mem_append]; exact .inl (ptrsL_mem hu ho))) (fun k s hs => by rw [List.append_assoc] at hs ⊢; exact hq k _ hs)
    · intro i v x hv hx
      obtain ⟨u, hu, rfl⟩ := renL_get hv
      exact ih2 i u x hu hx _ (fun o ho => hp o (by simp only [AV.ptrs, List.mem_append]; exact .inr (ptrsL_mem hu ho))) (fun k s hs => by rw [List.append_assoc] at hs ⊢; exact hq k _ hs)
  | nilfunc p => intro q _ _; exact .nilfunc q
  | iface p t v x h ih => intro q hp hq; exact .iface q t _ x (ih _ hp (fun k s hs => by rw [List.append_assoc] at hs ⊢; exact hq k _ hs))
  | agg p cs vs hl h ih =>
    intro q hp hq
    refine .agg q _ vs (by rw [renL_length]; exact hl) ?_
    intro i v x hv hx
    obtain ⟨u, hu, rfl⟩ := renL_get hv
    exact ih i u x hu hx _ (fun o ho => hp o (ptrsL_mem hu ho)) (fun k s hs => by rw [List.append_assoc] at hs ⊢; exact hq k _ hs)
  | tup p cs vs hl h ih =>
    intro q hp hq
    refine .tup q _ vs (by rw [renL_length]; exact hl) ?_
    intro i v x hv hx
    obtain ⟨u, hu, rfl⟩ := renL_get hv
    exact ih i u x hu hx _ (fun o ho => hp o (ptrsL_mem hu ho)) (fun k s hs => by rw [List.append_assoc] at hs ⊢; exact hq k _ hs)

/-! ### What a function's call does -/
inductive Out where
  | ret (v : AV)
  | panic (v : AV)

def vw (mem : List (List AV)) : Nat → Option (List AV) := fun o => mem[o]?

structure Post (w : World) (R : Ext0) (ι : Nat → Option Nat) (ω : Nat → Option (List Nat)) (m : Nat → Option (List AV)) (w' : World) (R' : Ext0) (ι' : Nat → Option Nat) (ω' : Nat → Option (List Nat))
    (mem' : List (List AV)) : Prop where
  ext : Ext w R w' R'
  os : w'.os = w.os
  tape : w'.tape = w.tape
  output : w'.output = w.output
  kept : ∀ b, b < w.heap.size → (∀ o, lv m o → ι o ≠ some b) → ω b = none → w'.heap[b]? = w.heap[b]? ∧ R' b = R b
  mr : MR w' R' ι' ω' (vw mem')
  isub : ∀ o b, ι o = some b → ι' o = some b
  inew : ∀ o b, lv (vw mem') o → ι' o = some b → (∃ o2, lv m o2 ∧ ι o2 = some b) ∨ w.heap.size ≤ b ∨ ∃ q, ω b = some q
  oold : ∀ k p, ω' k = some p → w.heap.size ≤ k ∨ (∃ q, ω k = some q) ∨ ∃ o2, lv m o2 ∧ ι o2 = some k

def Enters (P : Program) (n : FuncId) : Prop := ∀ args w, (callFunc n args).run P w = .ok (.enter n args) w

def OutIs (w' : World) (R' : Ext0) (ι' : Nat → Option Nat) (ω' : Nat → Option (List Nat)) : Out → Ending → Prop
  | .ret v, e => ∃ x, e = .returned x ∧ Rep w' R' ι' ω' [2] v x
  | .panic v, e => ∃ x, e = .panicked [{ v := x, recovered := false }] ∧ Rep w' R' ι' ω' [2] v x

/-- A call: a function that is entered, or one of the machine's own, which answers at once. -/
def CallsX (P : Program) (n : FuncId) (vs : Array Value) (w : World) (R : Ending → World → Prop) : Prop :=
  ((callFunc n vs).run P w = .ok (.enter n vs) w ∧ Calls P n vs w R) ∨ ∃ x w', (callFunc n vs).run P w = .ok (.value x) w' ∧ R (.returned x) w'

structure Ctr (P : Program) [GT P] (n : FuncId) (args : List AV) (mem : List (List AV)) (out : Out) (mem' : List (List AV)) : Prop where
  len : mem.length ≤ mem'.length
  run : ∀ (w : World) (R : Ext0) (ι : Nat → Option Nat) (ω : Nat → Option (List Nat)) (vs : Array Value), args.length = vs.size →
    (∀ (i : Nat) v x, args[i]? = some v → vs[i]? = some x → Rep w R ι ω [3, i] v x) → MR w R ι ω (vw mem) → (∀ o b, ι o = some b → o < mem.length) → GOK P w R →
    CallsX P n vs w fun e w' => ∃ R' ι' ω', Post w R ι ω (vw mem) w' R' ι' ω' mem' ∧ OutIs w' R' ι' ω' out e

/-! ### A call, seen from its caller -/
def toCallee (fp : List Nat) (o : Nat) : Nat := (fp.idxOf? o).getD 0
def toCaller (fp : List Nat) (N : Nat) (i : Nat) : Nat := (fp[i]?).getD (N + (i - fp.length))

theorem idxOf_get {fp : List Nat} (hn : fp.Nodup) {i o : Nat} (h : fp[i]? = some o) : fp.idxOf? o = some i := by
  rw [List.idxOf?_eq_some_iff]
  obtain ⟨hi, he⟩ := List.getElem?_eq_some_iff.1 h
  refine ⟨hi, by simp [he], fun j hj => ?_⟩
  intro h2
  have h2 : fp[j] = o := by simpa using h2
  exact (List.pairwise_iff_getElem.1 hn) j i (by omega) hi hj (by rw [h2, he])

theorem get_idxOf {fp : List Nat} {i o : Nat} (h : fp.idxOf? o = some i) : fp[i]? = some o := by
  rw [List.idxOf?_eq_some_iff] at h
  obtain ⟨hi, he, _⟩ := h
  rw [List.getElem?_eq_getElem hi]; simpa using he

def calleeOmega (fp : List Nat) (ω : Nat → Option (List Nat)) (k : Nat) : Option (List Nat) :=
  match ω k with
  | some (1 :: o :: s) => (fp.idxOf? o).map fun i => 1 :: i :: s
  | _ => none
def calleeIota (fp : List Nat) (ι : Nat → Option Nat) (i : Nat) : Option Nat := (fp[i]?).bind ι

section
variable {Γ : Gam} {g : Nat → Option AV} {m : Nat → Option (List AV)} {a : Act} {w : World} {R : Ext0} {ι : Nat → Option Nat} {ω : Nat → Option (List Nat)}

/-- The memory that a callee sees. -/
theorem callee_lv (fp : List Nat) (memc : List (List AV)) (hl : memc.length = fp.length)
    (hm : ∀ (i o : Nat) obj, fp[i]? = some o → m o = some obj → memc[i]? = some (AV.renL (toCallee fp) obj))
    (hd : ∀ (i o : Nat), fp[i]? = some o → ∃ obj, m o = some obj ∧ ∀ q, q ∈ AV.ptrsL obj → q ∈ fp) {i : Nat} (h : lv (vw memc) i) : ∃ o, fp[i]? = some o ∧ lv m o := by
  obtain ⟨c, l, hc⟩ := h
  have hc' : memc[i]? = some (c :: l) := hc
  have hlt := (List.getElem?_eq_some_iff.1 hc').1
  have hfi : fp[i]? = some fp[i] := List.getElem?_eq_getElem (by omega)
  obtain ⟨obj, hobj, _⟩ := hd i _ hfi
  have := hm i _ obj hfi hobj
  rw [hc'] at this
  refine ⟨_, hfi, lv_some hobj ?_⟩
  rintro rfl
  simp [AV.renL] at this

theorem MR.callee (h : MR w R ι ω m) (fp : List Nat) (hn : fp.Nodup) (memc : List (List AV)) (hl : memc.length = fp.length)
    (hm : ∀ (i o : Nat) obj, fp[i]? = some o → m o = some obj → memc[i]? = some (AV.renL (toCallee fp) obj))
    (hd : ∀ (i o : Nat), fp[i]? = some o → ∃ obj, m o = some obj ∧ ∀ q, q ∈ AV.ptrsL obj → q ∈ fp) :
    MR w R (calleeIota fp ι) (calleeOmega fp ω) (vw memc) where
  dom := fun i obj' hi => by
    have hi' : memc[i]? = some obj' := hi
    have hlt := (List.getElem?_eq_some_iff.1 hi').1
    have hfi : fp[i]? = some fp[i] := List.getElem?_eq_getElem (by omega)
    obtain ⟨obj, hobj, hptr⟩ := hd i _ hfi
    obtain ⟨b, hb⟩ := h.dom _ _ hobj
    exact ⟨b, by simp only [calleeIota, hfi, Option.bind_some]; exact hb⟩
  objs := fun i obj' hi hne => by
    have hi' : memc[i]? = some obj' := hi
    have hlt := (List.getElem?_eq_some_iff.1 hi').1
    have hfi : fp[i]? = some fp[i] := List.getElem?_eq_getElem (by omega)
    obtain ⟨obj, hobj, hptr⟩ := hd i _ hfi
    have := hm i _ obj hfi hobj
    rw [hi'] at this; injection this with this; subst this
    obtain ⟨b, arr, e, h1, h2, h3, h4, h5⟩ := h.objs _ obj hobj (by rintro rfl; exact hne rfl)
    refine ⟨b, arr, e, by simp only [calleeIota, hfi, Option.bind_some]; exact h1, h2, by rw [renL_length]; exact h3, h4, fun c v hv => ?_⟩
    obtain ⟨u, hu, rfl⟩ := renL_get hv
    obtain ⟨x, hx, hr⟩ := h5 c u hu
    refine ⟨x, hx, hr.ren _ _ (fun o ho b hb => ?_) (fun k s hs => ?_)⟩
    · have hmem := hptr o (ptrsL_mem hu ho)
      obtain ⟨j, hj, hje⟩ := List.getElem_of_mem hmem
      have hj2 : fp[j]? = some o := by rw [List.getElem?_eq_getElem hj, hje]
      simp only [calleeIota, toCallee, idxOf_get hn hj2, Option.getD_some, hj2, Option.bind_some]
      exact hb
    · simp only [calleeOmega]
      rw [hs]
      simp only [List.cons_append, List.nil_append, idxOf_get hn hfi, Option.map_some]
  inj := fun i j b li lj hi hj => by
    obtain ⟨o1, h1, l1⟩ := callee_lv fp memc hl hm hd li
    obtain ⟨o2, h2, l2⟩ := callee_lv fp memc hl hm hd lj
    simp only [calleeIota, h1, h2, Option.bind_some] at hi hj
    have := h.inj _ _ _ l1 l2 hi hj
    subst this
    have a1 := idxOf_get hn h1
    have a2 := idxOf_get hn h2
    rw [a1] at a2; injection a2
  sep := fun k p hp i li hi => by
    obtain ⟨o, h1, l1⟩ := callee_lv fp memc hl hm hd li
    simp only [calleeIota, h1, Option.bind_some] at hi
    simp only [calleeOmega] at hp
    cases hw : ω k with
    | none => rw [hw] at hp; cases hp
    | some q => exact h.sep k q hw o l1 hi
  ilt := fun i b hi => by
    simp only [calleeIota] at hi
    cases h1 : fp[i]? with
    | none => rw [h1] at hi; cases hi
    | some o => rw [h1] at hi; exact h.ilt o b hi
  olt := fun k p hp => by
    simp only [calleeOmega] at hp
    cases hw : ω k with
    | none => rw [hw] at hp; cases hp
    | some q => exact h.olt k q hw

end
end Go.Aw
end
section
namespace Go.Aw
open Go.RowKit

def setd (g : Nat → Option AV) (d : Option Nat) (v : AV) : Nat → Option AV := match d with | some d => upd g d (some v) | none => g
def memBack (fp : List Nat) (N : Nat) (mem' : List (List AV)) (m : Nat → Option (List AV)) (o : Nat) : Option (List AV) :=
  match fp.idxOf? o with
  | some i => (mem'[i]?).map (AV.renL (toCaller fp N))
  | none => if N ≤ o ∧ fp.length + (o - N) < mem'.length then (mem'[fp.length + (o - N)]?).map (AV.renL (toCaller fp N)) else m o
def iotaBack (fp : List Nat) (N L : Nat) (ι ι' : Nat → Option Nat) (o : Nat) : Option Nat :=
  if N ≤ o ∧ fp.length + (o - N) < L then ι' (fp.length + (o - N)) else ι o
def omegaBack (fp : List Nat) (N L : Nat) (d : Option Nat) (ω ω' : Nat → Option (List Nat)) (k : Nat) : Option (List Nat) :=
  match ω' k with
  | some (1 :: i :: s) => if i < L then some (1 :: toCaller fp N i :: s) else none
  | some (2 :: s) => d.map fun d => 0 :: d :: s
  | some _ => none
  | none => match calleeOmega fp ω k with
    | some _ => none
    | none => ω k

section
variable {Γ : Gam} {g : Nat → Option AV} {m : Nat → Option (List AV)} {a : Act} {w : World} {R : Ext0} {ι : Nat → Option Nat} {ω : Nat → Option (List Nat)}

theorem Rel.called (h : Rel Γ g m a w R ι ω) (fp : List Nat) (hn : fp.Nodup) (N : Nat) (hfp : ∀ o, o ∈ fp → ∃ b, ι o = some b)
    {w' : World} {R' : Ext0} {ι' : Nat → Option Nat} {ω' : Nat → Option (List Nat)} {mem' : List (List AV)} {mc : Nat → Option (List AV)} (hlv : ∀ i, lv mc i → ∃ o, fp[i]? = some o ∧ lv m o)
    (hN : ∀ o, N ≤ o → fp.length + (o - N) < mem'.length → m o = none ∧ ι o = none)
    (hp : Post w R (calleeIota fp ι) (calleeOmega fp ω) mc w' R' ι' ω' mem')
    {d : Option Nat} (hd : ∀ e, d = some e → e < Γ.nt) {v : AV} {x : Value} (hr : Rep w' R' ι' ω' [2] v x) (hv : ∀ o, o ∈ v.ptrs → o < mem'.length)
    (hm' : ∀ (i : Nat) obj, mem'[i]? = some obj → ∀ o, o ∈ AV.ptrsL obj → o < mem'.length) :
    Rel Γ (setd g d (v.ren (toCaller fp N))) (memBack fp N mem' m) (a.put d x) w' R' (iotaBack fp N mem'.length ι ι') (omegaBack fp N mem'.length d ω ω') := by
  have tc_fp : ∀ (i o : Nat), fp[i]? = some o → toCaller fp N i = o := fun i o hi => by simp [toCaller, hi]
  have tc_new : ∀ i, fp.length ≤ i → toCaller fp N i = N + (i - fp.length) := fun i hi => by simp [toCaller, List.getElem?_eq_none hi]
  have cnew : ∀ i, fp.length ≤ i → calleeIota fp ι i = none := fun i hi => by simp [calleeIota, List.getElem?_eq_none hi]
  have iota_of : ∀ i b, i < mem'.length → ι' i = some b → iotaBack fp N mem'.length ι ι' (toCaller fp N i) = some b := by
    intro i b hi hb
    by_cases hlt : i < fp.length
    · have hfi : fp[i]? = some fp[i] := List.getElem?_eq_getElem hlt
      rw [tc_fp i _ hfi]
      obtain ⟨b2, hb2⟩ := hfp fp[i] (List.getElem_mem hlt)
      simp only [iotaBack]
      rw [if_neg (fun hh => by have := (hN _ hh.1 hh.2).2; rw [hb2] at this; cases this)]
      have : ι' i = some b2 := hp.isub i b2 (by simp only [calleeIota, hfi, Option.bind_some]; exact hb2)
      rw [hb] at this; injection this with this; rw [this]; exact hb2
    · rw [tc_new i (by omega)]
      simp only [iotaBack]
      rw [if_pos (by omega), show fp.length + (N + (i - fp.length) - N) = i from by omega]
      exact hb
  have iota_old : ∀ o b, ι o = some b → iotaBack fp N mem'.length ι ι' o = some b := by
    intro o b hb
    simp only [iotaBack]
    rw [if_neg (fun hh => by have := (hN _ hh.1 hh.2).2; rw [hb] at this; cases this)]
    exact hb
  have live_iota : ∀ i b, lv mc i → calleeIota fp ι i = some b → ∃ o, fp[i]? = some o ∧ lv m o ∧ ι o = some b := by
    intro i b hl hi
    obtain ⟨o, h1, h2⟩ := hlv i hl
    exact ⟨o, h1, h2, by simpa [calleeIota, h1] using hi⟩
  have lvBack : ∀ o b, lv (memBack fp N mem' m) o → iotaBack fp N mem'.length ι ι' o = some b →
      (∃ i, lv (vw mem') i ∧ ι' i = some b ∧ toCaller fp N i = o) ∨ (lv m o ∧ ι o = some b ∧ fp.idxOf? o = none) := by
    intro o b hl hb
    obtain ⟨obj, ho, hne⟩ := lv_of hl
    simp only [memBack] at ho
    cases hix : fp.idxOf? o with
    | some i =>
      rw [hix] at ho; simp only at ho
      have hfi := get_idxOf hix
      cases hmi : mem'[i]? with
      | none => rw [hmi] at ho; cases ho
      | some ob =>
        rw [hmi] at ho; simp only [Option.map_some] at ho; injection ho with ho; subst ho
        refine .inl ⟨i, lv_some (m := vw mem') hmi (by rintro rfl; exact hne rfl), ?_, tc_fp i o hfi⟩
        obtain ⟨b2, hb2⟩ := hfp o (List.mem_of_getElem? hfi)
        have h3 := iota_old o b2 hb2
        rw [hb] at h3; injection h3 with h3; subst h3
        exact hp.isub i b (by simp only [calleeIota, hfi, Option.bind_some]; exact hb2)
    | none =>
      rw [hix] at ho; simp only at ho
      simp only [iotaBack] at hb
      split at ho
      · rename_i hc
        rw [if_pos hc] at hb
        cases hmi : mem'[fp.length + (o - N)]? with
        | none => rw [hmi] at ho; cases ho
        | some ob =>
          rw [hmi] at ho; simp only [Option.map_some] at ho; injection ho with ho; subst ho
          exact .inl ⟨_, lv_some (m := vw mem') hmi (by rintro rfl; exact hne rfl), hb, by rw [tc_new _ (by omega)]; omega⟩
      · rename_i hc
        rw [if_neg hc] at hb
        exact .inr ⟨lv_some ho hne, hb, rfl⟩
  have co_some : ∀ k p, calleeOmega fp ω k = some p → ∃ q, ω k = some q := by
    intro k p hk
    cases hw : ω k with
    | none => simp [calleeOmega, hw] at hk
    | some q => exact ⟨q, rfl⟩
  have ci_some : ∀ i b, calleeIota fp ι i = some b → ∃ o, fp[i]? = some o ∧ ι o = some b := by
    intro i b hi
    cases h1 : fp[i]? with
    | none => simp [calleeIota, h1] at hi
    | some o => exact ⟨o, rfl, by simpa [calleeIota, h1] using hi⟩
  have untouched : ∀ k p, ω k = some p → calleeOmega fp ω k = none → w'.heap[k]? = w.heap[k]? ∧ R' k = R k ∧ omegaBack fp N mem'.length d ω ω' k = ω k := by
    intro k p hk hc
    have hlt := h.mr.olt k p hk
    obtain ⟨h1, h2⟩ := hp.kept k hlt (fun i hl hi => by obtain ⟨o, _, hlo, ho⟩ := live_iota i k hl hi; exact h.mr.sep k p hk o hlo ho) hc
    refine ⟨h1, h2, ?_⟩
    have : ω' k = none := by
      cases hw : ω' k with
      | none => rfl
      | some q =>
        rcases hp.oold k q hw with h3 | ⟨q2, h3⟩ | ⟨i, h3, h4⟩
        · omega
        · rw [hc] at h3; cases h3
        · obtain ⟨o, _, hlo, ho⟩ := live_iota i k h3 h4
          exact absurd ho (h.mr.sep k p hk o hlo)
    simp only [omegaBack, this, hc]
  have lift : ∀ p, (∀ k s, ω k = some (p ++ s) → calleeOmega fp ω k = none) → ∀ {y z}, Rep w R ι ω p y z →
      Rep w' R' (iotaBack fp N mem'.length ι ι') (omegaBack fp N mem'.length d ω ω') p y z := by
    intro p hpc y z hrep
    refine hrep.ext hp.ext iota_old (fun k q hk hq => ?_)
    obtain ⟨s, rfl⟩ := hq
    exact untouched k _ hk (hpc k s hk)
  have slotc : ∀ e k s, ω k = some ([0, e] ++ s) → calleeOmega fp ω k = none := fun e k s hk => by simp [calleeOmega, hk]
  have back : ∀ i c y z, i < mem'.length → (∀ o, o ∈ y.ptrs → o < mem'.length) → Rep w' R' ι' ω' [1, i, c] y z →
      Rep w' R' (iotaBack fp N mem'.length ι ι') (omegaBack fp N mem'.length d ω ω') [1, toCaller fp N i, c] (y.ren (toCaller fp N)) z := by
    intro i c y z hi hy hrep
    refine hrep.ren _ _ (fun o ho b hb => iota_of o b (hy o ho) hb) (fun k s hk => ?_)
    simp only [omegaBack]
    rw [hk]
    simp only [List.cons_append, List.nil_append, hi, if_true]
  refine ⟨?_, ?_, ?_, ⟨?_, ?_, ?_, ?_, ?_, ?_⟩, ?_⟩
  · -- slots
    intro e y hy
    cases d with
    | none =>
      obtain ⟨z, hz, hzr⟩ := h.slots e y hy
      exact ⟨z, hz, lift _ (slotc e) hzr⟩
    | some d =>
      have hsz : d < a.tmps.size := by rw [h.nt]; exact hd d rfl
      rw [put_get hsz]
      by_cases he : e = d
      · subst he
        simp only [setd, upd_same] at hy
        injection hy with hy; subst hy
        refine ⟨x, if_pos rfl, hr.ren _ _ (fun o ho b hb => iota_of o b (hv o ho) hb) (fun k s hk => ?_)⟩
        simp only [omegaBack]
        rw [hk]
        simp only [List.cons_append, List.nil_append, Option.map_some]
      · simp only [setd, upd_ne _ _ he] at hy
        rw [if_neg he]
        obtain ⟨z, hz, hzr⟩ := h.slots e y hy
        exact ⟨z, hz, lift _ (slotc e) hzr⟩
  · cases d <;> simp only [Act.put, Array.size_setIfInBounds] <;> exact h.nt
  · cases d <;> exact h.nodef
  · -- each has a block
    intro o obj ho
    simp only [memBack] at ho
    cases hix : fp.idxOf? o with
    | some i =>
      obtain ⟨b, hb⟩ := hfp o (List.mem_of_getElem? (get_idxOf hix))
      exact ⟨b, iota_old o b hb⟩
    | none =>
      rw [hix] at ho; simp only at ho
      split at ho
      · rename_i hc
        cases hmi : mem'[fp.length + (o - N)]? with
        | none => rw [hmi] at ho; cases ho
        | some ob =>
          obtain ⟨b, hb⟩ := hp.mr.dom _ ob hmi
          exact ⟨b, by simp only [iotaBack]; rw [if_pos hc]; exact hb⟩
      · obtain ⟨b, hb⟩ := h.mr.dom _ _ ho
        exact ⟨b, iota_old o b hb⟩
  · -- objects
    intro o obj ho hne
    simp only [memBack] at ho
    cases hix : fp.idxOf? o with
    | some i =>
      rw [hix] at ho
      simp only at ho
      cases hmi : mem'[i]? with
      | none => rw [hmi] at ho; cases ho
      | some ob =>
        rw [hmi] at ho; simp only [Option.map_some] at ho; injection ho with ho; subst ho
        have hlt := (List.getElem?_eq_some_iff.1 hmi).1
        obtain ⟨b, arr, e, h1, h2, h3, h4, h5⟩ := hp.mr.objs i ob hmi (by rintro rfl; exact hne rfl)
        have hto := tc_fp i o (get_idxOf hix)
        refine ⟨b, arr, e, by have := iota_of i b hlt h1; rw [hto] at this; exact this, h2, by rw [renL_length]; exact h3, h4, fun c y hy => ?_⟩
        obtain ⟨u, hu, rfl⟩ := renL_get hy
        obtain ⟨z, hz, hzr⟩ := h5 c u hu
        refine ⟨z, hz, ?_⟩
        have := back i c u z hlt (fun o' ho' => hm' i ob hmi o' (ptrsL_mem hu ho')) hzr
        rw [hto] at this; exact this
    | none =>
      rw [hix] at ho
      simp only at ho
      split at ho
      · rename_i hc
        obtain ⟨hc1, hc2⟩ := hc
        cases hmi : mem'[fp.length + (o - N)]? with
        | none => rw [hmi] at ho; cases ho
        | some ob =>
          rw [hmi] at ho; simp only [Option.map_some] at ho; injection ho with ho; subst ho
          obtain ⟨b, arr, e, h1, h2, h3, h4, h5⟩ := hp.mr.objs (fp.length + (o - N)) ob hmi (by rintro rfl; exact hne rfl)
          have hto : toCaller fp N (fp.length + (o - N)) = o := by rw [tc_new _ (by omega)]; omega
          refine ⟨b, arr, e, by have := iota_of _ b hc2 h1; rw [hto] at this; exact this, h2, by rw [renL_length]; exact h3, h4, fun c y hy => ?_⟩
          obtain ⟨u, hu, rfl⟩ := renL_get hy
          obtain ⟨z, hz, hzr⟩ := h5 c u hu
          refine ⟨z, hz, ?_⟩
          have := back _ c u z hc2 (fun o' ho' => hm' _ ob hmi o' (ptrsL_mem hu ho')) hzr
          rw [hto] at this; exact this
      · obtain ⟨b, arr, e, h1, h2, h3, h4, h5⟩ := h.mr.objs o obj ho hne
        have hlt := h.mr.ilt o b h1
        have hco : calleeOmega fp ω b = none := by
          cases hw : ω b with
          | none => simp [calleeOmega, hw]
          | some q => exact absurd h1 (h.mr.sep b q hw o (lv_some ho hne))
        obtain ⟨k1, k2⟩ := hp.kept b hlt (fun i hl hi => by
          obtain ⟨o2, ho2, hl2, hb2⟩ := live_iota i b hl hi
          have := h.mr.inj _ _ _ (lv_some ho hne) hl2 h1 hb2
          subst this
          rw [idxOf_get hn ho2] at hix; cases hix) hco
        refine ⟨b, arr, e, iota_old o b h1, k1.trans h2, h3, k2.trans h4, fun c y hy => ?_⟩
        obtain ⟨z, hz, hzr⟩ := h5 c y hy
        refine ⟨z, hz, lift _ (fun k s hk => ?_) hzr⟩
        simp [calleeOmega, hk, hix]
  · -- two numbers, one block
    intro o1 o2 b l1 l2 h1 h2
    rcases lvBack o1 b l1 h1 with ⟨i1, a1, a2, a3⟩ | ⟨a1, a2, a3⟩ <;> rcases lvBack o2 b l2 h2 with ⟨i2, b1, b2, b3⟩ | ⟨b1, b2, b3⟩
    · have := hp.mr.inj _ _ _ a1 b1 a2 b2
      subst this; rw [← a3, ← b3]
    · exfalso
      have hlt := h.mr.ilt _ _ b2
      rcases hp.inew i1 b a1 a2 with ⟨i', c1, c2⟩ | c1 | ⟨q, c1⟩
      · obtain ⟨o', d1, d2, d3⟩ := live_iota i' b c1 c2
        have := h.mr.inj _ _ _ b1 d2 b2 d3
        subst this
        rw [idxOf_get hn d1] at b3; cases b3
      · omega
      · obtain ⟨q2, c2⟩ := co_some b q c1
        exact h.mr.sep b q2 c2 _ b1 b2
    · exfalso
      have hlt := h.mr.ilt _ _ a2
      rcases hp.inew i2 b b1 b2 with ⟨i', c1, c2⟩ | c1 | ⟨q, c1⟩
      · obtain ⟨o', d1, d2, d3⟩ := live_iota i' b c1 c2
        have := h.mr.inj _ _ _ a1 d2 a2 d3
        subst this
        rw [idxOf_get hn d1] at a3; cases a3
      · omega
      · obtain ⟨q2, c2⟩ := co_some b q c1
        exact h.mr.sep b q2 c2 _ a1 a2
    · exact h.mr.inj _ _ _ a1 b1 a2 b2
  · -- what is owned is no object's
    intro k p hk o hl ho
    cases hw : ω' k with
    | some q =>
      rcases lvBack o k hl ho with ⟨i, a1, a2, a3⟩ | ⟨a1, a2, a3⟩
      · exact hp.mr.sep k q hw i a1 a2
      · have := h.mr.ilt _ _ a2
        rcases hp.oold k q hw with h3 | ⟨q2, h3⟩ | ⟨i, h3, h4⟩
        · omega
        · obtain ⟨q3, h4⟩ := co_some k q2 h3
          exact h.mr.sep k q3 h4 o a1 a2
        · obtain ⟨o', d1, d2, d3⟩ := live_iota i k h3 h4
          have := h.mr.inj _ _ _ a1 d2 a2 d3
          subst this
          rw [idxOf_get hn d1] at a3; cases a3
    | none =>
      simp only [omegaBack, hw] at hk
      split at hk
      · cases hk
      · rcases lvBack o k hl ho with ⟨i, a1, a2, a3⟩ | ⟨a1, a2, a3⟩
        · have := h.mr.olt k p hk
          rcases hp.inew i k a1 a2 with ⟨i', c1, c2⟩ | c1 | ⟨q, c1⟩
          · obtain ⟨o', d1, d2, d3⟩ := live_iota i' k c1 c2
            exact h.mr.sep k p hk o' d2 d3
          · omega
          · rename_i hcn
            rw [hcn] at c1; cases c1
        · exact h.mr.sep k p hk o a1 a2
  · intro o b hb
    have := hp.ext.size
    simp only [iotaBack] at hb
    split at hb
    · exact hp.mr.ilt _ _ hb
    · have := h.mr.ilt o b hb; omega
  · intro k p hk
    have := hp.ext.size
    cases hw : ω' k with
    | some q => exact hp.mr.olt k q hw
    | none =>
      simp only [omegaBack, hw] at hk
      split at hk
      · cases hk
      · have := h.mr.olt k p hk; omega
  · refine h.env.step hp.ext hp.os hp.tape hp.output ?_ iota_old ?_ ?_
    · intro b hb ho hw
      refine hp.kept b hb (fun i hl hi => ?_) ?_
      · obtain ⟨o2, _, hl2, hb2⟩ := live_iota i b hl hi; exact ho o2 hl2 hb2
      · simp [calleeOmega, hw]
    · intro o b hl hb
      rcases lvBack o b hl hb with ⟨i, a1, a2, a3⟩ | ⟨a1, a2, a3⟩
      · rcases hp.inew i b a1 a2 with ⟨i', c1, c2⟩ | c1 | ⟨q, c1⟩
        · obtain ⟨o', d1, d2, d3⟩ := live_iota i' b c1 c2
          exact .inl ⟨o', d2, d3⟩
        · exact .inr (.inl c1)
        · obtain ⟨q2, c2⟩ := co_some b q c1
          exact .inr (.inr ⟨q2, c2⟩)
      · exact .inl ⟨o, a1, a2⟩
    · intro k p hk
      cases hw : ω' k with
      | some q =>
        rcases hp.oold k q hw with h3 | ⟨q2, h3⟩ | ⟨i, h3, h4⟩
        · exact .inr (.inl h3)
        · exact .inl (co_some k q2 h3)
        · obtain ⟨o', d1, d2, d3⟩ := live_iota i k h3 h4
          exact .inr (.inr ⟨o', d2, d3⟩)
      | none =>
        simp only [omegaBack, hw] at hk
        split at hk
        · cases hk
        · exact .inl ⟨p, hk⟩
end
end Go.Aw
end
