/-
  A part of the proof of SideOrderCardSaid (see the last text, Om): no statement of its own, no condition.
-/
import Derived.Test.YtchgjamonjfjhaaGreatDoorFa
import Derived.WalkKit
import Derived.Deep.AppendSrc
import Derived.Deep.MidRow
set_option linter.unusedSimpArgs false
set_option linter.unusedVariables false
section
namespace Go.Aw
open Go.RowKit

structure Vw where
  g : Nat → Option AV
  m : Nat → Option (List AV)

inductive Wr where
  | s (d : Nat) (v : Option AV)
  | o (n : Nat) (obj : List AV)

inductive Rd where
  | s (d : Nat) (v : AV)
  | o (n : Nat) (obj : List AV)
  | new (n : Nat)

def Vw.put (S : Vw) : Wr → Vw
  | .s d v => ⟨upd S.g d v, S.m⟩
  | .o n obj => ⟨S.g, upd S.m n (some obj)⟩
def Vw.puts (S : Vw) (l : List Wr) : Vw := l.foldl Vw.put S
def Vw.has (S : Vw) : Rd → Prop
  | .s d v => S.g d = some v
  | .o n obj => S.m n = some obj
  | .new n => S.m n = none

def RelV (Γ : Gam) (S : Vw) (a : Act) (w : World) : Prop :=
  ∃ R ι ω, Rel Γ S.g S.m a w R ι ω ∧ ∀ n b, ι n = some b → ∃ obj, S.m n = some obj

def Does (P : Program) [GT P] (nt : Nat) (o : Oper) (rds : List Rd) (wrs : List Wr) : Prop :=
  ∀ (Γ : Gam) (S : Vw) (a : Act) (w : World) (next : Act → World → Prop) (Q : Exit → Act → World → Prop), Γ.Fit P nt → (∀ r, r ∈ rds → S.has r) → RelV Γ S a w →
    (∀ a' w', RelV Γ (S.puts wrs) a' w' → next a' w') → o.wp P a w next Q

/-! ### Operands -/
def constAV : Value → Option AV
  | .bool b => some (.bool b)
  | .int k n => some (.int k n)
  | .string s => some (.str s)
  | .slice none 0 0 => some .nilsl
  | .pointer none => some .nilptr
  | .nilIface => some .niliface
  | .nilFunc => some .nilfunc
  | _ => none

theorem constAV_rep {c : Value} {v : AV} (h : constAV c = some v) (w : World) (R : Ext0) (ι : Nat → Option Nat) (ω : Nat → Option (List Nat)) (p : List Nat) : Rep w R ι ω p v c := by
  unfold constAV at h
  split at h <;> first
    | (injection h with h; subst h; first | exact .pure _ _ _ (.bool _) | exact .pure _ _ _ (.int _ _) | exact .pure _ _ _ (.str _) | exact .pure _ _ _ .nilsl | exact .pure _ _ _ .nilptr | exact .pure _ _ _ .niliface | exact .nilfunc _)
    | cases h

/-- Operand x is v (of a slot that is to be read; else by itself). -/
def Opd : Operand → AV → Prop
  | .tmp _, _ => True
  | .const c, v => constAV c = some v
  | .func f, v => v = .func f [] []
  | .global _, _ => False
def rdOf : Operand → AV → List Rd
  | .tmp t, v => [.s t v]
  | _, _ => []
def placeOf : Operand → List Nat
  | .tmp t => [0, t]
  | _ => [9]

theorem Opd.rep {Γ : Gam} {S : Vw} {a : Act} {w : World} {R : Ext0} {ι : Nat → Option Nat} {ω : Nat → Option (List Nat)} (h : Rel Γ S.g S.m a w R ι ω)
    {x : Operand} {v : AV} (ho : Opd x v) (hr : ∀ r, r ∈ rdOf x v → S.has r) : Rep w R ι ω (placeOf x) v (a.eval x) := by
  cases x with
  | tmp t => exact eval_tmp h (hr (.s t v) (by simp [rdOf]))
  | const c => exact constAV_rep ho w R ι ω _
  | global g => exact ho.elim
  | func f =>
    subst ho
    exact .func _ f [] [] #[] #[] rfl rfl (fun i v x hv => by simp at hv) (fun i v x hv => by simp at hv)

theorem Rep.int_inv {w : World} {R : Ext0} {ι : Nat → Option Nat} {ω : Nat → Option (List Nat)} {p : List Nat} {k : IntKind} {n : Int} {x : Value} (h : Rep w R ι ω p (.int k n) x) : x = .int k n := by
  cases h with | pure p v x h => cases h; rfl
theorem Rep.bool_inv {w : World} {R : Ext0} {ι : Nat → Option Nat} {ω : Nat → Option (List Nat)} {p : List Nat} {b : Bool} {x : Value} (h : Rep w R ι ω p (.bool b) x) : x = .bool b := by
  cases h with | pure p v x h => cases h; rfl
theorem Rep.str_inv {w : World} {R : Ext0} {ι : Nat → Option Nat} {ω : Nat → Option (List Nat)} {p : List Nat} {s : ByteArray} {x : Value} (h : Rep w R ι ω p (.str s) x) : x = .string s := by
  cases h with | pure p v x h => cases h; rfl
theorem Rep.ptr_inv {w : World} {R : Ext0} {ι : Nat → Option Nat} {ω : Nat → Option (List Nat)} {p : List Nat} {o off : Nat} {x : Value} (h : Rep w R ι ω p (.ptr o off) x) : ∃ b, x = .pointer (some ⟨b, off, none⟩) ∧ ι o = some b := by
  cases h with
  | pure p v x h => cases h
  | ptr p o off b h => exact ⟨b, rfl, h⟩

theorem puts_nil (S : Vw) : S.puts [] = S := rfl
theorem puts_cons (S : Vw) (x : Wr) (l : List Wr) : S.puts (x :: l) = (S.put x).puts l := rfl

/-! ### Operations that leave memory alone -/
theorem wp_value {P : Program} [GT P] {o : Oper} {a : Act} {w w' : World} {next : Act → World → Prop} {Q : Exit → Act → World → Prop} {x : Value}
    (h : (execOp a.eval o).run P w = .ok (.value x) w') (hn : next (a.put o.dst x) w') : o.wp P a w next Q := by
  unfold Oper.wp; rw [h]; exact hn
theorem wp_skip_ {P : Program} [GT P] {o : Oper} {a : Act} {w w' : World} {next : Act → World → Prop} {Q : Exit → Act → World → Prop}
    (h : (execOp a.eval o).run P w = .ok .skip w') (hn : next (a.put o.dst undef) w') : o.wp P a w next Q := by
  unfold Oper.wp; rw [h]; exact hn

theorem RelV.set {Γ : Gam} {S : Vw} {a : Act} {w : World} {R : Ext0} {ι : Nat → Option Nat} {ω : Nat → Option (List Nat)} (h : Rel Γ S.g S.m a w R ι ω)
    (hdom : ∀ n b, ι n = some b → ∃ obj, S.m n = some obj) {d : Nat} {v : AV} {x : Value} (hd : d < Γ.nt) (hr : Rep w R ι ω [0, d] v x) :
    RelV Γ (S.puts [.s d (some v)]) (a.put (some d) x) w := ⟨R, ι, ω, h.set hd hr, hdom⟩

/-- An operation that tells a value, out of its operands' values alone. -/
theorem does_value {P : Program} [GT P] {nt : Nat} {o : Oper} {d : Nat} {rds : List Rd} {v : AV} (hdst : o.dst = some d) (hd : d < nt)
    (h : ∀ (Γ : Gam) (S : Vw) (a : Act) (w : World) R ι ω, (∀ r, r ∈ rds → S.has r) → Rel Γ S.g S.m a w R ι ω →
      ∃ x, (execOp a.eval o).run P w = .ok (.value x) w ∧ Rep w R ι ω [0, d] v x) : Does P nt o rds [.s d (some v)] := by
  intro Γ S a w next Q hnt hr hrel hn
  have hntn := hnt.1
  obtain ⟨R, ι, ω, hrel, hdom⟩ := hrel
  obtain ⟨x, hx, hrep⟩ := h Γ S a w R ι ω hr hrel
  refine wp_value hx (hn _ _ ?_)
  rw [hdst]
  exact RelV.set hrel hdom (by omega) hrep

theorem mem_app {α : Type} {a b : List α} {Pr : α → Prop} (h : ∀ r, r ∈ a ++ b → Pr r) : (∀ r, r ∈ a → Pr r) ∧ (∀ r, r ∈ b → Pr r) :=
  ⟨fun r hr => h r (List.mem_append.2 (.inl hr)), fun r hr => h r (List.mem_append.2 (.inr hr))⟩

theorem does_move {P : Program} [GT P] {nt : Nat} {o : Oper} {d : Nat} {x : Operand} {v : AV} (hop : o.op = .move x ∨ o.op = .assign x) (hdst : o.dst = some d) (hd : d < nt) (hx : Opd x v) :
    Does P nt o (rdOf x v) [.s d (some v.ro)] :=
  does_value hdst hd fun Γ S a w R ι ω hr hrel => by
    have := hx.rep hrel hr
    refine ⟨a.eval x, ?_, this.ro _ _⟩
    rcases hop with h | h <;> simp [execOp, h]

theorem does_hand {P : Program} [GT P] {nt : Nat} {o : Oper} {d s : Nat} {v : AV} (hop : o.op = .move (.tmp s) ∨ o.op = .assign (.tmp s)) (hdst : o.dst = some d) (hd : d < nt) (hne : s ≠ d) :
    Does P nt o [.s s v] [.s s (some v.ro), .s d (some v)] := by
  intro Γ S a w next Q hnt hr hrel hn
  have hntn := hnt.1
  obtain ⟨R, ι, ω, hrel, hdom⟩ := hrel
  have hg : S.g s = some v := hr (.s s v) (by simp)
  have hrep := eval_tmp hrel hg
  refine wp_value (x := a.eval (.tmp s)) (w' := w) ?_ (hn _ _ ?_)
  · rcases hop with h | h <;> simp [execOp, h]
  · rw [hdst]
    exact ⟨R, ι, _, hrel.hand [] hg (by omega) hne (by simpa using hrep), hdom⟩

end Go.Aw
end
section
namespace Go.Aw
open Go.RowKit

/-! ### Operators -/
def binInt (op : BinOp) (k : IntKind) (x y : Int) : Option AV :=
  match op with
  | .add => some (.int k (k.wrap (x + y)))
  | .sub => some (.int k (k.wrap (x - y)))
  | .mul => some (.int k (k.wrap (x * y)))
  | .quo => if y = 0 then none else some (.int k (k.wrap (x.tdiv y)))
  | .rem => if y = 0 then none else some (.int k (x.tmod y))
  | .and => some (.int k (Go.bits .and k x y))
  | .or => some (.int k (Go.bits .or k x y))
  | .xor => some (.int k (Go.bits .xor k x y))
  | .andNot => some (.int k (Go.bits .andNot k x y))
  | .shl => if y < 0 then none else some (.int k (k.wrap (x * 2 ^ (min y.toNat k.bits))))
  | .shr => if y < 0 then none else some (.int k (x.fdiv (2 ^ (min y.toNat k.bits))))
  | .eql => some (.bool (x == y))
  | .neq => some (.bool (x != y))
  | .lss => some (.bool (x < y))
  | .leq => some (.bool (x ≤ y))
  | .gtr => some (.bool (x > y))
  | .geq => some (.bool (x ≥ y))

def binAV (op : BinOp) : AV → AV → Option AV
  | .int k x, .int k' y => match op with
    | .shl => binInt .shl k x y
    | .shr => binInt .shr k x y
    | _ => if k = k' then binInt op k x y else none
  | .str x, .str y => match op with
    | .eql => some (.bool (x.toList == y.toList))
    | .neq => some (.bool (!(x.toList == y.toList)))
    | _ => none
  | _, _ => none

theorem binAV_run {P : Program} [GT P] {op : BinOp} {t : TypeId} {u v r : AV} (h : binAV op u v = some r) {x y : Value} {w : World} {R : Ext0} {ι : Nat → Option Nat} {ω : Nat → Option (List Nat)} {p q : List Nat}
    (hu : Rep w R ι ω p u x) (hv : Rep w R ι ω q v y) (X Y : Operand) :
    ∃ z, Sem.run P (do eqGuard op t X Y x y; binOp op t x y) w = .ok z w ∧ PRep w R r z := by
  cases u <;> cases v <;> simp only [binAV, reduceCtorEq] at h
  case int.int k a k' b =>
    obtain rfl := hu.int_inv
    obtain rfl := hv.int_inv
    have hg : eqGuard op t X Y (Value.int k a) (Value.int k' b) = pure () := by unfold eqGuard; split <;> rfl
    rw [hg]
    cases op <;> simp only [binInt] at h <;> (try split at h) <;> (try split at h) <;> first
      | (cases h; done)
      | (injection h with h; subst h; subst_vars; refine ⟨_, ?_, by first | exact .int _ _ | exact .bool _⟩; simp [binOp, Op.intArith, Op.intDiv, Op.intBits, Op.intCmp, Op.shift, Go.bits, *])
  case str.str a b =>
    obtain rfl := hu.str_inv
    obtain rfl := hv.str_inv
    have hg : eqGuard op t X Y (Value.string a) (Value.string b) = pure () := by unfold eqGuard; split <;> rfl
    rw [hg]
    cases op <;> simp only [reduceCtorEq] at h <;> (injection h with h; subst h; refine ⟨_, ?_, .bool _⟩; simp [binOp, Op.stringOp])

end Go.Aw
end
section
namespace Go.Aw
open Go.RowKit

/-! ### Addresses -/
def addPtr (k : Nat) : AV → Option AV
  | .ptr o off => some (.ptr o (off + k))
  | .eptr y off => some (.eptr y (off + k))
  | _ => none

theorem addPtr_rep {v r : AV} {k : Nat} (h : addPtr k v = some r) {w : World} {R : Ext0} {ι : Nat → Option Nat} {ω : Nat → Option (List Nat)} {p : List Nat} {x : Value} (hr : Rep w R ι ω p v x) :
    ∃ b off, x = .pointer (some ⟨b, off, none⟩) ∧ ∀ q, Rep w R ι ω q r (.pointer (some ⟨b, off + k, none⟩)) := by
  cases v <;> simp only [addPtr, reduceCtorEq] at h
  case ptr o off =>
    injection h with h; subst h
    obtain ⟨b, rfl, hb⟩ := hr.ptr_inv
    exact ⟨b, off, rfl, fun q => .ptr q o (off + k) b hb⟩
  case eptr y off =>
    injection h with h; subst h
    cases hr with
    | pure p v x h =>
      cases h with
      | eptr _ b off' _ val hcell hval =>
        exact ⟨b, off' + off, rfl, fun q => .pure q _ _ (by rw [Nat.add_assoc]; exact .eptr y b off' (off + k) val hcell hval)⟩

theorem does_fieldAddr {P : Program} [GT P] {nt : Nat} {o : Oper} {d s f : Nat} {x : Operand} {v r : AV} {fields : Array Field} {fl : Field} {i : TypeInfo} (hop : o.op = .fieldAddr s x f) (hdst : o.dst = some d) (hd : d < nt)
    (hs : P.underlying s = some (.struct fields)) (hf : fields[f]? = some fl) (hi : P.info? fl.type = some i) (hz : i.size ≠ 0) (hx : Opd x v) (hr : addPtr fl.offset v = some r) :
    Does P nt o (rdOf x v) [.s d (some r)] :=
  does_value hdst hd fun Γ S a w R ι ω hrd hrel => by
    have h1 := hx.rep hrel hrd
    obtain ⟨b, off, hx2, h2⟩ := addPtr_rep hr h1
    refine ⟨_, ?_, h2 _⟩
    simp [execOp, hop, hx2, Instr.fieldAt, run_underlying hs, hf, Instr.sureAddr, fieldPlace, sizeOf, typeInfo, hi, hz, Addr.add_lit]

theorem does_nilCheck {P : Program} [GT P] {nt : Nat} {o : Oper} {d : Nat} {x : Operand} {v : AV} (hop : o.op = .nilCheck x) (hdst : o.dst = some d) (hd : d < nt)
    (hx : Opd x v) (hv : (∃ n off, v = .ptr n off) ∨ (∃ y off, v = .eptr y off) ∨ (∃ f a c, v = .func f a c)) :
    Does P nt o (rdOf x v) [.s d (some v.ro)] :=
  does_value hdst hd fun Γ S a w R ι ω hrd hrel => by
    have h1 := hx.rep hrel hrd
    refine ⟨a.eval x, ?_, h1.ro _ _⟩
    rcases hv with ⟨n, off, rfl⟩ | ⟨y, off, rfl⟩ | ⟨f, a1, c1, rfl⟩
    · obtain ⟨b, hb, _⟩ := h1.ptr_inv
      simp [execOp, hop, hb]
    · obtain ⟨b, off', hb, _⟩ := addPtr_rep (k := 0) rfl h1
      simp [execOp, hop, hb]
    · generalize hX : a.eval x = X at h1
      cases h1 with
      | pure p v x h => cases h
      | func p f first cap first' cap' e1 e2 g1 g2 => simp [execOp, hop, hX]

/-- An element's address. -/
theorem does_indexSlice {P : Program} [GT P] {nt : Nat} {o : Oper} {d t e : Nat} {x i : Operand} {own : Option Nat} {xs : List (List AV)} {k : IntKind} {n : Int} {y : List AV} {ie : TypeInfo}
    (hop : o.op = .indexAddr t x i) (hdst : o.dst = some d) (hd : d < nt) (ht : P.underlying t = some (.slice e)) (hi : P.info? e = some ie)
    (hx : Opd x (.list own xs)) (hn : Opd i (.int k n)) (h0 : 0 ≤ n) (hy : xs[n.toNat]? = some y) (hsz : y.length = ie.size) :
    Does P nt o (rdOf x (.list own xs) ++ rdOf i (.int k n)) [.s d (some (.eptr y 0))] :=
  does_value hdst hd fun Γ S a w R ι ω hrd hrel => by
    obtain ⟨r1, r2⟩ := mem_app hrd
    have h1 := hx.rep hrel r1
    have h2 := (hn.rep hrel r2).int_inv
    have hlt := (List.getElem?_eq_some_iff.1 hy).1
    have hP : PRep w R (.list none xs) (a.eval x) := by
      generalize a.eval x = X at h1
      cases h1 with
      | pure p v x h => cases h with
        | empty a c => simp at hlt
        | list xs sz b off c val hc hsz hcell hval => exact .list xs sz b off c val hc hsz hcell hval
      | ownnil p sz a => simp at hlt
      | own p xs sz k off c h hsz hown hw => exact h
    generalize hX : a.eval x = X at hP
    cases hP with
    | empty a c => simp at hlt
    | list xs sz b off c val hc hsz' hcell hval =>
      have hsy : sz = ie.size := by rw [← hsz' _ _ hy, hsz]
      subst hsy
      refine ⟨.pointer (some ⟨b, off + n.toNat * ie.size, none⟩), ?_, ?_⟩
      · have : n < (xs.length : Int) := by omega
        simp [execOp, hop, hX, h2, Instr.indexAt, asIntOf, run_underlying ht, h0, this, sizeOf, typeInfo, hi, Addr.add_lit]
      · exact .pure _ _ _ (.eptr y b (off + n.toNat * ie.size) 0 (val n.toNat) (fun j hj => hcell _ _ hlt (by omega)) (hval _ _ hy))

theorem does_indexArr {P : Program} [GT P] {nt : Nat} {o : Oper} {d t e len : Nat} {x i : Operand} {v r : AV} {k : IntKind} {n : Int} {ie : TypeInfo}
    (hop : o.op = .indexAddr t x i) (hdst : o.dst = some d) (hd : d < nt) (ht : P.underlying t = some (.array len e)) (hi : P.info? e = some ie)
    (hx : Opd x v) (hn : Opd i (.int k n)) (h0 : 0 ≤ n) (hl : n < len) (hr : addPtr (n.toNat * ie.size) v = some r) :
    Does P nt o (rdOf x v ++ rdOf i (.int k n)) [.s d (some r)] :=
  does_value hdst hd fun Γ S a w R ι ω hrd hrel => by
    obtain ⟨r1, r2⟩ := mem_app hrd
    have h1 := hx.rep hrel r1
    have h2 := (hn.rep hrel r2).int_inv
    obtain ⟨b, off, hx2, h3⟩ := addPtr_rep hr h1
    refine ⟨_, ?_, h3 _⟩
    simp [execOp, hop, hx2, h2, Instr.indexAt, asIntOf, run_underlying ht, h0, hl, sizeOf, typeInfo, hi, Instr.sureAddr, Addr.add_lit]

/-! ### Reading memory -/
theorem RelV.obj {Γ : Gam} {S : Vw} {a : Act} {w : World} {R : Ext0} {ι : Nat → Option Nat} {ω : Nat → Option (List Nat)} (h : Rel Γ S.g S.m a w R ι ω) {n b : Nat} {obj : List AV} (ho : S.m n = some obj) (hne : obj ≠ []) (hb : ι n = some b) :
    ∃ arr e, w.heap[b]? = some (.cells arr e (0, 0)) ∧ obj.length ≤ arr.size ∧ R b = some 0 ∧ ∀ c v, obj[c]? = some v → ∃ x, arr[c]? = some x ∧ Rep w R ι ω [1, n, c] v x := by
  obtain ⟨b', arr, e, h1, h2, h3, h4, h5⟩ := h.mr.objs n obj ho hne
  rw [hb] at h1; injection h1 with h1; subst h1
  exact ⟨arr, e, h2, h3, h4, h5⟩

theorem cell_of_heap {w : World} {b : Nat} {arr : Array Value} {e : TypeId} {fz : Nat × Nat} (h : w.heap[b]? = some (.cells arr e fz)) (i : Nat) : w.cell? ⟨b, i, none⟩ = arr[i]? := by
  simp [World.cell?, h]

theorem does_load {P : Program} [GT P] {nt : Nat} {o : Oper} {d t n off : Nat} {x : Operand} {obj : List AV} {v : AV} {dt : TypeDesc} (hop : o.op = .load t x) (hdst : o.dst = some d) (hd : d < nt)
    (ht : P.underlying t = some dt) (hrow : dt.isRow = false) (hx : Opd x (.ptr n off)) (hv : obj[off]? = some v) :
    Does P nt o (rdOf x (.ptr n off) ++ [.o n obj]) [.s d (some v.ro)] :=
  does_value hdst hd fun Γ S a w R ι ω hrd hrel => by
    obtain ⟨r1, r2⟩ := mem_app hrd
    obtain ⟨b, h1, hb⟩ := (hx.rep hrel r1).ptr_inv
    obtain ⟨arr, e, k1, k2, k3, k4⟩ := RelV.obj hrel (r2 (.o n obj) (by simp)) (ne_of_get hv) hb
    obtain ⟨z, hz, hzr⟩ := k4 off v hv
    refine ⟨z, ?_, hzr.ro _ _⟩
    have hagg : (isAgg t).run P w = .ok false w := by
      unfold isAgg; rw [Sem.run_bind, run_underlying ht w]
      cases dt <;> simp_all
    have hc : w.cell? ⟨b, off, none⟩ = some z := (cell_of_heap k1 off).trans hz
    simp [execOp, hop, h1, Instr.loadAt, Instr.sureAddr, loadVar, hagg, load, Sem.run, hc]

/-- What a variable owns goes over. -/
theorem does_loadHand {P : Program} [GT P] {nt : Nat} {o : Oper} {d t n off : Nat} {x : Operand} {obj : List AV} {v : AV} {dt : TypeDesc} (hop : o.op = .load t x) (hdst : o.dst = some d) (hd : d < nt)
    (ht : P.underlying t = some dt) (hrow : dt.isRow = false) (hx : Opd x (.ptr n off)) (hv : obj[off]? = some v) :
    Does P nt o (rdOf x (.ptr n off) ++ [.o n obj]) [.o n (obj.set off v.ro), .s d (some v)] := by
  intro Γ S a w next Q hnt hr hrel hn
  have hntn := hnt.1
  obtain ⟨R, ι, ω, hrel, hdom⟩ := hrel
  obtain ⟨r1, r2⟩ := mem_app hr
  obtain ⟨b, h1, hb⟩ := (hx.rep hrel r1).ptr_inv
  have hm : S.m n = some obj := r2 (.o n obj) (by simp)
  obtain ⟨arr, e, k1, k2, k3, k4⟩ := RelV.obj hrel hm (ne_of_get hv) hb
  obtain ⟨z, hz, hzr⟩ := k4 off v hv
  refine wp_value (x := z) (w' := w) ?_ (hn _ _ ?_)
  · have hagg : (isAgg t).run P w = .ok false w := by
      unfold isAgg; rw [Sem.run_bind, run_underlying ht w]
      cases dt <;> simp_all
    have hc : w.cell? ⟨b, off, none⟩ = some z := (cell_of_heap k1 off).trans hz
    simp [execOp, hop, h1, Instr.loadAt, Instr.sureAddr, loadVar, hagg, load, Sem.run, hc]
  · rw [hdst]
    refine ⟨R, ι, _, hrel.handObj hm hv (by omega) hzr, ?_⟩
    intro n' b' hb'
    obtain ⟨obj', ho'⟩ := hdom n' b' hb'
    simp only [Vw.puts, List.foldl_cons, List.foldl_nil, Vw.put]
    by_cases he : n' = n
    · subst he; exact ⟨_, upd_same _ _ _⟩
    · rw [upd_ne _ _ he]; exact ⟨obj', ho'⟩

theorem does_loadAgg {P : Program} [GT P] {nt : Nat} {o : Oper} {d t n off sz : Nat} {x : Operand} {obj : List AV} {dt : TypeDesc} (hop : o.op = .load t x) (hdst : o.dst = some d) (hd : d < nt)
    (ht : P.underlying t = some dt) (hrow : dt.isRow = true) (hi : (P.info? t).map (·.size) = some sz) (hx : Opd x (.ptr n off)) (hsz0 : 0 < sz) (hl : off + sz ≤ obj.length) :
    Does P nt o (rdOf x (.ptr n off) ++ [.o n obj]) [.s d (some (.agg (AV.roL ((obj.drop off).take sz))))] :=
  does_value hdst hd fun Γ S a w R ι ω hrd hrel => by
    obtain ⟨r1, r2⟩ := mem_app hrd
    obtain ⟨b, h1, hb⟩ := (hx.rep hrel r1).ptr_inv
    obtain ⟨arr, e, k1, k2, k3, k4⟩ := RelV.obj hrel (r2 (.o n obj) (by simp)) (by rintro rfl; simp at hl; omega) hb
    have hlen : ((arr.toList.drop off).take sz).length = sz := by simp; omega
    refine ⟨.agg ((arr.toList.drop off).take sz).toArray, ?_, .agg _ _ _ ?_ ?_⟩
    · have := run_loadAt_mid (P := P) w b off t ((arr.toList.drop off).take sz) dt (fun j v hj => by
        rw [cell_of_heap k1]
        have hj2 : j < sz := by have := (List.getElem?_eq_some_iff.1 hj).1; omega
        rw [List.getElem?_take_of_lt hj2, List.getElem?_drop] at hj
        simpa using hj) ht hrow (by rw [hlen]; exact hi)
      simp [execOp, hop, h1, this]
    · rw [roL_length]; simp; omega
    · intro j v y hv hy
      obtain ⟨u, hu, rfl⟩ := roL_get hv
      have hj2 : j < sz := by have := (List.getElem?_eq_some_iff.1 hu).1; rw [List.length_take] at this; omega
      rw [List.getElem?_take_of_lt hj2, List.getElem?_drop] at hu
      obtain ⟨z, hz, hzr⟩ := k4 _ u hu
      have hyz : z = y := by
        simp only [List.getElem?_toArray] at hy
        rw [List.getElem?_take_of_lt hj2, List.getElem?_drop] at hy
        have : arr.toList[off + j]? = some z := by simpa using hz
        rw [this] at hy; injection hy
      subst hyz
      exact hzr.ro _ _

theorem does_loadE {P : Program} [GT P] {nt : Nat} {o : Oper} {d t off : Nat} {x : Operand} {y : List AV} {v : AV} {dt : TypeDesc} (hop : o.op = .load t x) (hdst : o.dst = some d) (hd : d < nt)
    (ht : P.underlying t = some dt) (hrow : dt.isRow = false) (hx : Opd x (.eptr y off)) (hv : y[off]? = some v) :
    Does P nt o (rdOf x (.eptr y off)) [.s d (some v)] :=
  does_value hdst hd fun Γ S a w R ι ω hrd hrel => by
    have h1 := hx.rep hrel hrd
    generalize hX : a.eval x = X at h1
    cases h1 with
    | pure p v' x' h =>
      cases h with
      | eptr y b o' off val hcell hval =>
        have hlt := (List.getElem?_eq_some_iff.1 hv).1
        refine ⟨val off, ?_, .pure _ _ _ (hval off v hv)⟩
        have hagg : (isAgg t).run P w = .ok false w := by
          unfold isAgg; rw [Sem.run_bind, run_underlying ht w]
          cases dt <;> simp_all
        have hc := (hcell off hlt).1
        simp [execOp, hop, hX, Instr.loadAt, Instr.sureAddr, loadVar, hagg, load, Sem.run, hc]

theorem does_loadEAgg {P : Program} [GT P] {nt : Nat} {o : Oper} {d t off sz : Nat} {x : Operand} {y : List AV} {dt : TypeDesc} (hop : o.op = .load t x) (hdst : o.dst = some d) (hd : d < nt)
    (ht : P.underlying t = some dt) (hrow : dt.isRow = true) (hi : (P.info? t).map (·.size) = some sz) (hx : Opd x (.eptr y off)) (hl : off + sz ≤ y.length) :
    Does P nt o (rdOf x (.eptr y off)) [.s d (some (.agg ((y.drop off).take sz)))] :=
  does_value hdst hd fun Γ S a w R ι ω hrd hrel => by
    have h1 := hx.rep hrel hrd
    generalize hX : a.eval x = X at h1
    cases h1 with
    | pure p v' x' h =>
      cases h with
      | eptr y b o' off val hcell hval =>
        refine ⟨.agg ((List.range sz).map fun j => val (off + j)).toArray, ?_, .agg _ _ _ (by simp; omega) ?_⟩
        · have := run_loadAt_mid (P := P) w b (o' + off) t ((List.range sz).map fun j => val (off + j)) dt (fun j v hj => by
            have hj2 : j < sz := by have := (List.getElem?_eq_some_iff.1 hj).1; simpa using this
            rw [List.getElem?_map, List.getElem?_range hj2] at hj
            simp only [Option.map_some] at hj; injection hj with hj; subst hj
            have := (hcell (off + j) (by omega)).1
            rw [Nat.add_assoc]; exact this) ht hrow (by simpa using hi)
          simp [execOp, hop, hX, this]
        · intro j v z hv hz
          have hj2 : j < sz := by have := (List.getElem?_eq_some_iff.1 hv).1; rw [List.length_take] at this; omega
          rw [List.getElem?_take_of_lt hj2, List.getElem?_drop] at hv
          simp only [List.getElem?_toArray, List.getElem?_map, List.getElem?_range hj2, Option.map_some] at hz
          injection hz with hz; subst hz
          exact .pure _ _ _ (hval _ v hv)

end Go.Aw
end
section
namespace Go.Aw
open Go.RowKit

theorem heap_setCell_at {w : World} {b off : Nat} {arr : Array Value} {e : TypeId} {fz : Nat × Nat} (h : w.heap[b]? = some (.cells arr e fz)) (z : Value) :
    (w.setCell ⟨b, off, none⟩ z).heap[b]? = some (.cells (arr.setIfInBounds off z) e fz) := by
  simp only [World.setCell, Array.getElem?_modify]
  simp [h]

theorem size_setCell (w : World) (p : Addr) (z : Value) : (w.setCell p z).heap.size = w.heap.size := by simp [World.setCell]

theorem Rep.oneCell {w : World} {R : Ext0} {ι : Nat → Option Nat} {ω : Nat → Option (List Nat)} {p : List Nat} {v : AV} {x : Value} (h : Rep w R ι ω p v x)
    (h1 : ∀ cs, v ≠ .agg cs) (h2 : ∀ cs, v ≠ .tup cs) : x.oneCell' = true ∧ x.cells = #[x] := by
  cases h with
  | pure p v x h => cases h <;> exact ⟨rfl, rfl⟩
  | ownnil => exact ⟨rfl, rfl⟩
  | own => exact ⟨rfl, rfl⟩
  | ptr => exact ⟨rfl, rfl⟩
  | msl => exact ⟨rfl, rfl⟩
  | func => exact ⟨rfl, rfl⟩
  | nilfunc => exact ⟨rfl, rfl⟩
  | iface => exact ⟨rfl, rfl⟩
  | agg p cs vs => exact absurd rfl (h1 cs)
  | tup p cs vs => exact absurd rfl (h2 cs)

def AV.plain : AV → Bool
  | .agg _ => false
  | .tup _ => false
  | _ => true
theorem plain_ne {v : AV} (h : v.plain = true) : (∀ cs, v ≠ .agg cs) ∧ (∀ cs, v ≠ .tup cs) := by
  constructor <;> (intro cs hh; subst hh; simp [AV.plain] at h)

theorem map_id_fun (ω : Nat → Option (List Nat)) : (fun k => (ω k).map (fun p => p)) = ω := by funext k; cases ω k <;> rfl

theorem run_store_cell {P : Program} [GT P] {w : World} {t : TypeId} {b off : Nat} {z z0 : Value} {it : TypeInfo} (hi : P.info? t = some it) (h1 : it.size = 1) (hc : w.cell? ⟨b, off, none⟩ = some z0) (hf : w.frozen? ⟨b, off, none⟩ = false)
    (ho : z.oneCell' = true) (hz : z.cells = #[z]) : (Instr.storeAt t (.pointer (some ⟨b, off, none⟩)) z).run P w = .ok () (w.setCell ⟨b, off, none⟩ z) := by
  have := run_storeCells_cells (P := P) b off [z] 0 w (fun j hj => by simp at hj; subst hj; simp [hc]) (fun j hj => by simp at hj; subst hj; simpa using hf) (fun v hv => by simp at hv; subst hv; exact ho)
  simp only [Nat.add_zero, World.setCells] at this
  simp [Instr.storeAt, Instr.sureAddr, storeVar, sizeOf, typeInfo, hi, h1, hz, this]

theorem dom_o {S : Vw} {ι : Nat → Option Nat} (hdom : ∀ n b, ι n = some b → ∃ obj, S.m n = some obj) (n : Nat) (obj : List AV) : ∀ n' b, ι n' = some b → ∃ ob, upd S.m n (some obj) n' = some ob := by
  intro n' b hb
  by_cases he : n' = n
  · subst he; exact ⟨_, upd_same _ _ _⟩
  · rw [upd_ne _ _ he]; exact hdom n' b hb

theorem does_store {P : Program} [GT P] {nt : Nat} {o : Oper} {t n off : Nat} {x y : Operand} {obj : List AV} {v : AV} {it : TypeInfo} (hop : o.op = .store t x y) (hdst : o.dst = none)
    (hi : P.info? t = some it) (h1 : it.size = 1) (hx : Opd x (.ptr n off)) (hy : Opd y v) (hp : v.plain = true) (hl : off < obj.length) :
    Does P nt o (rdOf x (.ptr n off) ++ rdOf y v ++ [.o n obj]) [.o n (obj.set off v.ro)] := by
  intro Γ S a w next Q hnt hr hrel hn
  have hntn := hnt.1
  obtain ⟨R, ι, ω, hrel, hdom⟩ := hrel
  obtain ⟨r12, r3⟩ := mem_app hr
  obtain ⟨r1, r2⟩ := mem_app r12
  obtain ⟨b, e1, hb⟩ := (hx.rep hrel r1).ptr_inv
  have hyr := hy.rep hrel r2
  have hm : S.m n = some obj := r3 (.o n obj) (by simp)
  have hne0 : obj ≠ [] := by rintro rfl; simp only [List.length_nil] at hl; omega
  obtain ⟨arr, e, k1, k2, k3, k4⟩ := RelV.obj hrel hm hne0 hb
  obtain ⟨z0, hz0⟩ : ∃ z0, arr[off]? = some z0 := ⟨arr[off]'(by omega), Array.getElem?_eq_getElem (by omega)⟩
  obtain ⟨q1, q2⟩ := hyr.oneCell (plain_ne hp).1 (plain_ne hp).2
  have hf : w.frozen? ⟨b, off, none⟩ = false := by simp [World.frozen?, k1]
  have hrun := run_store_cell (P := P) (t := t) hi h1 ((cell_of_heap k1 off).trans hz0) hf q1 q2
  refine wp_skip_ (w' := w.setCell ⟨b, off, none⟩ (a.eval y)) ?_ (hn _ _ ?_)
  · simp [execOp, hop, e1, hrun]
  · rw [hdst]
    have h2 := hrel.storeObj (obj' := obj.set off v.ro) hm hne0 hb k3 (fun arr0 e0 fz0 h0 => by rw [k1] at h0; injection h0 with h0; injection h0 with h0; subst h0; simp) (heap_setCell_at k1 (a.eval y)) (size_setCell _ _ _) (fun k hk => Below.heap_setCell _ _ _ _ hk) rfl rfl rfl (fun p => p) S.g
      (by simp; omega) (fun c u hu => by
        by_cases hc : c = off
        · subst hc
          rw [List.getElem?_set_self hl] at hu; injection hu with hu; subst hu
          exact ⟨a.eval y, by rw [Array.getElem?_setIfInBounds, if_pos rfl, if_pos (by omega)], hyr.ro _ _⟩
        · rw [List.getElem?_set_ne (by omega)] at hu
          obtain ⟨z, hz, hzr⟩ := k4 c u hu
          exact ⟨z, by rw [Array.getElem?_setIfInBounds, if_neg (by omega)]; exact hz, by rw [map_id_fun]; exact hzr⟩)
      (fun d u hu => by
        obtain ⟨z, hz, hzr⟩ := hrel.slots d u hu
        exact ⟨z, hz, by rw [map_id_fun]; exact hzr⟩) (fun _ _ _ _ => rfl)
    exact ⟨R, ι, _, h2, dom_o hdom n _⟩

theorem does_storeHand {P : Program} [GT P] {nt : Nat} {o : Oper} {t n off s : Nat} {x : Operand} {obj : List AV} {v : AV} {it : TypeInfo} (hop : o.op = .store t x (.tmp s)) (hdst : o.dst = none)
    (hi : P.info? t = some it) (h1 : it.size = 1) (hx : Opd x (.ptr n off)) (hp : v.plain = true) (hl : off < obj.length) :
    Does P nt o (rdOf x (.ptr n off) ++ [.s s v] ++ [.o n obj]) [.o n (obj.set off v), .s s (some v.ro)] := by
  intro Γ S a w next Q hnt hr hrel hn
  have hntn := hnt.1
  obtain ⟨R, ι, ω, hrel, hdom⟩ := hrel
  obtain ⟨r12, r3⟩ := mem_app hr
  obtain ⟨r1, r2⟩ := mem_app r12
  obtain ⟨b, e1, hb⟩ := (hx.rep hrel r1).ptr_inv
  have hs : S.g s = some v := r2 (.s s v) (by simp)
  have hyr := eval_tmp hrel hs
  have hm : S.m n = some obj := r3 (.o n obj) (by simp)
  have hne0 : obj ≠ [] := by rintro rfl; simp only [List.length_nil] at hl; omega
  obtain ⟨arr, e, k1, k2, k3, k4⟩ := RelV.obj hrel hm hne0 hb
  obtain ⟨z0, hz0⟩ : ∃ z0, arr[off]? = some z0 := ⟨arr[off]'(by omega), Array.getElem?_eq_getElem (by omega)⟩
  obtain ⟨q1, q2⟩ := hyr.oneCell (plain_ne hp).1 (plain_ne hp).2
  have hf : w.frozen? ⟨b, off, none⟩ = false := by simp [World.frozen?, k1]
  have hrun := run_store_cell (P := P) (t := t) hi h1 ((cell_of_heap k1 off).trans hz0) hf q1 q2
  refine wp_skip_ (w' := w.setCell ⟨b, off, none⟩ (a.eval (.tmp s))) ?_ (hn _ _ ?_)
  · simp [execOp, hop, e1, hrun]
  · rw [hdst]
    have h2 := hrel.storeObj (obj' := obj.set off v) hm hne0 hb k3 (fun arr0 e0 fz0 h0 => by rw [k1] at h0; injection h0 with h0; injection h0 with h0; subst h0; simp) (heap_setCell_at k1 (a.eval (.tmp s))) (size_setCell _ _ _) (fun k hk => Below.heap_setCell _ _ _ _ hk) rfl rfl rfl
      (rp [0, s] [1, n, off]) (upd S.g s (some v.ro))
      (by simp; omega) (fun c u hu => by
        by_cases hc : c = off
        · subst hc
          rw [List.getElem?_set_self hl] at hu; injection hu with hu; subst hu
          exact ⟨a.eval (.tmp s), by rw [Array.getElem?_setIfInBounds, if_pos rfl, if_pos (by omega)], hyr.remap _ (fun k t ht => by simp only [ht, Option.map_some]; rw [rp_at])⟩
        · rw [List.getElem?_set_ne (by omega)] at hu
          obtain ⟨z, hz, hzr⟩ := k4 c u hu
          exact ⟨z, by rw [Array.getElem?_setIfInBounds, if_neg (by omega)]; exact hz, hzr.remap _ (fun k t ht => by simp only [ht, Option.map_some]; rw [rp_far (apart_slot_obj s n c)])⟩)
      (fun d u hu => by
        by_cases hd : d = s
        · subst hd
          rw [upd_same] at hu; injection hu with hu; subst hu
          obtain ⟨z, hz, hzr⟩ := hrel.slots d v hs
          exact ⟨z, hz, hzr.ro _ _⟩
        · rw [upd_ne _ _ hd] at hu
          obtain ⟨z, hz, hzr⟩ := hrel.slots d u hu
          exact ⟨z, hz, hzr.remap _ (fun k t ht => by simp only [ht, Option.map_some]; rw [rp_far (apart_slot (Ne.symm hd))])⟩)
      (fun o' c t _ => rp_far (apart_slot_obj s o' c) t)
    exact ⟨R, ι, _, h2, dom_o hdom n _⟩

/-- A list's part, written anew. -/
def splice (obj : List AV) (off : Nat) (cs : List AV) : List AV := obj.take off ++ cs ++ obj.drop (off + cs.length)
theorem splice_length {obj : List AV} {off : Nat} {cs : List AV} (h : off + cs.length ≤ obj.length) : (splice obj off cs).length = obj.length := by simp [splice]; omega
theorem splice_get {obj : List AV} {off : Nat} {cs : List AV} (h : off + cs.length ≤ obj.length) (i : Nat) :
    (splice obj off cs)[i]? = if i < off then obj[i]? else if i < off + cs.length then cs[i - off]? else obj[i]? := by
  unfold splice
  by_cases h1 : i < off
  · rw [if_pos h1, List.append_assoc, List.getElem?_append_left (by simp; omega), List.getElem?_take_of_lt h1]
  · rw [if_neg h1]
    by_cases h2 : i < off + cs.length
    · rw [if_pos h2, List.getElem?_append_left (by simp; omega), List.getElem?_append_right (by simp; omega)]
      congr 1; simp; omega
    · rw [if_neg h2, List.getElem?_append_right (by simp; omega), List.getElem?_drop]
      congr 1; simp; omega

theorem heap_setCells_at {b : Nat} {e : TypeId} {fz : Nat × Nat} : ∀ (vs : List Value) (off : Nat) (arr : Array Value) (w : World), w.heap[b]? = some (.cells arr e fz) → off + vs.length ≤ arr.size →
    ∃ arr', (w.setCells b off vs).heap[b]? = some (.cells arr' e fz) ∧ arr'.size = arr.size ∧ ∀ i, arr'[i]? = if i < off then arr[i]? else if i < off + vs.length then vs[i - off]? else arr[i]?
  | [], off, arr, w, h, _ => ⟨arr, h, rfl, fun i => by
    by_cases h1 : i < off
    · rw [if_pos h1]
    · rw [if_neg h1, if_neg (by simp; omega)]⟩
  | v :: vs, off, arr, w, h, hl => by
    simp only [World.setCells]
    simp only [List.length_cons] at hl
    obtain ⟨arr', h1, h2, h3⟩ := heap_setCells_at (b := b) vs (off + 1) (arr.setIfInBounds off v) (w.setCell ⟨b, off, none⟩ v) (heap_setCell_at h v) (by simp; omega)
    refine ⟨arr', h1, by simpa using h2, fun i => ?_⟩
    rw [h3 i]
    by_cases hi : i < off
    · rw [if_pos (by omega), if_pos hi, Array.getElem?_setIfInBounds, if_neg (by omega)]
    · by_cases hi2 : i = off
      · subst hi2
        rw [if_pos (by omega), if_neg hi, if_pos (by simp), Array.getElem?_setIfInBounds]
        simp
        omega
      · rw [if_neg (by omega), if_neg hi]
        simp only [List.length_cons]
        by_cases hi3 : i < off + 1 + vs.length
        · rw [if_pos hi3, if_pos (by omega), show i - off = (i - (off + 1)) + 1 from by omega, List.getElem?_cons_succ]
        · rw [if_neg hi3, if_neg (by omega), Array.getElem?_setIfInBounds, if_neg (by omega)]

theorem setCells_same : ∀ (vs : List Value) (b off : Nat) (w : World), (w.setCells b off vs).heap.size = w.heap.size ∧ (w.setCells b off vs).os = w.os ∧ (w.setCells b off vs).tape = w.tape ∧ (w.setCells b off vs).output = w.output ∧
    ∀ k, k ≠ b → (w.setCells b off vs).heap[k]? = w.heap[k]?
  | [], _, _, _ => ⟨rfl, rfl, rfl, rfl, fun _ _ => rfl⟩
  | v :: vs, b, off, w => by
    obtain ⟨h1, h2, h3, h4, h5⟩ := setCells_same vs b (off + 1) (w.setCell ⟨b, off, none⟩ v)
    simp only [World.setCells]
    exact ⟨h1.trans (size_setCell _ _ _), h2, h3, h4, fun k hk => (h5 k hk).trans (Below.heap_setCell _ _ _ _ hk)⟩

def AV.one : AV → Bool := AV.plain

theorem does_storeAgg {P : Program} [GT P] {nt : Nat} {o : Oper} {t n off : Nat} {x y : Operand} {obj cs : List AV} {it : TypeInfo} (hop : o.op = .store t x y) (hdst : o.dst = none)
    (hi : P.info? t = some it) (h1 : it.size = cs.length) (hx : Opd x (.ptr n off)) (hy : Opd y (.agg cs)) (hp : cs.all AV.plain = true) (hl0 : 0 < cs.length) (hl : off + cs.length ≤ obj.length) :
    Does P nt o (rdOf x (.ptr n off) ++ rdOf y (.agg cs) ++ [.o n obj]) [.o n (splice obj off (AV.roL cs))] := by
  intro Γ S a w next Q hnt hr hrel hn
  have hntn := hnt.1
  obtain ⟨R, ι, ω, hrel, hdom⟩ := hrel
  obtain ⟨r12, r3⟩ := mem_app hr
  obtain ⟨r1, r2⟩ := mem_app r12
  obtain ⟨b, e1, hb⟩ := (hx.rep hrel r1).ptr_inv
  have hyr := hy.rep hrel r2
  have hm : S.m n = some obj := r3 (.o n obj) (by simp)
  have hne0 : obj ≠ [] := by rintro rfl; simp only [List.length_nil] at hl; omega
  obtain ⟨arr, e, k1, k2, k3, k4⟩ := RelV.obj hrel hm hne0 hb
  generalize hX : a.eval y = X at hyr
  cases hyr with
  | pure p v x h => cases h
  | agg p _ vs hvl hv =>
  have hone : ∀ v ∈ vs.toList, v.oneCell' = true := by
    intro v hvm
    obtain ⟨i, hi2, he⟩ := List.getElem_of_mem hvm
    have hi3 : i < cs.length := by simp at hi2; omega
    have hu := List.getElem?_eq_getElem hi3
    have hx2 : vs[i]? = some v := by rw [← he]; simp at hi2; simp [hi2]
    have hpl := List.all_eq_true.1 hp _ (List.mem_of_getElem? hu)
    exact ((hv i _ v hu hx2).oneCell (plain_ne hpl).1 (plain_ne hpl).2).1
  have hf : ∀ i, w.frozen? ⟨b, i, none⟩ = false := fun i => by simp [World.frozen?, k1]
  have hrun := run_storeAt_mid (P := P) w b off t vs (fun j hj => ⟨by rw [cell_of_heap k1, Array.getElem?_eq_getElem (by omega)]; rfl, hf _⟩) (by rw [hi]; simp; omega)
    (Array.all_eq_true_iff_forall_mem.2 (fun v hv => hone v (by simpa using hv)))
  obtain ⟨g1, g2, g3, g4, g5⟩ := setCells_same vs.toList b off w
  obtain ⟨arr', p1, p2, p3⟩ := heap_setCells_at vs.toList off arr w k1 (by simp; omega)
  have hrl : (AV.roL cs).length = cs.length := roL_length cs
  refine wp_skip_ (w' := w.setCells b off vs.toList) ?_ (hn _ _ ?_)
  · simp [execOp, hop, e1, hX, hrun]
  · rw [hdst]
    have h2 := hrel.storeObj (obj' := splice obj off (AV.roL cs)) hm hne0 hb k3 (fun arr0 e0 fz0 h0 => by rw [k1] at h0; injection h0 with h0; injection h0 with h0; subst h0; omega) p1 g1 g5 g2 g3 g4 (fun p => p) S.g
      (by rw [splice_length (by omega)]; omega) (fun c u hu => by
        rw [splice_get (by omega)] at hu
        rw [hrl] at hu
        rw [p3 c]
        by_cases c1 : c < off
        · rw [if_pos c1] at hu ⊢
          obtain ⟨z, hz, hzr⟩ := k4 c u hu
          exact ⟨z, hz, by rw [map_id_fun]; exact hzr⟩
        · rw [if_neg c1] at hu ⊢
          by_cases c2 : c < off + cs.length
          · rw [if_pos c2] at hu
            rw [if_pos (by simp; omega)]
            obtain ⟨u', hu', rfl⟩ := roL_get hu
            have hi3 := (List.getElem?_eq_some_iff.1 hu').1
            have hvx : vs[c - off]? = some (vs[c - off]'(by omega)) := Array.getElem?_eq_getElem (by omega)
            exact ⟨_, by rw [Array.getElem?_toList]; exact hvx, (hv _ _ _ hu' hvx).ro _ _⟩
          · rw [if_neg c2] at hu
            rw [if_neg (by simp; omega)]
            obtain ⟨z, hz, hzr⟩ := k4 c u hu
            exact ⟨z, hz, by rw [map_id_fun]; exact hzr⟩)
      (fun d u hu => by
        obtain ⟨z, hz, hzr⟩ := hrel.slots d u hu
        exact ⟨z, hz, by rw [map_id_fun]; exact hzr⟩) (fun _ _ _ _ => rfl)
    exact ⟨R, ι, _, h2, dom_o hdom n _⟩

end Go.Aw
end
section
namespace Go.Aw
open Go.RowKit

/-! ### New variables -/
def constL : List Value → Option (List AV)
  | [] => some []
  | v :: r => match constAV v, constL r with
    | some u, some l => some (u :: l)
    | _, _ => none

theorem constL_spec : ∀ {l : List Value} {cs : List AV}, constL l = some cs → l.length = cs.length ∧ ∀ (i : Nat) u, cs[i]? = some u → ∃ x, l[i]? = some x ∧ constAV x = some u
  | [], cs, h => by simp [constL] at h; subst h; exact ⟨rfl, fun i u hu => by simp at hu⟩
  | v :: r, cs, h => by
    simp only [constL] at h
    cases h1 : constAV v with
    | none => rw [h1] at h; cases h
    | some u =>
      cases h2 : constL r with
      | none => rw [h1, h2] at h; cases h
      | some l =>
        rw [h1, h2] at h; simp only at h; injection h with h; subst h
        obtain ⟨g1, g2⟩ := constL_spec h2
        refine ⟨by simp [g1], fun i u' hu' => ?_⟩
        cases i with
        | zero => simp at hu'; subst hu'; exact ⟨v, by simp, h1⟩
        | succ i => simp at hu'; obtain ⟨x, hx, hc⟩ := g2 i u' hu'; exact ⟨x, by simpa using hx, hc⟩

theorem fresh_iota {S : Vw} {ι : Nat → Option Nat} (hdom : ∀ n b, ι n = some b → ∃ obj, S.m n = some obj) {n : Nat} (h : S.m n = none) : ι n = none := by
  cases hi : ι n with
  | none => rfl
  | some b => obtain ⟨obj, ho⟩ := hdom n b hi; rw [h] at ho; cases ho

theorem dom_new {S : Vw} {ι : Nat → Option Nat} (hdom : ∀ n b, ι n = some b → ∃ obj, S.m n = some obj) (n : Nat) (B : Nat) (obj : List AV) : ∀ n' b, upd ι n (some B) n' = some b → ∃ ob, upd S.m n (some obj) n' = some ob := by
  intro n' b hb
  by_cases he : n' = n
  · subst he; exact ⟨_, upd_same _ _ _⟩
  · rw [upd_ne _ _ he] at hb ⊢; exact hdom n' b hb

theorem does_alloc {P : Program} [GT P] {nt : Nat} {o : Oper} {d t n : Nat} {i : TypeInfo} {z : Value} {cs : List AV} (hop : o.op = .alloc t) (hdst : o.dst = some d) (hd : d < nt)
    (hi : P.info? t = some i) (hz : i.zero = some z) (hc : constL z.cells.toList = some cs) : Does P nt o [.new n] [.o n cs, .s d (some (.ptr n 0))] := by
  intro Γ S a w next Q hnt hr hrel hn
  have hntn := hnt.1
  obtain ⟨R, ι, ω, hrel, hdom⟩ := hrel
  have hm : S.m n = none := hr (.new n) (by simp)
  obtain ⟨g1, g2⟩ := constL_spec hc
  refine wp_value (x := .pointer (some ⟨w.heap.size, 0, none⟩)) (w' := w.alloc (.cells z.cells t)) ?_ (hn _ _ ?_)
  · simp [execOp, hop, Instr.alloc, zeroValue, typeInfo, hi, hz, newVar, newRow]
  · rw [hdst]
    refine ⟨_, _, _, hrel.allocObj (arr := z.cells) (fresh_iota hdom hm) (by omega) t (by simpa using g1) (fun c u hu => ?_), dom_new hdom n _ cs⟩
    obtain ⟨x, hx, hcx⟩ := g2 c u hu
    exact ⟨x, by simpa using hx, constAV_rep hcx w R ι ω _⟩

theorem does_box {P : Program} [GT P] {nt : Nat} {o : Oper} {d t n : Nat} {x : Operand} {v : AV} (hop : o.op = .box t x) (hdst : o.dst = some d) (hd : d < nt)
    (hx : Opd x v) (hp : v.plain = true) : Does P nt o (rdOf x v ++ [.new n]) [.o n [v.ro], .s d (some (.ptr n 0))] := by
  intro Γ S a w next Q hnt hr hrel hn
  have hntn := hnt.1
  obtain ⟨R, ι, ω, hrel, hdom⟩ := hrel
  obtain ⟨r1, r2⟩ := mem_app hr
  have hm : S.m n = none := r2 (.new n) (by simp)
  have hv := hx.rep hrel r1
  obtain ⟨q1, q2⟩ := hv.oneCell (plain_ne hp).1 (plain_ne hp).2
  refine wp_value (x := .pointer (some ⟨w.heap.size, 0, none⟩)) (w' := w.alloc (.cells #[a.eval x] t)) ?_ (hn _ _ ?_)
  · simp [execOp, hop, Instr.box, newVar, newRow, q2]
  · rw [hdst]
    refine ⟨_, _, _, hrel.allocObj (arr := #[a.eval x]) (fresh_iota hdom hm) (by omega) t (by simp) (fun c u hu => ?_), dom_new hdom n _ _⟩
    cases c with
    | zero => simp at hu; subst hu; exact ⟨a.eval x, by simp, hv.ro _ _⟩
    | succ c => simp at hu

theorem does_boxAgg {P : Program} [GT P] {nt : Nat} {o : Oper} {d t n : Nat} {x : Operand} {cs : List AV} (hop : o.op = .box t x) (hdst : o.dst = some d) (hd : d < nt)
    (hx : Opd x (.agg cs)) : Does P nt o (rdOf x (.agg cs) ++ [.new n]) [.o n (AV.roL cs), .s d (some (.ptr n 0))] := by
  intro Γ S a w next Q hnt hr hrel hn
  have hntn := hnt.1
  obtain ⟨R, ι, ω, hrel, hdom⟩ := hrel
  obtain ⟨r1, r2⟩ := mem_app hr
  have hm : S.m n = none := r2 (.new n) (by simp)
  have hv := hx.rep hrel r1
  generalize hX : a.eval x = X at hv
  cases hv with
  | pure p v x h => cases h
  | agg p _ vs hl h =>
  refine wp_value (x := .pointer (some ⟨w.heap.size, 0, none⟩)) (w' := w.alloc (.cells vs t)) ?_ (hn _ _ ?_)
  · simp [execOp, hop, Instr.box, newVar, newRow, hX, Value.cells]
  · rw [hdst]
    refine ⟨_, _, _, hrel.allocObj (arr := vs) (fresh_iota hdom hm) (by omega) t (by rw [roL_length]; omega) (fun c u hu => ?_), dom_new hdom n _ _⟩
    obtain ⟨u', hu', rfl⟩ := roL_get hu
    have hi3 := (List.getElem?_eq_some_iff.1 hu').1
    have hvx : vs[c]? = some (vs[c]'(by omega)) := Array.getElem?_eq_getElem (by omega)
    exact ⟨_, hvx, (h _ _ _ hu' hvx).ro _ _⟩

/-! ### Parts of tuples, functions, interfaces -/
theorem does_extract {P : Program} [GT P] {nt : Nat} {o : Oper} {d i : Nat} {x : Operand} {vs : List AV} {v : AV} (hop : o.op = .extract x i) (hdst : o.dst = some d) (hd : d < nt)
    (hx : Opd x (.tup vs)) (hv : vs[i]? = some v) : Does P nt o (rdOf x (.tup vs)) [.s d (some v.ro)] :=
  does_value hdst hd fun Γ S a w R ι ω hrd hrel => by
    have h1 := hx.rep hrel hrd
    generalize hX : a.eval x = X at h1
    cases h1 with
    | pure p v x h => cases h
    | tup p _ ws hl h =>
      have hi3 := (List.getElem?_eq_some_iff.1 hv).1
      have hvx : ws[i]? = some (ws[i]'(by omega)) := Array.getElem?_eq_getElem (by omega)
      refine ⟨ws[i]'(by omega), ?_, (h i v _ hv hvx).ro _ _⟩
      simp [execOp, hop, hX, Instr.extract, hvx]

theorem does_extractHand {P : Program} [GT P] {nt : Nat} {o : Oper} {d i s : Nat} {vs : List AV} {v : AV} (hop : o.op = .extract (.tmp s) i) (hdst : o.dst = some d) (hd : d < nt) (hne : s ≠ d)
    (hv : vs[i]? = some v) : Does P nt o [.s s (.tup vs)] [.s s (some (AV.tup vs).ro), .s d (some v)] := by
  intro Γ S a w next Q hnt hr hrel hn
  have hntn := hnt.1
  obtain ⟨R, ι, ω, hrel, hdom⟩ := hrel
  have hs : S.g s = some (.tup vs) := hr (.s s (.tup vs)) (by simp)
  have h1 := eval_tmp hrel hs
  generalize hX : a.eval (.tmp s) = X at h1
  cases h1 with
  | pure p v x h => cases h
  | tup p _ ws hl h =>
    have hi3 := (List.getElem?_eq_some_iff.1 hv).1
    have hvx : ws[i]? = some (ws[i]'(by omega)) := Array.getElem?_eq_getElem (by omega)
    refine wp_value (x := ws[i]'(by omega)) (w' := w) ?_ (hn _ _ ?_)
    · simp [execOp, hop, hX, Instr.extract, hvx]
    · rw [hdst]
      exact ⟨R, ι, _, hrel.hand [i] hs (by omega) hne (h i v _ hv hvx), hdom⟩

def Opds : List Operand → List AV → Prop
  | [], [] => True
  | x :: r, v :: l => Opd x v ∧ Opds r l
  | _, _ => False
def rdsOf : List Operand → List AV → List Rd
  | x :: r, v :: l => rdOf x v ++ rdsOf r l
  | _, _ => []

theorem Opds.spec {Γ : Gam} {S : Vw} {a : Act} {w : World} {R : Ext0} {ι : Nat → Option Nat} {ω : Nat → Option (List Nat)} (h : Rel Γ S.g S.m a w R ι ω) :
    ∀ {xs : List Operand} {vs : List AV}, Opds xs vs → (∀ r, r ∈ rdsOf xs vs → S.has r) → xs.length = vs.length ∧ ∀ (i : Nat) v, vs[i]? = some v → ∃ x, xs[i]? = some x ∧ Rep w R ι ω (placeOf x) v (a.eval x)
  | [], [], _, _ => ⟨rfl, fun i v hv => by simp at hv⟩
  | [], _ :: _, ho, _ => ho.elim
  | _ :: _, [], ho, _ => ho.elim
  | x :: xs, v :: vs, ho, hr => by
    obtain ⟨r1, r2⟩ := mem_app (a := rdOf x v) (b := rdsOf xs vs) hr
    obtain ⟨g1, g2⟩ := Opds.spec h ho.2 r2
    refine ⟨by simp [g1], fun i u hu => ?_⟩
    cases i with
    | zero => simp at hu; subst hu; exact ⟨x, by simp, ho.1.rep h r1⟩
    | succ i => simp at hu; obtain ⟨y, hy, hyr⟩ := g2 i u hu; exact ⟨y, by simpa using hy, hyr⟩

theorem does_makeFunc {P : Program} [GT P] {nt : Nat} {o : Oper} {d f : Nat} {first cap : Array Operand} {fv cv : List AV} (hop : o.op = .makeFunc (.func f) first cap) (hdst : o.dst = some d) (hd : d < nt)
    (hf : Opds first.toList fv) (hc : Opds cap.toList cv) : Does P nt o (rdsOf first.toList fv ++ rdsOf cap.toList cv) [.s d (some (.func f (AV.roL fv) (AV.roL cv)))] :=
  does_value hdst hd fun Γ S a w R ι ω hrd hrel => by
    obtain ⟨r1, r2⟩ := mem_app hrd
    obtain ⟨f1, f2⟩ := Opds.spec hrel hf r1
    obtain ⟨c1, c2⟩ := Opds.spec hrel hc r2
    refine ⟨.func (.func f) (first.map a.eval) (cap.map a.eval), ?_, .func _ f _ _ _ _ ?_ ?_ ?_ ?_⟩
    · simp [execOp, hop, Instr.makeFunc]
    · rw [roL_length]; simp at f1 ⊢; omega
    · rw [roL_length]; simp at c1 ⊢; omega
    · intro i v x hv hx
      obtain ⟨u, hu, rfl⟩ := roL_get hv
      obtain ⟨y, hy, hyr⟩ := f2 i u hu
      have : x = a.eval y := by
        rw [Array.getElem?_map] at hx
        have : first[i]? = some y := by simpa using hy
        rw [this] at hx; simpa using hx.symm
      subst this
      exact hyr.ro _ _
    · intro i v x hv hx
      obtain ⟨u, hu, rfl⟩ := roL_get hv
      obtain ⟨y, hy, hyr⟩ := c2 i u hu
      have : x = a.eval y := by
        rw [Array.getElem?_map] at hx
        have : cap[i]? = some y := by simpa using hy
        rw [this] at hx; simpa using hx.symm
      subst this
      exact hyr.ro _ _

theorem does_makeInterface {P : Program} [GT P] {nt : Nat} {o : Oper} {d t : Nat} {x : Operand} {v : AV} {dt : TypeDesc} (hop : o.op = .makeInterface t x) (hdst : o.dst = some d) (hd : d < nt)
    (ht : P.underlying t = some dt) (hni : ∀ ms, dt ≠ .interface ms) (hx : Opd x v) : Does P nt o (rdOf x v) [.s d (some (.iface t v.ro))] :=
  does_value hdst hd fun Γ S a w R ι ω hrd hrel => by
    have h1 := hx.rep hrel hrd
    refine ⟨.iface t (a.eval x), ?_, .iface _ t _ _ (h1.ro _ _)⟩
    have : (Instr.makeInterface t (a.eval x)).run P w = .ok (.iface t (a.eval x)) w := by
      unfold Instr.makeInterface
      rw [Sem.run_bind, run_underlying ht w]
      cases dt <;> first | rfl | exact absurd rfl (hni _)
    simp [execOp, hop, this]

def unAV : UnOp → AV → Option AV
  | .not, .bool b => some (.bool !b)
  | .neg, .int k n => some (.int k (k.wrap (0 - n)))
  | .xor, .int k n => some (.int k (Go.bits .xor k (if k.signed then -1 else k.max) n))
  | _, _ => none

theorem does_unOp {P : Program} [GT P] {nt : Nat} {o : Oper} {d t : Nat} {x : Operand} {u : UnOp} {v r : AV} (hop : o.op = .unOp u t x) (hdst : o.dst = some d) (hd : d < nt) (hx : Opd x v)
    (hr : unAV u v = some r) : Does P nt o (rdOf x v) [.s d (some r)] :=
  does_value hdst hd fun Γ S a w R ι ω hrd hrel => by
    have h1 := hx.rep hrel hrd
    cases u <;> cases v <;> simp only [unAV, reduceCtorEq] at hr
    case neg.int => injection hr with hr; subst hr; exact ⟨_, by simp [execOp, hop, h1.int_inv, Op.unary, Op.intArith], .pure _ _ _ (.int _ _)⟩
    case not.bool => injection hr with hr; subst hr; exact ⟨_, by simp [execOp, hop, h1.bool_inv, Op.unary], .pure _ _ _ (.bool _)⟩
    case xor.int => injection hr with hr; subst hr; exact ⟨_, by simp [execOp, hop, h1.int_inv, Op.unary, Op.intBits, Go.bits], .pure _ _ _ (.int _ _)⟩

theorem does_binOp {P : Program} [GT P] {nt : Nat} {o : Oper} {d t t' : Nat} {op : BinOp} {x y : Operand} {u v r : AV} (hop : o.op = .binOp op t x y t') (hdst : o.dst = some d) (hd : d < nt) (hx : Opd x u) (hy : Opd y v)
    (hr : binAV op u v = some r) : Does P nt o (rdOf x u ++ rdOf y v) [.s d (some r)] :=
  does_value hdst hd fun Γ S a w R ι ω hrd hrel => by
    obtain ⟨r1, r2⟩ := mem_app hrd
    obtain ⟨z, hz, hzr⟩ := binAV_run (P := P) (t := t) hr (hx.rep hrel r1) (hy.rep hrel r2) x y
    refine ⟨z, ?_, .pure _ _ _ hzr⟩
    simp only [execOp, hop]
    rw [Sem.run_bind, hz]
    rfl

theorem does_boolEq {P : Program} [GT P] {nt : Nat} {o : Oper} {d t t' : Nat} {op : BinOp} {x y : Operand} {p q r : Bool} (hop : o.op = .binOp op t x y t') (hdst : o.dst = some d) (hd : d < nt) (ht : P.underlying t = some .bool)
    (hx : Opd x (.bool p)) (hy : Opd y (.bool q)) (hr : (op = .eql ∧ r = (p == q)) ∨ (op = .neq ∧ r = !(p == q))) : Does P nt o (rdOf x (.bool p) ++ rdOf y (.bool q)) [.s d (some (.bool r))] :=
  does_value hdst hd fun Γ S a w R ι ω hrd hrel => by
    obtain ⟨r1, r2⟩ := mem_app hrd
    have h1 := (hx.rep hrel r1).bool_inv
    have h2 := (hy.rep hrel r2).bool_inv
    refine ⟨.bool r, ?_, .pure _ _ _ (.bool r)⟩
    have hg : eqGuard op t x y (.bool p) (.bool q) = pure () := by unfold eqGuard; split <;> rfl
    have he : (Op.equal t (.bool p) (.bool q)).run P w = .ok (p == q) w := by
      unfold Op.equal Op.maxDepth Op.equalIn
      rw [Sem.run_bind, run_underlying ht w]
      rfl
    rcases hr with ⟨rfl, rfl⟩ | ⟨rfl, rfl⟩ <;> simp [execOp, hop, h1, h2, hg, binOp, he]

theorem does_convInt {P : Program} [GT P] {nt : Nat} {o : Oper} {d s t : Nat} {x : Operand} {k k' : IntKind} {n : Int} {ds : TypeDesc} (hop : o.op = .convert s t x) (hdst : o.dst = some d) (hd : d < nt)
    (hs : P.underlying s = some ds) (ht : P.underlying t = some (.int k)) (hx : Opd x (.int k' n)) : Does P nt o (rdOf x (.int k' n)) [.s d (some (.int k (k.wrap n)))] :=
  does_value hdst hd fun Γ S a w R ι ω hrd hrel => by
    have h1 := (hx.rep hrel hrd).int_inv
    refine ⟨.int k (k.wrap n), ?_, .pure _ _ _ (.int _ _)⟩
    have : (convert s t (.int k' n)).run P w = .ok (.int k (k.wrap n)) w := by
      unfold convert
      rw [Sem.run_bind, run_underlying hs w]
      simp only [Result.andThen_ok]
      rw [Sem.run_bind, run_underlying ht w]
      rfl
    simp [execOp, hop, h1, this]

end Go.Aw
end
section
namespace Go.Aw
open Go.RowKit

/-! ### Values built of parts -/
def AV.cellsA : AV → List AV
  | .agg cs => cs
  | v => [v]

def fillAV (place : Nat → Option (Nat × Nat)) : List AV → List (Nat × AV) → Option (List AV)
  | cs, [] => some cs
  | cs, (i, v) :: r =>
    match place i with
    | none => none
    | some (off, sz) => if v.cellsA.length = sz ∧ off + v.cellsA.length ≤ cs.length then fillAV place (splice cs off (AV.roL v.cellsA)) r else none

def CellsRep (w : World) (R : Ext0) (ι : Nat → Option Nat) (cs : List AV) (arr : Array Value) : Prop :=
  cs.length = arr.size ∧ ∀ (i : Nat) v x, cs[i]? = some v → arr[i]? = some x → ∀ ω q, Rep w R ι ω q v x

theorem foldl_set (off : Nat) : ∀ (l : List Value) (j : Nat) (arr : Array Value), off + j + l.length ≤ arr.size →
    ((l.zipIdx j).foldl (fun cs (p : Value × Nat) => cs.setIfInBounds (off + p.2) p.1) arr).size = arr.size ∧
    ∀ k, ((l.zipIdx j).foldl (fun cs (p : Value × Nat) => cs.setIfInBounds (off + p.2) p.1) arr)[k]? = if k < off + j then arr[k]? else if k < off + j + l.length then l[k - (off + j)]? else arr[k]?
  | [], j, arr, _ => ⟨rfl, fun k => by
      simp only [List.zipIdx_nil, List.foldl_nil, List.length_nil, Nat.add_zero]
      by_cases h : k < off + j
      · rw [if_pos h]
      · rw [if_neg h, if_neg h]⟩
  | v :: l, j, arr, hl => by
    simp only [List.length_cons] at hl
    simp only [List.zipIdx_cons, List.foldl_cons]
    obtain ⟨h1, h2⟩ := foldl_set off l (j + 1) (arr.setIfInBounds (off + j) v) (by simp; omega)
    refine ⟨by rw [h1]; simp, fun k => ?_⟩
    rw [h2 k]
    by_cases hk : k < off + j
    · rw [if_pos (by omega), if_pos hk, Array.getElem?_setIfInBounds, if_neg (by omega)]
    · by_cases hk2 : k = off + j
      · subst hk2
        rw [if_pos (by omega), if_neg hk, if_pos (by simp), Array.getElem?_setIfInBounds]
        simp
        omega
      · rw [if_neg (by omega), if_neg hk]
        simp only [List.length_cons]
        by_cases hk3 : k < off + (j + 1) + l.length
        · rw [if_pos hk3, if_pos (by omega), show k - (off + j) = (k - (off + (j + 1))) + 1 from by omega, List.getElem?_cons_succ]
        · rw [if_neg hk3, if_neg (by omega), Array.getElem?_setIfInBounds, if_neg (by omega)]

theorem Rep.cells {w : World} {R : Ext0} {ι : Nat → Option Nat} {ω : Nat → Option (List Nat)} {p : List Nat} {v : AV} {x : Value} (h : Rep w R ι ω p v x)
    (ht : ∀ cs, v ≠ .tup cs) : CellsRep w R ι (AV.roL v.cellsA) x.cells := by
  by_cases hp : ∃ cs, v = .agg cs
  · obtain ⟨cs, rfl⟩ := hp
    cases h with
    | pure p v x h => cases h
    | agg p _ vs hl h =>
      refine ⟨by simp only [AV.cellsA, Value.cells]; rw [roL_length]; exact hl, fun i v x hv hx ω q => ?_⟩
      obtain ⟨u, hu, rfl⟩ := roL_get hv
      exact (h i u x hu hx).ro ω q
  · have hx := (h.oneCell (fun cs hc => hp ⟨cs, hc⟩) ht).2
    have hc : v.cellsA = [v] := by cases v <;> first | rfl | exact absurd ⟨_, rfl⟩ hp
    rw [hc, hx]
    refine ⟨rfl, fun i u y hu hy ω q => ?_⟩
    cases i with
    | zero => simp [AV.roL] at hu; simp at hy; subst hu; subst hy; exact h.ro ω q
    | succ i => simp [AV.roL] at hu

theorem fill_rep {w : World} {R : Ext0} {ι : Nat → Option Nat} {place : Nat → Option (Nat × Nat)} : ∀ {avs : List (Nat × AV)} {vs : List (Nat × Value)} {cs : List AV} {arr : Array Value} {r : List AV},
    CellsRep w R ι cs arr → avs.length = vs.length → (∀ (j : Nat) i v, avs[j]? = some (i, v) → ∃ x, vs[j]? = some (i, x) ∧ CellsRep w R ι (AV.roL v.cellsA) x.cells) → fillAV place cs avs = some r →
    ∃ arr', Instr.fill place arr vs = some arr' ∧ CellsRep w R ι r arr'
  | [], vs, cs, arr, r, hc, hl, _, hf => by
    cases vs with
    | nil => simp only [fillAV] at hf; injection hf with hf; subst hf; exact ⟨arr, rfl, hc⟩
    | cons => simp at hl
  | (i, v) :: avs, vs, cs, arr, r, hc, hl, hv, hf => by
    cases vs with
    | nil => simp at hl
    | cons y vs =>
      obtain ⟨x, hx, hxr⟩ := hv 0 i v rfl
      simp at hx; subst hx
      simp only [fillAV] at hf
      cases hp : place i with
      | none => rw [hp] at hf; cases hf
      | some q =>
        obtain ⟨off, sz⟩ := q
        rw [hp] at hf
        simp only at hf
        split at hf
        · rename_i hcond
          obtain ⟨c1, c2⟩ := hcond
          have hlen : x.cells.size = v.cellsA.length := by have := hxr.1; rw [roL_length] at this; omega
          have hfit : off + 0 + x.cells.toList.length ≤ arr.size := by have := hc.1; simp; omega
          obtain ⟨g1, g2⟩ := foldl_set off x.cells.toList 0 arr hfit
          have heq : x.cells.zipIdx.foldl (fun cs (p : Value × Nat) => cs.setIfInBounds (off + p.2) p.1) arr = (x.cells.toList.zipIdx 0).foldl (fun cs (p : Value × Nat) => cs.setIfInBounds (off + p.2) p.1) arr := by
            rw [← Array.foldl_toList, Array.toList_zipIdx]
          have hrl := roL_length v.cellsA
          have hnew : CellsRep w R ι (splice cs off (AV.roL v.cellsA)) (x.cells.zipIdx.foldl (fun cs (p : Value × Nat) => cs.setIfInBounds (off + p.2) p.1) arr) := by
            refine ⟨by rw [heq, g1, splice_length (by omega)]; exact hc.1, fun k u y hu hy ω q => ?_⟩
            rw [heq, g2 k] at hy
            rw [splice_get (by omega)] at hu
            simp only [Nat.add_zero, Array.length_toList] at hy
            by_cases k1 : k < off
            · rw [if_pos k1] at hu hy; exact hc.2 k u y hu hy ω q
            · rw [if_neg k1] at hu hy
              by_cases k2 : k < off + v.cellsA.length
              · rw [if_pos (by omega)] at hu hy
                exact hxr.2 _ u y hu (by simpa using hy) ω q
              · rw [if_neg (by omega)] at hu hy
                exact hc.2 k u y hu hy ω q
          obtain ⟨arr', h1, h2⟩ := fill_rep hnew (by simpa using hl) (fun j i' v' hj => by
            obtain ⟨x', hx', hr'⟩ := hv (j + 1) i' v' (by simpa using hj)
            exact ⟨x', by simpa using hx', hr'⟩) hf
          refine ⟨arr', ?_, h2⟩
          simp only [Instr.fill, hp]
          have hsz : (x.cells.size ≠ sz || off + x.cells.size > arr.size) = false := by
            have := hc.1
            simp; omega
          rw [hsz]
          exact h1
        · cases hf

def pairAV : List (Nat × Operand) → List AV → Option (List (Nat × AV))
  | [], [] => some []
  | (i, _) :: r, v :: l => (pairAV r l).map fun t => (i, v) :: t
  | _, _ => none

theorem pairAV_spec {ps : List (Nat × Operand)} {vs : List AV} {t : List (Nat × AV)} (h : pairAV ps vs = some t) :
    t.length = ps.length ∧ ps.length = vs.length ∧ ∀ (j : Nat) i v, t[j]? = some (i, v) → ∃ x, ps[j]? = some (i, x) ∧ vs[j]? = some v := by
  induction ps generalizing vs t with
  | nil =>
    cases vs with
    | nil => simp [pairAV] at h; subst h; exact ⟨rfl, rfl, fun j i v hj => by simp at hj⟩
    | cons => simp [pairAV] at h
  | cons p ps ih =>
    obtain ⟨i0, x0⟩ := p
    cases vs with
    | nil => simp [pairAV] at h
    | cons v0 vs =>
      simp only [pairAV] at h
      cases hp : pairAV ps vs with
      | none => rw [hp] at h; cases h
      | some t' =>
        rw [hp] at h; simp only [Option.map_some] at h; injection h with h; subst h
        obtain ⟨g1, g2, g3⟩ := ih hp
        refine ⟨by simp [g1], by simp [g2], fun j i v hj => ?_⟩
        cases j with
        | zero => simp at hj; obtain ⟨rfl, rfl⟩ := hj; exact ⟨x0, by simp, by simp⟩
        | succ j => simp at hj; obtain ⟨x, h1, h2⟩ := g3 j i v hj; exact ⟨x, by simpa using h1, by simpa using h2⟩

def notTup : AV → Bool
  | .tup _ => false
  | _ => true
theorem notTup_ne {v : AV} (h : notTup v = true) : ∀ cs, v ≠ .tup cs := by intro cs hh; subst hh; simp [notTup] at h

/-- What a struct's (or an array's) parts are: where, how many cells. -/
def placesOf (P : Program) [GT P] (t : TypeId) : Option (Nat → Option (Nat × Nat)) :=
  match P.underlying t with
  | some (.array _ e) => match P.info? e with
    | some ie => some fun i => some (i * ie.size, ie.size)
    | none => none
  | some (.struct fields) => match fields.toList.mapM (fun f => (P.info? f.type).map fun i => (f.offset, i.size)) with
    | some places => some fun i => places[i]?
    | none => none
  | _ => none

theorem CellsRep.const {w : World} {R : Ext0} {ι : Nat → Option Nat} {arr : Array Value} {cs : List AV} (h : constL arr.toList = some cs) : CellsRep w R ι cs arr := by
  obtain ⟨g1, g2⟩ := constL_spec h
  refine ⟨by simpa using g1.symm, fun i v x hv hx ω q => ?_⟩
  obtain ⟨x', hx', hc⟩ := g2 i v hv
  have : x' = x := by
    have hx2 : arr.toList[i]? = some x := by simpa using hx
    rw [hx2] at hx'; injection hx' with hx'; exact hx'.symm
  subst this
  exact constAV_rep hc w R ι ω q

theorem does_build {P : Program} [GT P] {nt : Nat} {o : Oper} {d t : Nat} {parts : Array (Nat × Operand)} {vs : List AV} {i : TypeInfo} {z : Value} {zs r : List AV} {place : Nat → Option (Nat × Nat)} {ps : List (Nat × AV)}
    (hop : o.op = .build t parts) (hdst : o.dst = some d) (hd : d < nt) (hi : P.info? t = some i) (hz : i.zero = some z) (hzc : constL z.cells.toList = some zs) (hpl : placesOf P t = some place)
    (hx : Opds (parts.toList.map (·.2)) vs) (hps : pairAV parts.toList vs = some ps) (ht : vs.all notTup = true) (hr : fillAV place zs ps = some r) :
    Does P nt o (rdsOf (parts.toList.map (·.2)) vs) [.s d (some (.agg (AV.roL r)))] :=
  does_value hdst hd fun Γ S a w R ι ω hrd hrel => by
    obtain ⟨f1, f2⟩ := Opds.spec hrel hx hrd
    obtain ⟨p1, p2, p3⟩ := pairAV_spec hps
    have key : ∀ (j : Nat) k v, ps[j]? = some (k, v) → ∃ x, ((parts.map fun (q : Nat × Operand) => (q.1, a.eval q.2)).toList)[j]? = some (k, x) ∧ CellsRep w R ι (AV.roL v.cellsA) x.cells := by
      intro j k v hj
      obtain ⟨x, hx1, hx2⟩ := p3 j k v hj
      obtain ⟨y, hy, hyr⟩ := f2 j v hx2
      have : y = x := by
        rw [List.getElem?_map, hx1] at hy; simp at hy; exact hy.symm
      subst this
      refine ⟨a.eval y, ?_, hyr.cells (notTup_ne (List.all_eq_true.1 ht v (List.mem_of_getElem? hx2)))⟩
      rw [Array.toList_map, List.getElem?_map, hx1]; rfl
    obtain ⟨arr', h1, h2⟩ := fill_rep (CellsRep.const hzc) (by simp; omega) key hr
    have hb : P.built t ((parts.map fun (q : Nat × Operand) => (q.1, a.eval q.2)).toList) = some arr' := by
      unfold Program.built placesOf at *
      rw [hi]
      cases hu : P.underlying t with
      | none => rw [hu] at hpl; cases hpl
      | some dt =>
        rw [hu] at hpl
        cases dt <;> simp only [reduceCtorEq] at hpl
        case array n e =>
          cases hie : P.info? e with
          | none => rw [hie] at hpl; cases hpl
          | some ie =>
            rw [hie] at hpl; simp only at hpl; injection hpl with hpl; subst hpl
            simp only [hz, hie]; exact h1
        case struct fields =>
          simp only [hz]
          split at hpl
          · rename_i places hpp
            injection hpl with hpl; subst hpl
            rw [hpp]
            simpa using h1
          · cases hpl
    refine ⟨.agg arr', ?_, .agg _ _ _ (by rw [roL_length]; exact h2.1) (fun i v x hv hx => ?_)⟩
    · simp [execOp, hop, run_build w t _ arr' hb]
    · obtain ⟨u, hu, rfl⟩ := roL_get hv
      exact (h2.2 i u x hu hx ω []).ro ω _

end Go.Aw
end
section
namespace Go.Aw
open Go.RowKit

/-! ### Slices -/
def AV.data : AV → Bool
  | .bool _ => true
  | .int _ _ => true
  | .str _ => true
  | .nils => true
  | .list _ _ => true
  | .eptr _ _ => true
  | .nilptr => true
  | .niliface => true
  | .rawp _ => true
  | .nilsl => true
  | _ => false

theorem Rep.data {w : World} {R : Ext0} {ι : Nat → Option Nat} {ω : Nat → Option (List Nat)} {p : List Nat} {v : AV} {x : Value} (h : Rep w R ι ω p v x) (hd : v.data = true) : PRep w R v.ro x := by
  cases h with
  | pure p v x h => exact h.ro
  | ownnil p sz a => exact .empty a 0
  | own p xs sz k off c h hsz hown hw => exact h
  | ptr => simp [AV.data] at hd
  | msl => simp [AV.data] at hd
  | func => simp [AV.data] at hd
  | nilfunc => simp [AV.data] at hd
  | iface => simp [AV.data] at hd
  | agg => simp [AV.data] at hd
  | tup => simp [AV.data] at hd

theorem ro_ro_data {v : AV} (h : v.data = true) : v.ro.data = true := by cases v <;> simp_all [AV.data, AV.ro]

/-- The cells in pieces of so many. -/
def chunks (sz : Nat) (cs : List AV) : Nat → List (List AV)
  | 0 => []
  | n + 1 => cs.take sz :: chunks sz (cs.drop sz) n

theorem chunks_length (sz : Nat) : ∀ (n : Nat) (cs : List AV), (chunks sz cs n).length = n
  | 0, _ => rfl
  | n + 1, cs => by simp [chunks, chunks_length sz n]
theorem chunks_get (sz : Nat) : ∀ (n : Nat) (cs : List AV) (j : Nat), j < n → (chunks sz cs n)[j]? = some ((cs.drop (j * sz)).take sz)
  | 0, _, j, h => by omega
  | n + 1, cs, 0, _ => by simp [chunks]
  | n + 1, cs, j + 1, h => by
    simp only [chunks, List.getElem?_cons_succ]
    rw [chunks_get sz n (cs.drop sz) j (by omega), List.drop_drop]
    congr 3
    rw [Nat.succ_mul]; omega

theorem does_buildSlice {P : Program} [GT P] {nt : Nat} {o : Oper} {d t e n : Nat} {parts : Array (Nat × Operand)} {vs : List AV} {i : TypeInfo} {z : Value} {zs r : List AV} {ps : List (Nat × AV)}
    (hop : o.op = .buildSlice t n parts) (hdst : o.dst = some d) (hd : d < nt) (ht : P.underlying t = some (.slice e)) (hi : P.info? e = some i) (hz : i.zero = some z)
    (hn : n * i.size ≤ 16777216) (hzc : constL ((Array.range (n * i.size)).map (z.cells[· % z.cells.size]!)).toList = some zs)
    (hx : Opds (parts.toList.map (·.2)) vs) (hps : pairAV parts.toList vs = some ps) (htu : vs.all notTup = true) (hr : fillAV (fun j => some (j * i.size, i.size)) zs ps = some r) (hda : r.all AV.data = true) :
    Does P nt o (rdsOf (parts.toList.map (·.2)) vs) [.s d (some (.list (some i.size) (chunks i.size (AV.roL r) n)))] := by
  intro Γ S a w next Q hnt hrd hrel hnx
  have hntn := hnt.1
  obtain ⟨R, ι, ω, hrel, hdom⟩ := hrel
  obtain ⟨f1, f2⟩ := Opds.spec hrel hx hrd
  obtain ⟨p1, p2, p3⟩ := pairAV_spec hps
  have key : ∀ (j : Nat) k v, ps[j]? = some (k, v) → ∃ x, ((parts.map fun (q : Nat × Operand) => (q.1, a.eval q.2)).toList)[j]? = some (k, x) ∧ CellsRep w R ι (AV.roL v.cellsA) x.cells := by
    intro j k v hj
    obtain ⟨x, hx1, hx2⟩ := p3 j k v hj
    obtain ⟨y, hy, hyr⟩ := f2 j v hx2
    have : y = x := by
      rw [List.getElem?_map, hx1] at hy; simp at hy; exact hy.symm
    subst this
    refine ⟨a.eval y, ?_, hyr.cells (notTup_ne (List.all_eq_true.1 htu v (List.mem_of_getElem? hx2)))⟩
    rw [Array.toList_map, List.getElem?_map, hx1]; rfl
  obtain ⟨arr', h1, h2⟩ := fill_rep (CellsRep.const hzc) (by simp; omega) key hr
  have hsize : arr'.size = n * i.size := by
    have hl : ∀ (ps : List (Nat × AV)) (cs r : List AV), fillAV (fun j => some (j * i.size, i.size)) cs ps = some r → r.length = cs.length := by
      intro ps
      induction ps with
      | nil => intro cs r h; simp only [fillAV] at h; injection h with h; rw [h]
      | cons q ps ih =>
        intro cs r h
        obtain ⟨k, v⟩ := q
        simp only [fillAV] at h
        split at h
        · rename_i hc
          rw [ih _ _ h, splice_length (by rw [roL_length]; exact hc.2)]
        · cases h
    have hzl := (constL_spec hzc).1
    rw [← h2.1, hl _ _ _ hr, ← hzl]; simp
  have hrun : (Instr.buildSlice t n (parts.map fun (q : Nat × Operand) => (q.1, a.eval q.2))).run P w = .ok (.slice (some ⟨w.heap.size, 0, none⟩) n n) (w.alloc (.cells arr' e)) := by
    unfold Instr.buildSlice
    rw [Sem.run_bind, run_underlying ht w]
    simp only [Result.andThen_ok]
    by_cases h0 : n * i.size = 0
    · have hfill : Instr.fill (fun j => some (j * i.size, i.size)) (Array.map (fun x => (#[] : Array Value)[x % 0]!) (Array.range (n * i.size))) ((parts.map fun (q : Nat × Operand) => (q.1, a.eval q.2)).toList) = some arr' := by
        rw [← h1]; congr 1; simp [h0]
      simp [sizeOf, typeInfo, hi, hn, h0, newRow] at hfill ⊢
      simp [hfill]
    · simp [sizeOf, typeInfo, hi, hn, h0, zeroValue, hz, newRow, h1, show ¬ (16777216 < n * i.size) from by omega]
      simp at h1
      simp [h1]
  refine wp_value (x := .slice (some ⟨w.heap.size, 0, none⟩) n n) (w' := w.alloc (.cells arr' e)) ?_ (hnx _ _ ?_)
  · simp [execOp, hop, hrun]
  · rw [hdst]
    have hcl := chunks_length i.size n (AV.roL r)
    have hrl : r.length = n * i.size := by rw [h2.1, hsize]
    have hslice : (Value.slice (some ⟨w.heap.size, 0, none⟩) n n) = .slice (some ⟨w.heap.size, 0, none⟩) (chunks i.size (AV.roL r) n).length n := by rw [hcl]
    rw [hslice]
    refine ⟨_, _, _, hrel.allocRow (c := n) (sz := i.size) (arr := arr') (xs := chunks i.size (AV.roL r) n) (by omega) e (0, 0) (by simp) (by rw [hcl]; exact Nat.le_refl _) (by omega) ?_
      (fun j k => (arr'[j * i.size + k]?).getD undef) ?_ ?_, hdom⟩
    · intro j x hx
      have hj : j < n := by have := (List.getElem?_eq_some_iff.1 hx).1; omega
      rw [chunks_get _ _ _ _ hj] at hx
      injection hx with hx; subst hx
      have : (j + 1) * i.size ≤ n * i.size := Nat.mul_le_mul_right _ (by omega)
      rw [Nat.succ_mul] at this
      rw [List.length_take, List.length_drop, roL_length]; omega
    · intro j k hj hk
      rw [hcl] at hj
      have : (j + 1) * i.size ≤ n * i.size := Nat.mul_le_mul_right _ (by omega)
      rw [Nat.succ_mul] at this
      have hlt : j * i.size + k < arr'.size := by omega
      simp [Array.getElem?_eq_getElem hlt]
    · intro j x hx k v hv
      have hj : j < n := by have := (List.getElem?_eq_some_iff.1 hx).1; omega
      rw [chunks_get _ _ _ _ hj] at hx
      injection hx with hx; subst hx
      have hk : k < i.size := by have := (List.getElem?_eq_some_iff.1 hv).1; rw [List.length_take] at this; omega
      rw [List.getElem?_take_of_lt hk, List.getElem?_drop] at hv
      obtain ⟨u, hu, rfl⟩ := roL_get hv
      have hlt : j * i.size + k < arr'.size := by have := (List.getElem?_eq_some_iff.1 hu).1; omega
      have hax : arr'[j * i.size + k]? = some (arr'[j * i.size + k]) := Array.getElem?_eq_getElem hlt
      simp only [hax, Option.getD_some]
      exact (h2.2 _ u _ hu hax ω []).data (List.all_eq_true.1 hda u (List.mem_of_getElem? hu))

theorem does_len {P : Program} [GT P] {nt : Nat} {o : Oper} {d t e : Nat} {x : Operand} {own : Option Nat} {xs : List (List AV)} {tys : Array TypeId} (hop : o.op = .call { callee := .builtin .len, args := #[x], argTypes := tys }) (htys : tys[0]? = some t)
    (hdst : o.dst = some d) (hd : d < nt) (ht : P.underlying t = some (.slice e)) (hx : Opd x (.list own xs)) : Does P nt o (rdOf x (.list own xs)) [.s d (some (.int .i64 xs.length))] :=
  does_value hdst hd fun Γ S a w R ι ω hrd hrel => by
    have h1 := hx.rep hrel hrd
    generalize hX : a.eval x = X at h1
    have : ∃ ad c, X = .slice ad xs.length c := by
      cases h1 with
      | pure p v x h => cases h with
        | empty a c => exact ⟨a, c, rfl⟩
        | list xs sz b off c => exact ⟨_, c, rfl⟩
      | ownnil p sz ad => exact ⟨ad, 0, rfl⟩
      | own p xs sz k off c => exact ⟨_, c, rfl⟩
    obtain ⟨ad, c, rfl⟩ := this
    refine ⟨.int .i64 xs.length, ?_, .pure _ _ _ (.int _ _)⟩
    simp [execOp, hop, resolve, invoke, builtin, Builtin.len_, htys, hX, run_underlying ht, goInt]

theorem does_lenNil {P : Program} [GT P] {nt : Nat} {o : Oper} {d t e : Nat} {x : Operand} {tys : Array TypeId} (hop : o.op = .call { callee := .builtin .len, args := #[x], argTypes := tys }) (htys : tys[0]? = some t)
    (hdst : o.dst = some d) (hd : d < nt) (ht : P.underlying t = some (.slice e)) (hx : Opd x .nils) : Does P nt o (rdOf x .nils) [.s d (some (.int .i64 0))] :=
  does_value hdst hd fun Γ S a w R ι ω hrd hrel => by
    have h1 := hx.rep hrel hrd
    generalize hX : a.eval x = X at h1
    cases h1 with
    | pure p v x h => cases h with
      | nils a =>
        refine ⟨.int .i64 0, ?_, .pure _ _ _ (.int _ _)⟩
        simp [execOp, hop, resolve, invoke, builtin, Builtin.len_, htys, hX, run_underlying ht, goInt]

theorem does_lenStr {P : Program} [GT P] {nt : Nat} {o : Oper} {d t : Nat} {x : Operand} {s : ByteArray} {tys : Array TypeId} (hop : o.op = .call { callee := .builtin .len, args := #[x], argTypes := tys }) (htys : tys[0]? = some t)
    (hdst : o.dst = some d) (hd : d < nt) (ht : P.underlying t = some .string) (hx : Opd x (.str s)) : Does P nt o (rdOf x (.str s)) [.s d (some (.int .i64 s.size))] :=
  does_value hdst hd fun Γ S a w R ι ω hrd hrel => by
    have h1 := (hx.rep hrel hrd).str_inv
    refine ⟨.int .i64 s.size, ?_, .pure _ _ _ (.int _ _)⟩
    simp [execOp, hop, resolve, invoke, builtin, Builtin.len_, htys, h1, run_underlying ht, goInt]

end Go.Aw
end
section
set_option linter.unusedSimpArgs false
namespace Go.Aw
open Go.RowKit

theorem PRep.oneCell {w : World} {R : Ext0} {v : AV} {x : Value} (h : PRep w R v x) : x.oneCell' = true := by cases h <;> rfl

def strEls (s : ByteArray) : List (List AV) := s.data.toList.map fun b => [AV.int .u8 (b.toNat : Int)]

/-- What is appended: its elements. -/
inductive SrcAV : AV → List (List AV) → Prop
  | list (own : Option Nat) (ys : List (List AV)) : SrcAV (.list own ys) ys
  | nils : SrcAV .nils []
  | nilsl : SrcAV .nilsl []
  | str (s : ByteArray) : SrcAV (.str s) (strEls s)

theorem drew_prep {w : World} {R : Ext0} {v : AV} {x : Value} (h : PRep w R v x) : PRep w.drew R v x := h.ext ⟨Nat.le_refl _, fun _ _ _ h hs => ⟨h, hs⟩, fun _ arr e fz h => ⟨arr, e, fz, h, Nat.le_refl _⟩⟩

theorem div_mod_cell (j i sz : Nat) (h : i < sz) : (j * sz + i) / sz = j ∧ (j * sz + i) % sz = i := by
  have h0 : 0 < sz := by omega
  constructor
  · rw [Nat.mul_comm, Nat.mul_add_div h0, Nat.div_eq_of_lt h, Nat.add_zero]
  · rw [Nat.mul_comm, Nat.mul_add_mod, Nat.mod_eq_of_lt h]

theorem src_of {P : Program} [GT P] {w : World} {R : Ext0} {ι : Nat → Option Nat} {ω : Nat → Option (List Nat)} {p : List Nat} {u : AV} {ys : List (List AV)} {x : Value} {tx : TypeId} {size : Nat} (hrep : Rep w R ι ω p u x) (hs : SrcAV u ys)
    (hsz : ∀ (j : Nat) (y : List AV), ys[j]? = some y → y.length = size) (h0 : 0 < size)
    (hk : ((∃ e', P.underlying tx = some (.slice e')) ∧ ∀ s, u ≠ .str s) ∨ (P.underlying tx = some .string ∧ size = 1 ∧ ∃ s, u = .str s)) :
    ∃ (news : List Value) (val : Nat → Nat → Value), Src P size tx x ys.length news w ∧ (∀ (j i : Nat), j < ys.length → i < size → news[j * size + i]? = some (val j i)) ∧
      ∀ (j : Nat) (y : List AV), ys[j]? = some y → ∀ (i : Nat) (v : AV), y[i]? = some v → PRep w R v (val j i) := by
  have empty : ∀ (a : Option Addr) (c : Nat), (∃ e', P.underlying tx = some (.slice e')) → Src P size tx (.slice a 0 c) 0 [] w := by
    rintro a c ⟨e', he⟩
    cases a with
    | none => exact Src.ofNil w he c
    | some a => exact Src.ofSlice w he a 0 c [] (by simp) (fun j u hj => by simp at hj) (fun u hu => by cases hu)
  cases hs with
  | str s =>
    obtain rfl := hrep.str_inv
    rcases hk with ⟨_, hn⟩ | ⟨hk, rfl, _⟩
    · exact absurd rfl (hn s)
    · have hl : (strEls s).length = s.size := by unfold strEls; rw [List.length_map, Array.length_toList]; rfl
      refine ⟨byteCells s, fun j _ => ((byteCells s)[j]?).getD undef, by rw [hl]; exact Src.ofString w hk s, fun j i hj hi => ?_, fun j y hy i v hv => ?_⟩
      · obtain rfl : i = 0 := by omega
        have : j < (byteCells s).length := by rw [byteCells_length]; omega
        simp [List.getElem?_eq_getElem this]
      · unfold strEls at hy
        rw [List.getElem?_map] at hy
        cases hb : s.data.toList[j]? with
        | none => rw [hb] at hy; cases hy
        | some b =>
          rw [hb] at hy; simp only [Option.map_some] at hy; injection hy with hy; subst hy
          cases i with
          | zero =>
            simp at hv; subst hv
            have : (byteCells s)[j]? = some (.int .u8 b.toNat) := by unfold byteCells; rw [List.getElem?_map, hb]; rfl
            simp only [this, Option.getD_some]
            exact .int _ _
          | succ i => simp at hv
  | nils =>
    cases hrep with
    | pure p v x h => cases h with
      | nils a =>
        rcases hk with ⟨he, _⟩ | ⟨_, _, s, hs⟩
        · exact ⟨[], fun _ _ => undef, empty a 0 he, fun j i hj => by simp at hj, fun j y hy => by simp at hy⟩
        · cases hs
  | nilsl =>
    cases hrep with
    | pure p v x h => cases h with
      | nilsl =>
        rcases hk with ⟨he, _⟩ | ⟨_, _, s, hs⟩
        · exact ⟨[], fun _ _ => undef, empty none 0 he, fun j i hj => by simp at hj, fun j y hy => by simp at hy⟩
        · cases hs
  | list own ys =>
    have hke : ∃ e', P.underlying tx = some (.slice e') := by
      rcases hk with ⟨he, _⟩ | ⟨_, _, s, hs⟩
      · exact he
      · cases hs
    have hP : PRep w R (.list none ys) x := by
      have := hrep.data rfl
      exact this
    cases hP with
    | empty a c => exact ⟨[], fun _ _ => undef, empty a c hke, fun j i hj => by simp at hj, fun j y hy => by simp at hy⟩
    | list _ sz b off c val hc hsz' hcell hval =>
      by_cases hne : ys = []
      · subst hne
        exact ⟨[], fun _ _ => undef, empty _ c hke, fun j i hj => by simp at hj, fun j y hy => by simp at hy⟩
      · have hpos : 0 < ys.length := List.length_pos_iff.2 hne
        have hs2 : sz = size := by
          have h1 := List.getElem?_eq_getElem hpos
          rw [← hsz' 0 _ h1, hsz 0 _ h1]
        subst hs2
        obtain ⟨e', he⟩ := hke
        have hget : ∀ q, q < ys.length * sz → ((List.range (ys.length * sz)).map fun q => val (q / sz) (q % sz))[q]? = some (val (q / sz) (q % sz)) := by
          intro q hq
          rw [List.getElem?_map, List.getElem?_range hq]; rfl
        refine ⟨(List.range (ys.length * sz)).map fun q => val (q / sz) (q % sz), val, Src.ofSlice w he ⟨b, off, none⟩ ys.length c _ (by simp) (fun q u hq => ?_) ?_, ?_, hval⟩
        · have hq2 : q < ys.length * sz := by have := (List.getElem?_eq_some_iff.1 hq).1; simpa using this
          rw [hget q hq2] at hq; injection hq with hq; subst hq
          have hdiv : q / sz < ys.length := by rw [Nat.div_lt_iff_lt_mul h0]; exact hq2
          have hmod := Nat.mod_lt q h0
          have := (hcell _ _ hdiv hmod).1
          rw [Nat.add_assoc, Nat.div_add_mod'] at this
          rw [Addr.add_lit]; exact this
        · intro u hu
          obtain ⟨q, hq, rfl⟩ := List.mem_map.1 hu
          have hq2 : q < ys.length * sz := by simpa using hq
          have hdiv : q / sz < ys.length := by rw [Nat.div_lt_iff_lt_mul h0]; exact hq2
          have hmod := Nat.mod_lt q h0
          have hy := List.getElem?_eq_getElem hdiv
          have hl := hsz' _ _ hy
          have hv := List.getElem?_eq_getElem (l := ys[q / sz]) (i := q % sz) (by omega)
          exact (hval _ _ hy _ _ hv).oneCell
        · intro j i hj hi
          have hlt : j * sz + i < ys.length * sz := by
            have : (j + 1) * sz ≤ ys.length * sz := Nat.mul_le_mul_right _ (by omega)
            rw [Nat.succ_mul] at this; omega
          rw [hget _ hlt, (div_mod_cell j i sz hi).1, (div_mod_cell j i sz hi).2]

theorem Rel.drew {Γ : Gam} {g : Nat → Option AV} {m : Nat → Option (List AV)} {a : Act} {w : World} {R : Ext0} {ι : Nat → Option Nat} {ω : Nat → Option (List Nat)}
    (h : Rel Γ g m a w R ι ω) : Rel Γ g m a w.drew R ι ω := by
  have hE : Ext w R w.drew R := ⟨Nat.le_refl _, fun _ _ _ h hs => ⟨h, hs⟩, fun _ arr e fz h => ⟨arr, e, fz, h, Nat.le_refl _⟩⟩
  have lift : ∀ {p v x}, Rep w R ι ω p v x → Rep w.drew R ι ω p v x := fun hr => hr.ext hE (fun _ _ h => h) (fun _ _ _ _ => ⟨rfl, rfl, rfl⟩)
  refine ⟨fun d v hv => ?_, h.nt, h.nodef, ⟨h.mr.dom, fun o obj ho hne => ?_, h.mr.inj, h.mr.sep, h.mr.ilt, h.mr.olt⟩, h.env.step hE rfl rfl rfl (fun _ _ _ _ => ⟨rfl, rfl⟩) (fun _ _ h => h) (fun o _ hl h => .inl ⟨o, hl, h⟩) (fun k p hp => .inl ⟨p, hp⟩)⟩
  · obtain ⟨x, hx, hr⟩ := h.slots d v hv
    exact ⟨x, hx, lift hr⟩
  · obtain ⟨b, arr, e, h1, h2, h3, h4, h5⟩ := h.mr.objs o obj ho hne
    exact ⟨b, arr, e, h1, h2, h3, h4, fun c v hv => by obtain ⟨x, hx, hr⟩ := h5 c v hv; exact ⟨x, hx, lift hr⟩⟩

theorem list_app_get {xs ys : List (List AV)} {P : Nat → List AV → Prop} (h1 : ∀ (j : Nat) y, xs[j]? = some y → P j y) (h2 : ∀ (j : Nat) y, ys[j]? = some y → P (xs.length + j) y) :
    ∀ (j : Nat) y, (xs ++ ys)[j]? = some y → P j y := by
  intro j y hy
  by_cases hj : j < xs.length
  · rw [List.getElem?_append_left hj] at hy; exact h1 j y hy
  · rw [List.getElem?_append_right (by omega)] at hy
    have := h2 _ _ hy
    rwa [show xs.length + (j - xs.length) = j from by omega] at this

/-- An append: to a slice that owns what lies behind it, or to one without room. -/
theorem does_append {P : Program} [GT P] {nt : Nat} {o : Oper} {d s t tx e : Nat} {x : Operand} {v u : AV} {xs ys : List (List AV)} {i : TypeInfo} {z : Value}
    (hop : o.op = .call { callee := .builtin .append, args := #[.tmp s, x], argTypes := #[t, tx] }) (hdst : o.dst = some d) (hd : d < nt) (hne : s ≠ d)
    (ht : P.underlying t = some (.slice e)) (hi : P.info? e = some i) (hz : i.zero = some z) (hzs : z.cells.size = i.size) (h0 : 0 < i.size)
    (hv : ((v = .nils ∨ v = .nilsl) ∧ xs = []) ∨ v = .list (some i.size) xs) (hx : Opd x u) (hu : SrcAV u ys)
    (hk : ((∃ e', P.underlying tx = some (.slice e')) ∧ ∀ s, u ≠ .str s) ∨ (P.underlying tx = some .string ∧ i.size = 1 ∧ ∃ s, u = .str s))
    (hsz : ∀ (j : Nat) (y : List AV), ys[j]? = some y → y.length = i.size)
    (hb : (xs.length + ys.length) * i.bytes ≤ 140737488355328) (h63 : xs.length + ys.length ≤ 9223372036854775807) :
    Does P nt o ([.s s v] ++ rdOf x u) [.s s (some (.list none xs)), .s d (some (.list (some i.size) (xs ++ ys)))] := by
  intro Γ S a w next Q hnt hr hrel hn
  have hntn := hnt.1
  obtain ⟨R, ι, ω, hrel, hdom⟩ := hrel
  obtain ⟨r1, r2⟩ := mem_app hr
  have hs : S.g s = some v := r1 (.s s v) (by simp)
  obtain ⟨X, hX, hXr⟩ := hrel.slots s v hs
  have haX : a.eval (.tmp s) = X := by simp [Act.eval, hX]
  obtain ⟨news, val, hsrc, hcell, hval⟩ := src_of (P := P) (hx.rep hrel r2) hu hsz h0 hk
  -- what the slice is
  have hX' : Rep w R ι ω [0, s] (.list (some i.size) xs) X := by
    rcases hv with ⟨rfl | rfl, rfl⟩ | rfl
    · exact hXr.wk (.nilsOwn _)
    · exact hXr.wk (.nilslOwn _)
    · exact hXr
  have hform : ∃ base c, X = .slice base xs.length c ∧ xs.length ≤ c ∧ (c = 0 ∨ ∃ k off, base = some ⟨k, off, none⟩ ∧ PRep w R (.list none xs) X ∧ (∀ (j : Nat) (x : List AV), xs[j]? = some x → x.length = i.size) ∧ Owned w R k off c i.size xs.length) := by
    cases hX' with
    | pure p v x h => cases h
    | ownnil p sz ad => exact ⟨ad, 0, rfl, Nat.le_refl _, .inl rfl⟩
    | own p xs sz k off c h hxsz hown hw => exact ⟨_, c, rfl, hown.le, .inr ⟨k, off, rfl, h, hxsz, hown⟩⟩
  obtain ⟨base, c, rfl, hlc, hown⟩ := hform
  by_cases hroom : xs.length + ys.length ≤ c
  · -- there is room
    by_cases hc0 : c = 0
    · -- nothing to nothing
      subst hc0
      have hxn : xs = [] := List.length_eq_zero_iff.1 (by omega)
      have hyn : ys = [] := List.length_eq_zero_iff.1 (by omega)
      subst hxn; subst hyn
      have hnews : news = [] := List.length_eq_zero_iff.1 (by have := hsrc.newsLen; simpa using this)
      subst hnews
      have hrun : (Builtin.append_ #[t, tx] o.type #[.slice base 0 0, a.eval x]).run P w = .ok (.slice base 0 0) w := by
        have hkind := hsrc.kind
        have hl := hsrc.len
        have hc := hsrc.cells
        rcases hkind with ⟨e', hk⟩ | hk <;> cases base <;> simp [Builtin.append_, run_underlying ht, run_underlying hk, sizeOf, typeInfo, hi] at hl hc ⊢ <;> simp [hl, hc, storeCells]
      refine wp_value (x := .slice base 0 0) (w' := w) ?_ (hn _ _ ?_)
      · simp [execOp, hop, resolve, invoke, builtin, haX]
        simp [hrun]
      · rw [hdst]
        have h2 := (hrel.less (g' := upd S.g s (some (.list none []))) (fun e' y hy => by
          by_cases he : e' = s
          · subst he; rw [upd_same] at hy; injection hy with hy; subst hy
            refine ⟨v, hs, ?_⟩
            rcases hv with ⟨rfl | rfl, _⟩ | rfl
            · exact .nilsRo
            · exact .nilslRo
            · exact .ro [] _
          · rw [upd_ne _ _ he] at hy; exact ⟨y, hy, .refl y⟩)).set (d := d) (by omega) (Rep.ownnil (w := w) (R := R) (ι := ι) (ω := ω) [0, d] i.size base)
        exact ⟨R, ι, ω, h2, hdom⟩
    · rcases hown with h | ⟨k, off, rfl, hP, hxsz, hO⟩
      · exact absurd h hc0
      · obtain ⟨cur, el, fz, k1, k2, k3⟩ := hO.at_
        have hcz : (xs.length + ys.length) * i.size ≤ c * i.size := Nat.mul_le_mul_right _ hroom
        rw [Nat.add_mul] at hcz
        have hnl := hsrc.newsLen
        have hrun := run_append_room_src (P := P) w t tx o.type e i ht hi k off xs.length c (a.eval x) ys.length news hsrc hroom
          (fun j hj => by rw [cell_of_heap k1, Array.getElem?_eq_getElem (by omega)]; rfl) (fun j hj => k3 _ (by omega))
        obtain ⟨g1, g2, g3, g4, g5⟩ := setCells_same news k (off + xs.length * i.size) w
        obtain ⟨arr', p1, p2, p3⟩ := heap_setCells_at news (off + xs.length * i.size) cur w k1 (by omega)
        refine wp_value (x := .slice (some ⟨k, off, none⟩) (xs.length + ys.length) c) (w' := w.setCells k (off + xs.length * i.size) news) ?_ (hn _ _ ?_)
        · simp [execOp, hop, resolve, invoke, builtin, haX]
          simp [hrun]
        · rw [hdst]
          have hsl : S.g s = some (.list (some i.size) xs) := by
            rcases hv with ⟨rfl | rfl, rfl⟩ | rfl
            · exfalso
              cases hXr with
              | pure p v x h => cases h; exact hc0 rfl
            · exfalso
              cases hXr with
              | pure p v x h => cases h
            · exact hs
          have h2 := hrel.appendIn (s := s) (d := d) (k := k) (off := off) (c := c) (sz := i.size) (xs := xs) (ys := ys) (cur' := arr') (e := el) (fz := fz) hsl hX hX' (by omega) hne (by omega) hroom p1
            (fun j hj => by rw [World.frozen?_setCells]; exact k3 j (by omega)) (by omega) (fun arr0 e0 fz0 h0 => by rw [k1] at h0; injection h0 with h0; injection h0 with h0; subst h0; omega) g1 g5 g2 g3 g4
            (fun j hj => by rw [cell_of_heap p1, cell_of_heap k1, p3 j, if_pos (by omega)]) hsz val
            (fun j q hj hq => by
              rw [cell_of_heap p1, p3]
              have e1 : off + (xs.length + j) * i.size + q = off + xs.length * i.size + (j * i.size + q) := by rw [Nat.add_mul]; omega
              have e2 : j * i.size + q < news.length := by
                rw [hnl]
                have : (j + 1) * i.size ≤ ys.length * i.size := Nat.mul_le_mul_right _ (by omega)
                rw [Nat.succ_mul] at this; omega
              rw [e1, if_neg (by omega), if_pos (by omega), show off + xs.length * i.size + (j * i.size + q) - (off + xs.length * i.size) = j * i.size + q from by omega]
              exact hcell j q hj hq) hval
          exact ⟨_, ι, _, h2, hdom⟩
  · -- there is none
    have hgr : c < xs.length + ys.length := by omega
    have hge := grownCap_ge w (xs.length + ys.length) c e
    -- the elder elements
    obtain ⟨olds, val0, hol, hofc, hocell, hoval, hoxsz⟩ : ∃ (olds : List Value) (val0 : Nat → Nat → Value), olds.length = xs.length * i.size ∧ (Builtin.firstCells i.size xs.length (.slice base xs.length c)).run P w.drew = .ok olds.toArray w.drew ∧
        (∀ (j q : Nat), j < xs.length → q < i.size → olds[j * i.size + q]? = some (val0 j q)) ∧ (∀ (j : Nat) (y : List AV), xs[j]? = some y → ∀ (q : Nat) (v : AV), y[q]? = some v → PRep w R v (val0 j q)) ∧ (∀ (j : Nat) (x : List AV), xs[j]? = some x → x.length = i.size) := by
      by_cases hxn : xs = []
      · subst hxn
        refine ⟨[], fun _ _ => undef, by simp, ?_, fun j q hj => by simp at hj, fun j y hy => by simp at hy, fun j y hy => by simp at hy⟩
        cases base with
        | none => simp [Builtin.firstCells]
        | some b => simp [Builtin.firstCells, loadCells, loadCellsFrom]
      · have hpos : 0 < xs.length := List.length_pos_iff.2 hxn
        rcases hown with h | ⟨k, off, rfl, hP, hxsz, hO⟩
        · omega
        · cases hP with
          | empty a c => simp at hpos
          | list _ sz b off c val1 hc1 hsz1 hcell1 hval1 =>
            have hs2 : sz = i.size := by
              have h1 := List.getElem?_eq_getElem hpos
              rw [← hsz1 0 _ h1, hxsz 0 _ h1]
            subst hs2
            have hget : ∀ q, q < xs.length * i.size → ((List.range (xs.length * i.size)).map fun q => val1 (q / i.size) (q % i.size))[q]? = some (val1 (q / i.size) (q % i.size)) := by
              intro q hq
              rw [List.getElem?_map, List.getElem?_range hq]; rfl
            refine ⟨(List.range (xs.length * i.size)).map fun q => val1 (q / i.size) (q % i.size), val1, by simp, ?_, ?_, hval1, hxsz⟩
            · refine run_firstCells_some (P := P) w.drew i.size xs.length _ xs.length c _ (by simp) (fun q u hq => ?_)
              have hq2 : q < xs.length * i.size := by have := (List.getElem?_eq_some_iff.1 hq).1; simpa using this
              rw [hget q hq2] at hq; injection hq with hq; subst hq
              have hdiv : q / i.size < xs.length := by rw [Nat.div_lt_iff_lt_mul h0]; exact hq2
              have := (hcell1 _ _ hdiv (Nat.mod_lt q h0)).1
              rw [Nat.add_assoc, Nat.div_add_mod'] at this
              rw [Addr.add_lit]; exact this
            · intro j q hj hq
              have hlt : j * i.size + q < xs.length * i.size := by
                have : (j + 1) * i.size ≤ xs.length * i.size := Nat.mul_le_mul_right _ (by omega)
                rw [Nat.succ_mul] at this; omega
              rw [hget _ hlt, (div_mod_cell j q i.size hq).1, (div_mod_cell j q i.size hq).2]
    have hrun := run_append_grow_src (P := P) w t tx o.type e i z ht hi hz base xs.length c olds hofc (a.eval x) ys.length news hsrc hgr (by omega) (growslice_fits hgr hb)
    have hnl := hsrc.newsLen
    refine wp_value (w' := w.drew.alloc (.cells ((olds ++ news).toArray ++ Builtin.zeroCells z.cells (grownCap w (xs.length + ys.length) c e - (xs.length + ys.length))) e))
      (x := .slice (some ⟨w.heap.size, 0, none⟩) (xs.length + ys.length) (grownCap w (xs.length + ys.length) c e)) ?_ (hn _ _ ?_)
    · simp [execOp, hop, resolve, invoke, builtin, haX]
      simp [hrun]
    · rw [hdst]
      have hl : (xs ++ ys).length = xs.length + ys.length := List.length_append
      have h1 := (hrel.less (g' := upd S.g s (some (.list none xs))) (fun e' y hy => by
          by_cases he : e' = s
          · subst he; rw [upd_same] at hy; injection hy with hy; subst hy
            refine ⟨v, hs, ?_⟩
            rcases hv with ⟨rfl | rfl, rfl⟩ | rfl
            · exact .nilsRo
            · exact .nilslRo
            · exact .ro xs _
          · rw [upd_ne _ _ he] at hy; exact ⟨y, hy, .refl y⟩)).drew
      rw [← hl]
      refine ⟨_, ι, _, h1.allocRow (d := d) (xs := xs ++ ys) (sz := i.size) (c := grownCap w (xs ++ ys).length c e)
        (arr := (olds ++ news).toArray ++ Builtin.zeroCells z.cells (grownCap w (xs ++ ys).length c e - (xs ++ ys).length)) (by omega) e (0, 0) (by simp) (by rw [hl]; exact hge) ?_ ?_
        (fun j q => if j < xs.length then val0 j q else val (j - xs.length) q) ?_ ?_, hdom⟩
      · rw [Array.size_append, size_zeroCells, hzs]
        simp only [List.size_toArray, List.length_append, hol, hnl]
        rw [← Nat.add_mul, ← Nat.add_mul]
        have := hge
        rw [show xs.length + ys.length + (grownCap w (xs.length + ys.length) c e - (xs.length + ys.length)) = grownCap w (xs.length + ys.length) c e from by omega]
        exact Nat.le_refl _
      · exact list_app_get (P := fun _ y => y.length = i.size) hoxsz (fun j y hy => hsz j y hy)
      · intro j q hj hq
        rw [hl] at hj
        have hlt : j * i.size + q < (olds ++ news).length := by
          rw [List.length_append, hol, hnl, ← Nat.add_mul]
          have : (j + 1) * i.size ≤ (xs.length + ys.length) * i.size := Nat.mul_le_mul_right _ (by omega)
          rw [Nat.succ_mul] at this; omega
        rw [Array.getElem?_append_left (by simpa using hlt), List.getElem?_toArray]
        by_cases hj2 : j < xs.length
        · have : (j + 1) * i.size ≤ xs.length * i.size := Nat.mul_le_mul_right _ (by omega)
          rw [Nat.succ_mul] at this
          rw [List.getElem?_append_left (by omega), hocell j q hj2 hq, if_pos hj2]
        · have e3 : j * i.size = xs.length * i.size + (j - xs.length) * i.size := by rw [← Nat.add_mul]; congr 1; omega
          rw [List.getElem?_append_right (by omega), hol, if_neg hj2, show j * i.size + q - xs.length * i.size = (j - xs.length) * i.size + q from by omega]
          exact hcell _ q (by omega) hq
      · intro j y hy q v hv
        by_cases hj : j < xs.length
        · rw [List.getElem?_append_left hj] at hy
          rw [if_pos hj]; exact drew_prep (hoval j y hy q v hv)
        · rw [List.getElem?_append_right (by omega)] at hy
          rw [if_neg hj]; exact drew_prep (hval _ y hy q v hv)

end Go.Aw
end
