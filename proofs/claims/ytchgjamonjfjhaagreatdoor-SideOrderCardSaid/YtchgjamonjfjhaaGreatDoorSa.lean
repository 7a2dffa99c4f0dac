/-
  A part of the proof of SideOrderCardSaid (see the last text, Om): no statement of its own, no condition.
-/
import Derived.Test.YtchgjamonjfjhaaGreatDoorFh
set_option linter.unusedSimpArgs false
set_option linter.unusedVariables false
section
set_option linter.unusedVariables false
namespace Go.Aw
section
variable {P : Program} [GT P] {nt n0 : Nat} {Q : AEx → St → Prop} {st : St}
/-- A region, and on. -/
theorem AW_reg {id : Nat} {l : List Oper} {y : Code} (h : ∀ K : St → Prop, (∀ st', AW P nt n0 y Q st' → K st') → evalOps P nt l l st [] (fun _ s => K s) (fun _ v s => Q (.panic v) s)) :
    AW P nt n0 (.seq (.region id l.toArray false) y) Q st := by
  apply AW_seq
  intro Γ a w hnt hn hrel
  refine wp_region_lit ?_
  exact evalOps_list hnt l st [] (fun _ st' => AW P nt n0 y Q st') (fun _ v st' => Q (.panic v) st') (h _ (fun _ h => h)) a w hrel
    (fun acc st' a' w' hk hr => ⟨st', hk, hr⟩) (fun acc v st' chain a' w' hk hp hd => ⟨v, st', hk, hp, hd⟩)
/-- The last region of a piece. -/
theorem AW_reg1 {id : Nat} {l : List Oper} (h : ∀ K : St → Prop, (∀ st', Q .normal st' → K st') → evalOps P nt l l st [] (fun _ s => K s) (fun _ v s => Q (.panic v) s)) :
    AW P nt n0 (.region id l.toArray false) Q st := by
  intro Γ a w hnt hn hrel
  refine wp_region_lit ?_
  exact evalOps_list hnt l st [] (fun _ st' => Q .normal st') (fun _ v st' => Q (.panic v) st') (h _ (fun _ h => h)) a w hrel
    (fun acc st' a' w' hk hr => ⟨st', hk, hr⟩) (fun acc v st' chain a' w' hk hp hd => ⟨v, st', hk, hp, hd⟩)
/-- A region that draws its order, and on. -/
theorem AW_drw {id : Nat} {l : List Oper} {y : Code} (hm : P.follows .mixedOrders = true) (h : ∀ K : List Fp → St → Prop, (∀ acc st', drawOk l acc.reverse = true → AW P nt n0 y Q st' → K acc st') → evalOps P nt l l st [] K (fun _ _ _ => False)) :
    AW P nt n0 (.seq (.region id l.toArray true) y) Q st :=
  AW_seq (AW_draw hm h)
/-- A test, and on. -/
theorem AW_if {c : Operand} {x y : Code} {b : Bool} (hb : st.ev c = some (.bool b)) (h1 : b = true → AW P nt n0 x Q st) (h2 : b = false → AW P nt n0 y Q st) : AW P nt n0 (.cond c x y) Q st :=
  AW_cond fun X Y hX hY => by unfold condP; rw [hb]; exact ⟨fun e => hX (h1 e), fun e => hY (h2 e)⟩
end
end Go.Aw
end
section
set_option linter.unusedVariables false
set_option linter.unusedSimpArgs false
namespace Go.Aw
/-! ### One operation at a time -/
section
variable {P : Program} [GT P] {nt : Nat} {all rest : List Oper} {fr : List (Nat × AV)} {mem : List (List AV)} {acc : List Fp} {K : List Fp → St → Prop} {KP : List Fp → AV → St → Prop}
  {ty : TypeId} {pos : String} {aft : Array Edge} {d s t : Nat} {v u : AV} {x y : Operand}

theorem ev_step {o : Oper} (hg : o.guard = none) (hk : ∀ c ar ats, o.op ≠ .call { callee := .value c, args := ar, argTypes := ats }) (hp : ∀ a b c, o.op ≠ .pick a b c) {rds : List Rd} {wrs : List Wr}
    (h1 : ∀ k : K2, k rds wrs → stepOp P nt rest o ⟨fr, mem⟩ k) (h : evalOps P nt all rest (St.puts ⟨fr, mem⟩ wrs) (mkFp rds wrs :: acc) K KP) :
    evalOps P nt all (o :: rest) ⟨fr, mem⟩ acc K KP := by
  unfold evalOps
  unfold guardP
  rw [hg]
  simp only
  unfold perfP
  split
  · rename_i ho; exact absurd ho (hp _ _ _)
  · rename_i ho; exact absurd ho (hk _ _ _)
  · exact h1 _ h

/-- A guarded operation. -/
theorem ev_guard {dst : Option Nat} {op : Op} {j : Nat} {want b : Bool} (hd : gslot all j = some d) (hb : getA fr d = some (.bool b)) (hl : dstLt nt dst)
    (h1 : b = want → evalOps P nt all (⟨dst, op, ty, pos, aft, none⟩ :: rest) ⟨fr, mem⟩ acc K KP)
    (h2 : b = (!want) → evalOps P nt all rest (St.puts ⟨fr, mem⟩ (skipW dst)) (⟨[(false, d)], wrLocs (skipW dst)⟩ :: acc) K KP) :
    evalOps P nt all (⟨dst, op, ty, pos, aft, some (j, want)⟩ :: rest) ⟨fr, mem⟩ acc K KP := by
  unfold evalOps
  unfold guardP
  simp only [hd, hb]
  refine ⟨fun e => ?_, fun e => ⟨hl, ?_⟩⟩
  · have := h1 e
    unfold evalOps at this
    unfold guardP at this
    exact this
  · have := h2 e
    simpa [guardR, hd] using this
theorem ev_guardU {dst : Option Nat} {op : Op} {j : Nat} {want : Bool} (hd : gslot all j = some d) (hb : getA fr d = some (.tup [])) (hl : dstLt nt dst)
    (h2 : evalOps P nt all rest (St.puts ⟨fr, mem⟩ (skipW dst)) (⟨[(false, d)], wrLocs (skipW dst)⟩ :: acc) K KP) :
    evalOps P nt all (⟨dst, op, ty, pos, aft, some (j, want)⟩ :: rest) ⟨fr, mem⟩ acc K KP := by
  unfold evalOps
  unfold guardP
  simp only [hd, hb]
  exact ⟨hl, by simpa [guardR, hd] using h2⟩

theorem ev_end (h : K acc ⟨fr, mem⟩) : evalOps P nt all [] ⟨fr, mem⟩ acc K KP := h

theorem ev_move (hs : getA fr s = some v) (hd : Nat.blt d nt = true) (hc : (consumed rest d && owns v && s != d) = false) (h : evalOps P nt all rest ⟨setA fr d v.ro, mem⟩ (⟨[(false, s)], [(false, d)]⟩ :: acc) K KP) :
    evalOps P nt all (⟨some d, .move (.tmp s), ty, pos, aft, none⟩ :: rest) ⟨fr, mem⟩ acc K KP :=
  ev_step rfl (fun _ _ _ h => by cases h) (fun _ _ _ h => by cases h) (rds := [Rd.s s v]) (wrs := [Wr.s d (some v.ro)])
    (fun k hk => by simp only [stepOp, xNew, xNewA, oldOp, stMove, hs]; exact ⟨by simpa using hd, by simpa [hc] using hk⟩) h
theorem ev_moveO (hs : getA fr s = some v) (hd : Nat.blt d nt = true) (hc : (consumed rest d && owns v && s != d) = true) (h : evalOps P nt all rest ⟨setA (setA fr s v.ro) d v, mem⟩ (⟨[(false, s)], [(false, s), (false, d)]⟩ :: acc) K KP) :
    evalOps P nt all (⟨some d, .move (.tmp s), ty, pos, aft, none⟩ :: rest) ⟨fr, mem⟩ acc K KP :=
  ev_step rfl (fun _ _ _ h => by cases h) (fun _ _ _ h => by cases h) (rds := [Rd.s s v]) (wrs := [Wr.s s (some v.ro), .s d (some v)])
    (fun k hk => by simp only [stepOp, xNew, xNewA, oldOp, stMove, hs]; refine ⟨by simpa using hd, ?_⟩; simp only [Bool.false_or]; rw [if_pos hc]; exact hk) h
theorem ev_asg (hs : getA fr s = some v) (hd : Nat.blt d nt = true) (hc : (owns v && s != d) = false) (h : evalOps P nt all rest ⟨setA fr d v.ro, mem⟩ (⟨[(false, s)], [(false, d)]⟩ :: acc) K KP) :
    evalOps P nt all (⟨some d, .assign (.tmp s), ty, pos, aft, none⟩ :: rest) ⟨fr, mem⟩ acc K KP :=
  ev_step rfl (fun _ _ _ h => by cases h) (fun _ _ _ h => by cases h) (rds := [Rd.s s v]) (wrs := [Wr.s d (some v.ro)])
    (fun k hk => by simp only [stepOp, xNew, xNewA, oldOp, stMove, hs]; exact ⟨by simpa using hd, by simpa [hc] using hk⟩) h
theorem ev_asgO (hs : getA fr s = some v) (hd : Nat.blt d nt = true) (hc : (owns v && s != d) = true) (h : evalOps P nt all rest ⟨setA (setA fr s v.ro) d v, mem⟩ (⟨[(false, s)], [(false, s), (false, d)]⟩ :: acc) K KP) :
    evalOps P nt all (⟨some d, .assign (.tmp s), ty, pos, aft, none⟩ :: rest) ⟨fr, mem⟩ acc K KP :=
  ev_step rfl (fun _ _ _ h => by cases h) (fun _ _ _ h => by cases h) (rds := [Rd.s s v]) (wrs := [Wr.s s (some v.ro), .s d (some v)])
    (fun k hk => by simp only [stepOp, xNew, xNewA, oldOp, stMove, hs]; refine ⟨by simpa using hd, ?_⟩; simp only [Bool.true_or, Bool.true_and]; rw [if_pos hc]; exact hk) h
theorem ev_moveC {c : Value} (hc : constAV c = some v) (hd : Nat.blt d nt = true) (h : evalOps P nt all rest ⟨setA fr d v, mem⟩ (⟨[], [(false, d)]⟩ :: acc) K KP) :
    evalOps P nt all (⟨some d, .move (.const c), ty, pos, aft, none⟩ :: rest) ⟨fr, mem⟩ acc K KP :=
  ev_step rfl (fun _ _ _ h => by cases h) (fun _ _ _ h => by cases h) (rds := []) (wrs := [Wr.s d (some v)])
    (fun k hk => by simp only [stepOp, xNew, xNewA, oldOp, stMove, hc]; exact ⟨by simpa using hd, hk⟩) h
theorem ev_asgC {c : Value} (hc : constAV c = some v) (hd : Nat.blt d nt = true) (h : evalOps P nt all rest ⟨setA fr d v, mem⟩ (⟨[], [(false, d)]⟩ :: acc) K KP) :
    evalOps P nt all (⟨some d, .assign (.const c), ty, pos, aft, none⟩ :: rest) ⟨fr, mem⟩ acc K KP :=
  ev_step rfl (fun _ _ _ h => by cases h) (fun _ _ _ h => by cases h) (rds := []) (wrs := [Wr.s d (some v)])
    (fun k hk => by simp only [stepOp, xNew, xNewA, oldOp, stMove, hc]; exact ⟨by simpa using hd, hk⟩) h

/-! Reading memory. -/
theorem load_new {dst : Option Nat} (hx' : ∀ g, x ≠ .global g) : xNew P nt ⟨dst, .load t x, ty, pos, aft, none⟩ ⟨fr, mem⟩ = none := by
  cases x with
  | global g => exact absurd rfl (hx' g)
  | tmp _ => rfl
  | const _ => rfl
  | func _ => rfl
theorem ev_load {n off : Nat} {obj : List AV} {ti : TI} (hx : St.ev ⟨fr, mem⟩ x = some (.ptr n off)) (ht : tiOf P t = some ti) (hrow : ti.d.row = false) (hn : mem[n]? = some obj) (hv : obj[off]? = some v) (hd : Nat.blt d nt = true)
    (hc : (consumed rest d && owns v) = false) (h : evalOps P nt all rest ⟨setA fr d v.ro, mem⟩ (⟨rdLocs (rdOf x (.ptr n off) ++ [Rd.o n obj]), [(false, d)]⟩ :: acc) K KP) :
    evalOps P nt all (⟨some d, .load t x, ty, pos, aft, none⟩ :: rest) ⟨fr, mem⟩ acc K KP :=
  ev_step rfl (fun _ _ _ h => by cases h) (fun _ _ _ h => by cases h) (rds := rdOf x (.ptr n off) ++ [Rd.o n obj]) (wrs := [Wr.s d (some v.ro)])
    (fun k hk => by
      have hxn : xNew P nt ⟨some d, .load t x, ty, pos, aft, none⟩ ⟨fr, mem⟩ = none := load_new (by rintro g rfl; cases hx)
      simp only [stepOp, hxn, oldOp, stLoad, hx, ht, hn, hrow, hv, Bool.false_eq_true, if_false]; exact ⟨by simpa using hd, by simpa [hc] using hk⟩) h
theorem ev_loadO {n off : Nat} {obj : List AV} {ti : TI} (hx : St.ev ⟨fr, mem⟩ x = some (.ptr n off)) (ht : tiOf P t = some ti) (hrow : ti.d.row = false) (hn : mem[n]? = some obj) (hv : obj[off]? = some v) (hd : Nat.blt d nt = true)
    (hc : (consumed rest d && owns v) = true) (h : evalOps P nt all rest ⟨setA fr d v, setM mem n (obj.set off v.ro)⟩ (⟨rdLocs (rdOf x (.ptr n off) ++ [Rd.o n obj]), [(true, n), (false, d)]⟩ :: acc) K KP) :
    evalOps P nt all (⟨some d, .load t x, ty, pos, aft, none⟩ :: rest) ⟨fr, mem⟩ acc K KP :=
  ev_step rfl (fun _ _ _ h => by cases h) (fun _ _ _ h => by cases h) (rds := rdOf x (.ptr n off) ++ [Rd.o n obj]) (wrs := [Wr.o n (obj.set off v.ro), .s d (some v)])
    (fun k hk => by
      have hxn : xNew P nt ⟨some d, .load t x, ty, pos, aft, none⟩ ⟨fr, mem⟩ = none := load_new (by rintro g rfl; cases hx)
      simp only [stepOp, hxn, oldOp, stLoad, hx, ht, hn, hrow, hv, Bool.false_eq_true, if_false]; exact ⟨by simpa using hd, by simpa [hc] using hk⟩) h
theorem ev_loadR {n off : Nat} {obj : List AV} {ti : TI} (hx : St.ev ⟨fr, mem⟩ x = some (.ptr n off)) (ht : tiOf P t = some ti) (hrow : ti.d.row = true) (hn : mem[n]? = some obj) (h0 : 0 < ti.size) (hl : off + ti.size ≤ obj.length) (hd : Nat.blt d nt = true)
    (h : evalOps P nt all rest ⟨setA fr d (.agg (AV.roL ((obj.drop off).take ti.size))), mem⟩ (⟨rdLocs (rdOf x (.ptr n off) ++ [Rd.o n obj]), [(false, d)]⟩ :: acc) K KP) :
    evalOps P nt all (⟨some d, .load t x, ty, pos, aft, none⟩ :: rest) ⟨fr, mem⟩ acc K KP :=
  ev_step rfl (fun _ _ _ h => by cases h) (fun _ _ _ h => by cases h) (rds := rdOf x (.ptr n off) ++ [Rd.o n obj]) (wrs := [Wr.s d (some (.agg (AV.roL ((obj.drop off).take ti.size))))])
    (fun k hk => by
      have hxn : xNew P nt ⟨some d, .load t x, ty, pos, aft, none⟩ ⟨fr, mem⟩ = none := load_new (by rintro g rfl; cases hx)
      simp only [stepOp, hxn, oldOp, stLoad, hx, ht, hn, hrow, if_true]; exact ⟨⟨by simpa using hd, h0, hl⟩, hk⟩) h
theorem ev_loadE {off : Nat} {yy : List AV} {ti : TI} (hx : St.ev ⟨fr, mem⟩ x = some (.eptr yy off)) (ht : tiOf P t = some ti) (hrow : ti.d.row = false) (hv : yy[off]? = some v) (hd : Nat.blt d nt = true)
    (h : evalOps P nt all rest ⟨setA fr d v, mem⟩ (⟨rdLocs (rdOf x (.eptr yy off)), [(false, d)]⟩ :: acc) K KP) :
    evalOps P nt all (⟨some d, .load t x, ty, pos, aft, none⟩ :: rest) ⟨fr, mem⟩ acc K KP :=
  ev_step rfl (fun _ _ _ h => by cases h) (fun _ _ _ h => by cases h) (rds := rdOf x (.eptr yy off)) (wrs := [Wr.s d (some v)])
    (fun k hk => by
      have hxn : xNew P nt ⟨some d, .load t x, ty, pos, aft, none⟩ ⟨fr, mem⟩ = none := load_new (by rintro g rfl; cases hx)
      simp only [stepOp, hxn, oldOp, stLoad, hx, ht, hrow, hv, Bool.false_eq_true, if_false]; exact ⟨by simpa using hd, hk⟩) h
theorem ev_loadER {off : Nat} {yy : List AV} {ti : TI} (hx : St.ev ⟨fr, mem⟩ x = some (.eptr yy off)) (ht : tiOf P t = some ti) (hrow : ti.d.row = true) (hl : off + ti.size ≤ yy.length) (hd : Nat.blt d nt = true)
    (h : evalOps P nt all rest ⟨setA fr d (.agg ((yy.drop off).take ti.size)), mem⟩ (⟨rdLocs (rdOf x (.eptr yy off)), [(false, d)]⟩ :: acc) K KP) :
    evalOps P nt all (⟨some d, .load t x, ty, pos, aft, none⟩ :: rest) ⟨fr, mem⟩ acc K KP :=
  ev_step rfl (fun _ _ _ h => by cases h) (fun _ _ _ h => by cases h) (rds := rdOf x (.eptr yy off)) (wrs := [Wr.s d (some (.agg ((yy.drop off).take ti.size)))])
    (fun k hk => by
      have hxn : xNew P nt ⟨some d, .load t x, ty, pos, aft, none⟩ ⟨fr, mem⟩ = none := load_new (by rintro g rfl; cases hx)
      simp only [stepOp, hxn, oldOp, stLoad, hx, ht, hrow, if_true]; exact ⟨⟨by simpa using hd, hl⟩, hk⟩) h

/-! Writing memory. -/
/-- Is what is stored handed over? -/
def ownT : Operand → AV → Bool
  | .tmp _, v => owns v
  | _, _ => false
theorem ev_storeR {n off : Nat} {obj cs : List AV} {ti : TI} (hx : St.ev ⟨fr, mem⟩ x = some (.ptr n off)) (hy : St.ev ⟨fr, mem⟩ y = some (.agg cs)) (ht : tiOf P t = some ti) (hs : ti.size = cs.length) (h0 : 0 < cs.length) (hn : mem[n]? = some obj)
    (hl : off + cs.length ≤ obj.length) (hp : cs.all AV.plain = true) (h : evalOps P nt all rest ⟨fr, setM mem n (splice obj off (AV.roL cs))⟩ (⟨rdLocs (rdOf x (.ptr n off) ++ rdOf y (.agg cs) ++ [Rd.o n obj]), [(true, n)]⟩ :: acc) K KP) :
    evalOps P nt all (⟨none, .store t x y, ty, pos, aft, none⟩ :: rest) ⟨fr, mem⟩ acc K KP :=
  ev_step rfl (fun _ _ _ h => by cases h) (fun _ _ _ h => by cases h) (rds := rdOf x (.ptr n off) ++ rdOf y (.agg cs) ++ [Rd.o n obj]) (wrs := [Wr.o n (splice obj off (AV.roL cs))])
    (fun k hk => by simp only [stepOp, xNew, xNewA, oldOp, stStore, hx, hy, ht, hn]; exact ⟨⟨⟨hs, h0, hl⟩, hp⟩, hk⟩) h
theorem ev_store {n off : Nat} {obj : List AV} {ti : TI} (hx : St.ev ⟨fr, mem⟩ x = some (.ptr n off)) (hy : St.ev ⟨fr, mem⟩ y = some v) (ht : tiOf P t = some ti) (hs : ti.size = 1) (hn : mem[n]? = some obj)
    (hl : off < obj.length) (hp : v.plain = true) (hc : ownT y v = false) (h : evalOps P nt all rest ⟨fr, setM mem n (obj.set off v.ro)⟩ (⟨rdLocs (rdOf x (.ptr n off) ++ rdOf y v ++ [Rd.o n obj]), [(true, n)]⟩ :: acc) K KP) :
    evalOps P nt all (⟨none, .store t x y, ty, pos, aft, none⟩ :: rest) ⟨fr, mem⟩ acc K KP :=
  ev_step rfl (fun _ _ _ h => by cases h) (fun _ _ _ h => by cases h) (rds := rdOf x (.ptr n off) ++ rdOf y v ++ [Rd.o n obj]) (wrs := [Wr.o n (obj.set off v.ro)])
    (fun k hk => by
      simp only [stepOp, xNew, xNewA, oldOp, stStore, hx, hy, ht, hn]
      cases v <;> first | (cases hp; done) | (simp only [hn]; refine ⟨⟨⟨hs, hl⟩, rfl⟩, ?_⟩; cases y <;> first | exact hk | (simp only [ownT] at hc; simp only [hc, Bool.false_eq_true, if_false]; exact hk))) h
theorem ev_storeO {n off : Nat} {obj : List AV} {ti : TI} (hx : St.ev ⟨fr, mem⟩ x = some (.ptr n off)) (hy : getA fr s = some v) (ht : tiOf P t = some ti) (hs : ti.size = 1) (hn : mem[n]? = some obj)
    (hl : off < obj.length) (hp : v.plain = true) (hc : owns v = true) (h : evalOps P nt all rest ⟨setA fr s v.ro, setM mem n (obj.set off v)⟩ (⟨rdLocs (rdOf x (.ptr n off) ++ [Rd.s s v] ++ [Rd.o n obj]), [(true, n), (false, s)]⟩ :: acc) K KP) :
    evalOps P nt all (⟨none, .store t x (.tmp s), ty, pos, aft, none⟩ :: rest) ⟨fr, mem⟩ acc K KP :=
  ev_step rfl (fun _ _ _ h => by cases h) (fun _ _ _ h => by cases h) (rds := rdOf x (.ptr n off) ++ [Rd.s s v] ++ [Rd.o n obj]) (wrs := [Wr.o n (obj.set off v), .s s (some v.ro)])
    (fun k hk => by
      have hy' : St.ev ⟨fr, mem⟩ (.tmp s) = some v := hy
      simp only [stepOp, xNew, xNewA, oldOp, stStore, hx, hy', ht, hn]
      cases v <;> first | (cases hp; done) | (simp only [hn]; refine ⟨⟨⟨hs, hl⟩, rfl⟩, ?_⟩; simp only [hc, if_true]; exact hk)) h
theorem ev_alloc {ti : TI} (ht : tiOf P t = some ti) (hd : Nat.blt d nt = true) (h : evalOps P nt all rest ⟨setA fr d (.ptr mem.length 0), setM mem mem.length ti.zero⟩ (⟨[(true, mem.length)], [(true, mem.length), (false, d)]⟩ :: acc) K KP) :
    evalOps P nt all (⟨some d, .alloc t, ty, pos, aft, none⟩ :: rest) ⟨fr, mem⟩ acc K KP :=
  ev_step rfl (fun _ _ _ h => by cases h) (fun _ _ _ h => by cases h) (rds := [Rd.new mem.length]) (wrs := [Wr.o mem.length ti.zero, .s d (some (.ptr mem.length 0))])
    (fun k hk => by simp only [stepOp, xNew, xNewA, oldOp, stAlloc, ht]; exact ⟨by simpa using hd, hk⟩) h
theorem ev_box (hx : St.ev ⟨fr, mem⟩ x = some v) (hp : v.plain = true) (hd : Nat.blt d nt = true) (h : evalOps P nt all rest ⟨setA fr d (.ptr mem.length 0), setM mem mem.length [v.ro]⟩ (⟨rdLocs (rdOf x v ++ [Rd.new mem.length]), [(true, mem.length), (false, d)]⟩ :: acc) K KP) :
    evalOps P nt all (⟨some d, .box t x, ty, pos, aft, none⟩ :: rest) ⟨fr, mem⟩ acc K KP :=
  ev_step rfl (fun _ _ _ h => by cases h) (fun _ _ _ h => by cases h) (rds := rdOf x v ++ [Rd.new mem.length]) (wrs := [Wr.o mem.length [v.ro], .s d (some (.ptr mem.length 0))])
    (fun k hk => by
      simp only [stepOp, xNew, xNewA, oldOp, stBox, hx]
      cases v <;> first | (cases hp; done) | exact ⟨⟨by simpa using hd, rfl⟩, hk⟩) h
theorem ev_boxR {cs : List AV} (hx : St.ev ⟨fr, mem⟩ x = some (.agg cs)) (hd : Nat.blt d nt = true) (h : evalOps P nt all rest ⟨setA fr d (.ptr mem.length 0), setM mem mem.length (AV.roL cs)⟩ (⟨rdLocs (rdOf x (.agg cs) ++ [Rd.new mem.length]), [(true, mem.length), (false, d)]⟩ :: acc) K KP) :
    evalOps P nt all (⟨some d, .box t x, ty, pos, aft, none⟩ :: rest) ⟨fr, mem⟩ acc K KP :=
  ev_step rfl (fun _ _ _ h => by cases h) (fun _ _ _ h => by cases h) (rds := rdOf x (.agg cs) ++ [Rd.new mem.length]) (wrs := [Wr.o mem.length (AV.roL cs), .s d (some (.ptr mem.length 0))])
    (fun k hk => by simp only [stepOp, xNew, xNewA, oldOp, stBox, hx]; exact ⟨by simpa using hd, hk⟩) h
end
end Go.Aw
end
section
set_option linter.unusedVariables false
set_option linter.unusedSimpArgs false
namespace Go.Aw
theorem setA_same : ∀ {l : List (Nat × AV)} {d : Nat} {v : AV}, getA l d = some v → setA l d v = l
  | [], _, _, h => by cases h
  | (e, u) :: r, d, v, h => by
    simp only [getA] at h
    simp only [setA]
    split at h
    · rename_i he; injection h with h; subst h; rw [if_pos he]
    · rename_i he; rw [if_neg he, setA_same h]
section
variable {P : Program} [GT P] {nt n0 : Nat} {all rest : List Oper} {fr : List (Nat × AV)} {mem : List (List AV)} {acc : List Fp} {K : List Fp → St → Prop} {KP : List Fp → AV → St → Prop}
  {ty : TypeId} {pos : String} {aft : Array Edge} {d s t : Nat} {v u r : AV} {x y c : Operand} {Q : AEx → St → Prop}

/-- A guarded operation; what the guard says is known then. -/
theorem ev_grd {dst : Option Nat} {op : Op} {j : Nat} {want b : Bool} (hd : gslot all j = some d) (hb : getA fr d = some (.bool b)) (hl : dstLt nt dst)
    (h1 : b = want → evalOps P nt all (⟨dst, op, ty, pos, aft, none⟩ :: rest) ⟨setA fr d (.bool want), mem⟩ acc K KP)
    (h2 : b = (!want) → evalOps P nt all rest (St.puts ⟨setA fr d (.bool (!want)), mem⟩ (skipW dst)) (⟨[(false, d)], wrLocs (skipW dst)⟩ :: acc) K KP) :
    evalOps P nt all (⟨dst, op, ty, pos, aft, some (j, want)⟩ :: rest) ⟨fr, mem⟩ acc K KP :=
  ev_guard hd hb hl (fun e => by have := h1 e; subst e; rwa [setA_same hb] at this) (fun e => by have := h2 e; subst e; rwa [setA_same hb] at this)
/-- A test; what it says is known then. -/
theorem AW_iff {t : Nat} {cx cy : Code} {b : Bool} (hb : getA fr t = some (.bool b)) (h1 : b = true → AW P nt n0 cx Q ⟨setA fr t (.bool true), mem⟩) (h2 : b = false → AW P nt n0 cy Q ⟨setA fr t (.bool false), mem⟩) :
    AW P nt n0 (.cond (.tmp t) cx cy) Q ⟨fr, mem⟩ :=
  AW_if hb (fun e => by have := h1 e; subst e; rwa [setA_same hb] at this) (fun e => by have := h2 e; subst e; rwa [setA_same hb] at this)

theorem evp {o : Oper} (hg : o.guard = none) {rds : List Rd} {wrs : List Wr}
    (h1 : ∀ (k : K2) (kp : AV → List Wr → Prop), k rds wrs → perfP P nt rest o ⟨fr, mem⟩ k kp) (h : evalOps P nt all rest (St.puts ⟨fr, mem⟩ wrs) (mkFp rds wrs :: acc) K KP) :
    evalOps P nt all (o :: rest) ⟨fr, mem⟩ acc K KP := by
  unfold evalOps
  unfold guardP
  rw [hg]
  exact h1 _ _ h
theorem ev_pickT (hc : St.ev ⟨fr, mem⟩ c = some (.bool true)) (hx : St.ev ⟨fr, mem⟩ x = some v) (hd : Nat.blt d nt = true) (h : evalOps P nt all rest ⟨setA fr d v.ro, mem⟩ (⟨rdLocs (rdOf c (.bool true) ++ rdOf x v), [(false, d)]⟩ :: acc) K KP) :
    evalOps P nt all (⟨some d, .pick c x y, ty, pos, aft, none⟩ :: rest) ⟨fr, mem⟩ acc K KP :=
  evp rfl (rds := rdOf c (.bool true) ++ rdOf x v) (wrs := [Wr.s d (some v.ro)]) (fun k kp hk => by
    simp only [perfP, hc, pickK, hx]
    exact ⟨fun _ => ⟨by simpa using hd, hk⟩, fun e => by cases e⟩) h
theorem ev_pickF (hc : St.ev ⟨fr, mem⟩ c = some (.bool false)) (hx : St.ev ⟨fr, mem⟩ y = some v) (hd : Nat.blt d nt = true) (h : evalOps P nt all rest ⟨setA fr d v.ro, mem⟩ (⟨rdLocs (rdOf c (.bool false) ++ rdOf y v), [(false, d)]⟩ :: acc) K KP) :
    evalOps P nt all (⟨some d, .pick c x y, ty, pos, aft, none⟩ :: rest) ⟨fr, mem⟩ acc K KP :=
  evp rfl (rds := rdOf c (.bool false) ++ rdOf y v) (wrs := [Wr.s d (some v.ro)]) (fun k kp hk => by
    simp only [perfP, hc, pickK, hx]
    exact ⟨(fun e => by cases e), fun _ => ⟨by simpa using hd, hk⟩⟩) h

/-- A function's call. -/
theorem ev_call {f : Operand} {args : Array Operand} {ats : Array TypeId} {dst : Option Nat} {n : FuncId} {first cap avs args' : List AV} {fp : List Nat} {objs mem0 mem' mem'' : List (List AV)} {v' : AV}
    (hf : St.ev ⟨fr, mem⟩ f = some (.func n first cap)) (ha : St.evs ⟨fr, mem⟩ args.toList = some avs) (hfp : reach mem (AV.roL (first ++ avs ++ cap)) = fp) (ho : objsOf mem fp = some objs)
    (hw1 : within fp (AV.ptrsL (AV.roL (first ++ avs ++ cap)))) (hw2 : within fp (ptrsM objs)) (hargs : AV.renL (toCallee fp) (AV.roL (first ++ avs ++ cap)) = args') (hobjs : renM (toCallee fp) objs = mem0)
    (hc : Ctr P n args' mem0 (.ret v) mem') (hv : allLt mem'.length v.ptrs) (hm : allLt mem'.length (ptrsM mem')) (hd : dstLt nt dst) (hv' : v.ren (toCaller fp mem.length) = v') (hm' : renM (toCaller fp mem.length) mem' = mem'')
    (h : evalOps P nt all rest (St.puts ⟨fr, mem⟩ (wrsObjs mem.length fp mem'' ++ dstW dst v')) (mkFp (rdOf f (.func n first cap) ++ rdsOf args.toList avs ++ (rdsObjs fp objs ++ newRds mem.length (mem'.length - fp.length))) (wrsObjs mem.length fp mem'' ++ dstW dst v') :: acc) K KP) :
    evalOps P nt all (⟨dst, .call { callee := .value f, args := args, argTypes := ats }, ty, pos, aft, none⟩ :: rest) ⟨fr, mem⟩ acc K KP :=
  evp rfl (fun k kp hk => by
    simp only [perfP, hf, ha, hfp, ho, hargs, hobjs]
    refine ⟨⟨hw1, hw2⟩, CallK_intro hc ⟨⟨⟨hv, hm⟩, hd⟩, ?_⟩⟩
    rw [hm', hv']
    exact hk) h

/-! Addresses, operators. -/
theorem ev_fieldAddr {places : List (Nat × Nat)} {f off sz : Nat} (ht : tdOf P s = some (.struct places)) (hx : St.ev ⟨fr, mem⟩ x = some v) (hf : places[f]? = some (off, sz)) (hr : addPtr off v = some r) (hsz : Nat.blt 0 sz = true) (hd : Nat.blt d nt = true)
    (h : evalOps P nt all rest ⟨setA fr d r, mem⟩ (⟨rdLocs (rdOf x v), [(false, d)]⟩ :: acc) K KP) :
    evalOps P nt all (⟨some d, .fieldAddr s x f, ty, pos, aft, none⟩ :: rest) ⟨fr, mem⟩ acc K KP :=
  ev_step rfl (fun _ _ _ h => by cases h) (fun _ _ _ h => by cases h) (rds := rdOf x v) (wrs := [Wr.s d (some r)])
    (fun k hk => by simp only [stepOp, xNew, xNewA, oldOp, stFieldAddr, ht, hx, hf, hr]; exact ⟨⟨by simpa using hd, by simp at hsz; omega⟩, hk⟩) h
theorem ev_indexL {i : Operand} {e : TypeId} {te : TI} {own : Option Nat} {xs : List (List AV)} {kd : IntKind} {n : Int} {yy : List AV} (ht : tdOf P t = some (.slice e)) (he : tiOf P e = some te) (hx : St.ev ⟨fr, mem⟩ x = some (.list own xs)) (hi : St.ev ⟨fr, mem⟩ i = some (.int kd n))
    (hd : Nat.blt d nt = true) (h0 : 0 ≤ n) (hy : xs[n.toNat]? = some yy) (hl : yy.length = te.size)
    (h : evalOps P nt all rest ⟨setA fr d (.eptr yy 0), mem⟩ (⟨rdLocs (rdOf x (.list own xs) ++ rdOf i (.int kd n)), [(false, d)]⟩ :: acc) K KP) :
    evalOps P nt all (⟨some d, .indexAddr t x i, ty, pos, aft, none⟩ :: rest) ⟨fr, mem⟩ acc K KP :=
  ev_step rfl (fun _ _ _ h => by cases h) (fun _ _ _ h => by cases h) (rds := rdOf x (.list own xs) ++ rdOf i (.int kd n)) (wrs := [Wr.s d (some (.eptr yy 0))])
    (fun k hk => by
      have hxn : xNew P nt ⟨some d, .indexAddr t x i, ty, pos, aft, none⟩ ⟨fr, mem⟩ = none := by
        have h1 : nIndexM P nt (some d) t x i ⟨fr, mem⟩ = none := by simp only [nIndexM, ht, hx, hi]
        simp only [xNew, h1]
        cases x with
        | global g => cases hx
        | tmp _ => rfl
        | const _ => rfl
        | func _ => rfl
      simp only [stepOp, hxn, oldOp, stIndexAddr, ht, hx, hi, he, hy]; exact ⟨⟨⟨by simpa using hd, hl⟩, h0⟩, hk⟩) h
theorem ev_indexM {i : Operand} {e : TypeId} {te : TI} {q off len sz : Nat} {kd : IntKind} {n : Int} (ht : tdOf P t = some (.slice e)) (he : tiOf P e = some te) (hx : St.ev ⟨fr, mem⟩ x = some (.msl q off len sz)) (hi : St.ev ⟨fr, mem⟩ i = some (.int kd n))
    (hd : Nat.blt d nt = true) (hs : Nat.beq te.size sz = true) (h0 : 0 ≤ n) (hl : n < len)
    (h : evalOps P nt all rest ⟨setA fr d (.ptr q (off + n.toNat * sz)), mem⟩ (⟨rdLocs (rdOf x (.msl q off len sz) ++ rdOf i (.int kd n)), [(false, d)]⟩ :: acc) K KP) :
    evalOps P nt all (⟨some d, .indexAddr t x i, ty, pos, aft, none⟩ :: rest) ⟨fr, mem⟩ acc K KP :=
  ev_step rfl (fun _ _ _ h => by cases h) (fun _ _ _ h => by cases h) (rds := rdOf x (.msl q off len sz) ++ rdOf i (.int kd n)) (wrs := [Wr.s d (some (.ptr q (off + n.toNat * sz)))])
    (fun k hk => by
      have h1 : nIndexM P nt (some d) t x i ⟨fr, mem⟩ = some (lt d nt && (Nat.beq te.size sz && (decide (0 ≤ n) && decide (n < len))), rdOf x (.msl q off len sz) ++ rdOf i (.int kd n), [Wr.s d (some (.ptr q (off + n.toNat * sz)))]) := by simp only [nIndexM, ht, hx, hi, he]
      simp only [stepOp, xNew, h1]; exact ⟨by simp only [lt, hd, hs, h0, hl, decide_true, Bool.and_self], hk⟩) h
theorem ev_bin {op : BinOp} {t' : TypeId} (hx : St.ev ⟨fr, mem⟩ x = some u) (hy : St.ev ⟨fr, mem⟩ y = some v) (hr : binAV op u v = some r) (hd : Nat.blt d nt = true)
    (h : evalOps P nt all rest ⟨setA fr d r, mem⟩ (⟨rdLocs (rdOf x u ++ rdOf y v), [(false, d)]⟩ :: acc) K KP) :
    evalOps P nt all (⟨some d, .binOp op t x y t', ty, pos, aft, none⟩ :: rest) ⟨fr, mem⟩ acc K KP :=
  ev_step rfl (fun _ _ _ h => by cases h) (fun _ _ _ h => by cases h) (rds := rdOf x u ++ rdOf y v) (wrs := [Wr.s d (some r)])
    (fun k hk => by
      have hnoteq : xNew P nt ⟨some d, .binOp op t x y t', ty, pos, aft, none⟩ ⟨fr, mem⟩ = none := by
        have hz : nEqNil P nt (some d) op t x ⟨fr, mem⟩ = none ∨ y ≠ .const (.slice none 0 0) := by
          by_cases hc : y = .const (.slice none 0 0)
          · subst hc
            have : v = .nilsl := by injection hy with hy; exact hy.symm
            subst this
            cases u <;> cases hr
          · exact .inr hc
        have h2 : nEq P nt (some d) op t x y ⟨fr, mem⟩ = none := by
          cases u <;> cases v <;> first | (cases hr; done) | (simp only [nEq, hx, hy])
        rcases hz with hz | hz
        · simp only [xNew]
          split <;> first | (rename_i hh; cases hh; done) | skip
          · rename_i hh; cases hh; exact hz
          · simp only [xNewA]; exact h2
        · simp only [xNew]
          split <;> first | (rename_i hh; cases hh; done) | skip
          · rename_i hh; cases hh; exact absurd rfl hz
          · simp only [xNewA]; exact h2
      simp only [stepOp, hnoteq, oldOp, stBinOp, hx, hy]
      cases u <;> cases v <;> first | (cases hr; done) | (simp only [hr]; exact ⟨by simpa using hd, hk⟩)) h
theorem ev_add {t' : TypeId} {a b : Int} (hx : St.ev ⟨fr, mem⟩ x = some (.int .i64 a)) (hy : St.ev ⟨fr, mem⟩ y = some (.int .i64 b)) (hd : Nat.blt d nt = true) (h1 : -9223372036854775808 ≤ a + b) (h2 : a + b ≤ 9223372036854775807)
    (h : evalOps P nt all rest ⟨setA fr d (.int .i64 (a + b)), mem⟩ (⟨rdLocs (rdOf x (.int .i64 a) ++ rdOf y (.int .i64 b)), [(false, d)]⟩ :: acc) K KP) :
    evalOps P nt all (⟨some d, .binOp .add t x y t', ty, pos, aft, none⟩ :: rest) ⟨fr, mem⟩ acc K KP :=
  ev_bin hx hy (by simp only [binAV, binInt, if_true]; rw [IntKind.wrap_i64]; congr 2; omega) hd h
theorem ev_sub {t' : TypeId} {a b : Int} (hx : St.ev ⟨fr, mem⟩ x = some (.int .i64 a)) (hy : St.ev ⟨fr, mem⟩ y = some (.int .i64 b)) (hd : Nat.blt d nt = true) (h1 : -9223372036854775808 ≤ a - b) (h2 : a - b ≤ 9223372036854775807)
    (h : evalOps P nt all rest ⟨setA fr d (.int .i64 (a - b)), mem⟩ (⟨rdLocs (rdOf x (.int .i64 a) ++ rdOf y (.int .i64 b)), [(false, d)]⟩ :: acc) K KP) :
    evalOps P nt all (⟨some d, .binOp .sub t x y t', ty, pos, aft, none⟩ :: rest) ⟨fr, mem⟩ acc K KP :=
  ev_bin hx hy (by simp only [binAV, binInt, if_true]; rw [IntKind.wrap_i64]; congr 2; omega) hd h
theorem ev_not (hx : St.ev ⟨fr, mem⟩ x = some u) {op : UnOp} (hr : unAV op u = some r) (hd : Nat.blt d nt = true)
    (h : evalOps P nt all rest ⟨setA fr d r, mem⟩ (⟨rdLocs (rdOf x u), [(false, d)]⟩ :: acc) K KP) :
    evalOps P nt all (⟨some d, .unOp op t x, ty, pos, aft, none⟩ :: rest) ⟨fr, mem⟩ acc K KP :=
  ev_step rfl (fun _ _ _ h => by cases h) (fun _ _ _ h => by cases h) (rds := rdOf x u) (wrs := [Wr.s d (some r)])
    (fun k hk => by simp only [stepOp, xNew, xNewA, oldOp, stUnOp, hx, hr]; exact ⟨by simpa using hd, hk⟩) h
end
end Go.Aw
end
section
set_option linter.unusedVariables false
set_option linter.unusedSimpArgs false
namespace Go.Aw
section
variable {P : Program} [GT P] {nt n0 : Nat} {all rest : List Oper} {fr : List (Nat × AV)} {mem : List (List AV)} {acc : List Fp} {K : List Fp → St → Prop} {KP : List Fp → AV → St → Prop}
  {ty : TypeId} {pos : String} {aft : Array Edge} {d s t e : Nat} {v u r : AV} {x y c : Operand} {Q : AEx → St → Prop}

theorem isSliceT_of (ht : tdOf P t = some (.slice e)) : isSliceT P t = true := by unfold isSliceT; rw [ht]

theorem ev_lenL {own : Option Nat} {xs : List (List AV)} (ht : tdOf P t = some (.slice e)) (hx : St.ev ⟨fr, mem⟩ x = some (.list own xs)) (hd : Nat.blt d nt = true)
    (h : evalOps P nt all rest ⟨setA fr d (.int .i64 xs.length), mem⟩ (⟨rdLocs (rdOf x (.list own xs)), [(false, d)]⟩ :: acc) K KP) :
    evalOps P nt all (⟨some d, .call { callee := .builtin .len, args := #[x], argTypes := #[t] }, ty, pos, aft, none⟩ :: rest) ⟨fr, mem⟩ acc K KP :=
  ev_step rfl (fun _ _ _ h => by cases h) (fun _ _ _ h => by cases h) (rds := rdOf x (.list own xs)) (wrs := [Wr.s d (some (.int .i64 xs.length))])
    (fun k hk => by
      have h1 : nLenM P nt (some d) #[t] x ⟨fr, mem⟩ = none := by
        show (match some d, #[t][0]?, St.ev ⟨fr, mem⟩ x with | some d, some t, some (.msl q off len sz) => _ | some d, some t, some .nilsl => _ | _, _, _ => none) = none
        rw [hx]; rfl
      simp only [stepOp, xNew, h1, oldOp, stLen, hx]
      exact ⟨⟨by simpa using hd, e, ht⟩, hk⟩) h
theorem ev_lenM {q off len sz : Nat} (ht : tdOf P t = some (.slice e)) (hx : St.ev ⟨fr, mem⟩ x = some (.msl q off len sz)) (hd : Nat.blt d nt = true)
    (h : evalOps P nt all rest ⟨setA fr d (.int .i64 len), mem⟩ (⟨rdLocs (rdOf x (.msl q off len sz)), [(false, d)]⟩ :: acc) K KP) :
    evalOps P nt all (⟨some d, .call { callee := .builtin .len, args := #[x], argTypes := #[t] }, ty, pos, aft, none⟩ :: rest) ⟨fr, mem⟩ acc K KP :=
  ev_step rfl (fun _ _ _ h => by cases h) (fun _ _ _ h => by cases h) (rds := rdOf x (.msl q off len sz)) (wrs := [Wr.s d (some (.int .i64 len))])
    (fun k hk => by
      have h1 : nLenM P nt (some d) #[t] x ⟨fr, mem⟩ = some (lt d nt && isSliceT P t, rdOf x (.msl q off len sz), [Wr.s d (some (.int .i64 len))]) := by
        unfold nLenM; rw [hx]; rfl
      simp only [stepOp, xNew, h1]
      exact ⟨by simp only [lt, hd, isSliceT_of ht, Bool.and_self], hk⟩) h
theorem ev_lenN (ht : tdOf P t = some (.slice e)) (hx : St.ev ⟨fr, mem⟩ x = some .nilsl) (hd : Nat.blt d nt = true)
    (h : evalOps P nt all rest ⟨setA fr d (.int .i64 0), mem⟩ (⟨rdLocs (rdOf x .nilsl), [(false, d)]⟩ :: acc) K KP) :
    evalOps P nt all (⟨some d, .call { callee := .builtin .len, args := #[x], argTypes := #[t] }, ty, pos, aft, none⟩ :: rest) ⟨fr, mem⟩ acc K KP :=
  ev_step rfl (fun _ _ _ h => by cases h) (fun _ _ _ h => by cases h) (rds := rdOf x .nilsl) (wrs := [Wr.s d (some (.int .i64 0))])
    (fun k hk => by
      have h1 : nLenM P nt (some d) #[t] x ⟨fr, mem⟩ = some (lt d nt && isSliceT P t, rdOf x .nilsl, [Wr.s d (some (.int .i64 0))]) := by
        unfold nLenM; rw [hx]; rfl
      simp only [stepOp, xNew, h1]
      exact ⟨by simp only [lt, hd, isSliceT_of ht, Bool.and_self], hk⟩) h
theorem ev_lenS {b : ByteArray} (ht : tdOf P t = some .string) (hx : St.ev ⟨fr, mem⟩ x = some (.str b)) (hd : Nat.blt d nt = true)
    (h : evalOps P nt all rest ⟨setA fr d (.int .i64 b.size), mem⟩ (⟨rdLocs (rdOf x (.str b)), [(false, d)]⟩ :: acc) K KP) :
    evalOps P nt all (⟨some d, .call { callee := .builtin .len, args := #[x], argTypes := #[t] }, ty, pos, aft, none⟩ :: rest) ⟨fr, mem⟩ acc K KP :=
  ev_step rfl (fun _ _ _ h => by cases h) (fun _ _ _ h => by cases h) (rds := rdOf x (.str b)) (wrs := [Wr.s d (some (.int .i64 b.size))])
    (fun k hk => by
      have h1 : nLenM P nt (some d) #[t] x ⟨fr, mem⟩ = none := by
        unfold nLenM; rw [hx]; rfl
      simp only [stepOp, xNew, h1, oldOp, stLen, hx]
      exact ⟨⟨by simpa using hd, ht⟩, hk⟩) h

/-- An append to what is owned. -/
theorem ev_append {tx : TypeId} {te : TI} {xs ys : List (List AV)} {fr' : List (Nat × AV)} (ht : tdOf P t = some (.slice e)) (he : tiOf P e = some te) (hs : getA fr s = some v) (hx : St.ev ⟨fr, mem⟩ x = some u) (hne : v ≠ .nils ∨ GT.mutT P t = false) (hnl : v ≠ .nilsl ∨ GT.mutN P t = false) (hu : srcEls u = some ys) (hv : dstEls te.size v = some xs)
    (hd : Nat.blt d nt = true) (hsd : s ≠ d) (h0 : 0 < te.size) (hk : srcKind P te.size tx u) (hys : allLen te.size ys) (hb : (xs.length + ys.length) * te.bytes ≤ 140737488355328) (h63 : xs.length + ys.length ≤ 9223372036854775807)
    (hfr : setA (setA fr s (.list none xs)) d (.list (some te.size) (xs ++ ys)) = fr') (h : evalOps P nt all rest ⟨fr', mem⟩ (⟨rdLocs ([Rd.s s v] ++ rdOf x u), [(false, s), (false, d)]⟩ :: acc) K KP) :
    evalOps P nt all (⟨some d, .call { callee := .builtin .append, args := #[.tmp s, x], argTypes := #[t, tx] }, ty, pos, aft, none⟩ :: rest) ⟨fr, mem⟩ acc K KP :=
  ev_step rfl (fun _ _ _ h => by cases h) (fun _ _ _ h => by cases h) (rds := [Rd.s s v] ++ rdOf x u) (wrs := [Wr.s s (some (.list none xs)), Wr.s d (some (.list (some te.size) (xs ++ ys)))])
    (fun k hkk => by
      have h1 : nAppendM P nt (some d) t tx s x ⟨fr, mem⟩ = none := by
        unfold nAppendM
        simp only [ht, hs, hx, he, hu]
        cases v <;> first | rfl | (cases hv; done) | skip
        · rcases hne with hh | hh
          · exact absurd rfl hh
          · simp [hh]
        · rcases hnl with hh | hh
          · exact absurd rfl hh
          · simp [hh]
      simp only [stepOp, xNew, h1, oldOp, stAppend, ht, hs, hx, he, hu, hv]
      exact ⟨⟨⟨⟨by simpa using hd, hsd⟩, h0, hk⟩, hys, hb, h63⟩, hkk⟩) (by rw [← hfr] at h; exact h)
theorem ev_extract {i : Nat} {vs : List AV} (hs : getA fr s = some (.tup vs)) (hv : vs[i]? = some v) (hd : Nat.blt d nt = true) (hc : (owns v && s != d) = false)
    (h : evalOps P nt all rest ⟨setA fr d v.ro, mem⟩ (⟨[(false, s)], [(false, d)]⟩ :: acc) K KP) :
    evalOps P nt all (⟨some d, .extract (.tmp s) i, ty, pos, aft, none⟩ :: rest) ⟨fr, mem⟩ acc K KP :=
  ev_step rfl (fun _ _ _ h => by cases h) (fun _ _ _ h => by cases h) (rds := [Rd.s s (.tup vs)]) (wrs := [Wr.s d (some v.ro)])
    (fun k hk => by
      have hs' : St.ev ⟨fr, mem⟩ (.tmp s) = some (.tup vs) := hs
      simp only [stepOp, xNew, xNewA, oldOp, stExtract, hs', hv]; exact ⟨by simpa using hd, by rw [if_neg (by rw [hc]; simp)]; exact hk⟩) h
theorem ev_extractO {i : Nat} {vs : List AV} (hs : getA fr s = some (.tup vs)) (hv : vs[i]? = some v) (hd : Nat.blt d nt = true) (hc : (owns v && s != d) = true)
    (h : evalOps P nt all rest ⟨setA (setA fr s (AV.tup vs).ro) d v, mem⟩ (⟨[(false, s)], [(false, s), (false, d)]⟩ :: acc) K KP) :
    evalOps P nt all (⟨some d, .extract (.tmp s) i, ty, pos, aft, none⟩ :: rest) ⟨fr, mem⟩ acc K KP :=
  ev_step rfl (fun _ _ _ h => by cases h) (fun _ _ _ h => by cases h) (rds := [Rd.s s (.tup vs)]) (wrs := [Wr.s s (some (AV.tup vs).ro), Wr.s d (some v)])
    (fun k hk => by
      have hs' : St.ev ⟨fr, mem⟩ (.tmp s) = some (.tup vs) := hs
      simp only [stepOp, xNew, xNewA, oldOp, stExtract, hs', hv]; exact ⟨by simpa using hd, by rw [if_pos hc]; exact hk⟩) h
theorem ev_nilCheck (hx : St.ev ⟨fr, mem⟩ x = some v) (hp : isPtr v = true) (hd : Nat.blt d nt = true)
    (h : evalOps P nt all rest ⟨setA fr d v.ro, mem⟩ (⟨rdLocs (rdOf x v), [(false, d)]⟩ :: acc) K KP) :
    evalOps P nt all (⟨some d, .nilCheck x, ty, pos, aft, none⟩ :: rest) ⟨fr, mem⟩ acc K KP :=
  ev_step rfl (fun _ _ _ h => by cases h) (fun _ _ _ h => by cases h) (rds := rdOf x v) (wrs := [Wr.s d (some v.ro)])
    (fun k hk => by simp only [stepOp, xNew, xNewA, oldOp, stNilCheck, hx]; exact ⟨⟨by simpa using hd, hp⟩, hk⟩) h
theorem ev_makeFunc {f : FuncId} {first cap : Array Operand} {fv cv : List AV} (h1 : St.evs ⟨fr, mem⟩ first.toList = some fv) (h2 : St.evs ⟨fr, mem⟩ cap.toList = some cv) (hd : Nat.blt d nt = true)
    (h : evalOps P nt all rest ⟨setA fr d (.func f (AV.roL fv) (AV.roL cv)), mem⟩ (⟨rdLocs (rdsOf first.toList fv ++ rdsOf cap.toList cv), [(false, d)]⟩ :: acc) K KP) :
    evalOps P nt all (⟨some d, .makeFunc (.func f) first cap, ty, pos, aft, none⟩ :: rest) ⟨fr, mem⟩ acc K KP :=
  ev_step rfl (fun _ _ _ h => by cases h) (fun _ _ _ h => by cases h) (rds := rdsOf first.toList fv ++ rdsOf cap.toList cv) (wrs := [Wr.s d (some (.func f (AV.roL fv) (AV.roL cv)))])
    (fun k hk => by simp only [stepOp, xNew, xNewA, oldOp, stMakeFunc, h1, h2]; exact ⟨by simpa using hd, hk⟩) h
theorem ev_makeIface {td : TD} (ht : tdOf P t = some td) (hne : td ≠ .iface) (hx : St.ev ⟨fr, mem⟩ x = some v) (hd : Nat.blt d nt = true)
    (h : evalOps P nt all rest ⟨setA fr d (.iface t v.ro), mem⟩ (⟨rdLocs (rdOf x v), [(false, d)]⟩ :: acc) K KP) :
    evalOps P nt all (⟨some d, .makeInterface t x, ty, pos, aft, none⟩ :: rest) ⟨fr, mem⟩ acc K KP :=
  ev_step rfl (fun _ _ _ h => by cases h) (fun _ _ _ h => by cases h) (rds := rdOf x v) (wrs := [Wr.s d (some (.iface t v.ro))])
    (fun k hk => by
      simp only [stepOp, xNew, xNewA, oldOp, stMakeInterface, ht, hx]
      cases td <;> first | exact absurd rfl hne | exact ⟨by simpa using hd, hk⟩) h
theorem ev_build {parts : Array (Nat × Operand)} {ti : TI} {vs res r2 : List AV} {pl : Nat → Option (Nat × Nat)} {ps : List (Nat × AV)} (ht : tiOf P t = some ti) (hvs : St.evs ⟨fr, mem⟩ (parts.toList.map (·.2)) = some vs) (hpl : placeTD P ti.d = some pl) (hps : pairAV parts.toList vs = some ps)
    (hr : fillAV pl ti.zero ps = some res) (hr2 : AV.roL res = r2) (hnt : vs.all notTup = true) (hd : Nat.blt d nt = true)
    (h : evalOps P nt all rest ⟨setA fr d (.agg r2), mem⟩ (⟨rdLocs (rdsOf (parts.toList.map (·.2)) vs), [(false, d)]⟩ :: acc) K KP) :
    evalOps P nt all (⟨some d, .build t parts, ty, pos, aft, none⟩ :: rest) ⟨fr, mem⟩ acc K KP :=
  ev_step rfl (fun _ _ _ h => by cases h) (fun _ _ _ h => by cases h) (rds := rdsOf (parts.toList.map (fun q : Nat × Operand => q.2)) vs) (wrs := [Wr.s d (some (.agg r2))])
    (fun k hk => by simp only [stepOp, xNew, xNewA, oldOp, stBuild, ht, hvs, hpl, hps, hr, hr2]; exact ⟨⟨by simpa using hd, hnt⟩, hk⟩) h
/-- A literal slice of one thing at least. -/
theorem ev_buildSlice {parts : Array (Nat × Operand)} {n : Nat} {te : TI} {vs res : List AV} {rows : List (List AV)} {ps : List (Nat × AV)} (ht : tdOf P t = some (.slice e)) (he : tiOf P e = some te) (hvs : St.evs ⟨fr, mem⟩ (parts.toList.map (·.2)) = some vs) (hps : pairAV parts.toList vs = some ps)
    (hr : fillAV (fun j => some (j * te.size, te.size)) (repl te.zero (n + 1)) ps = some res) (hn : Nat.ble ((n + 1) * te.size) 16777216 = true) (hnt : vs.all notTup = true) (hda : res.all AV.data = true) (hrw : chunks te.size (AV.roL res) (n + 1) = rows) (hd : Nat.blt d nt = true)
    (h : evalOps P nt all rest ⟨setA fr d (.list (some te.size) rows), mem⟩ (⟨rdLocs (rdsOf (parts.toList.map (·.2)) vs), [(false, d)]⟩ :: acc) K KP) :
    evalOps P nt all (⟨some d, .buildSlice t (n + 1) parts, ty, pos, aft, none⟩ :: rest) ⟨fr, mem⟩ acc K KP :=
  ev_step rfl (fun _ _ _ h => by cases h) (fun _ _ _ h => by cases h) (rds := rdsOf (parts.toList.map (fun q : Nat × Operand => q.2)) vs) (wrs := [Wr.s d (some (.list (some te.size) rows))])
    (fun k hk => by
      have h1 : nBuildSlice P nt (some d) t (n + 1) parts ⟨fr, mem⟩ = none := by
        unfold nBuildSlice
        split
        · rename_i h3 h4 h5
          rw [ht] at h4; injection h4 with h4; injection h4 with h4; subst h4
          rw [hvs] at h5; injection h5 with h5; subst h5
          rw [he, hps]
          simp only [hr]
        · rfl
      simp only [stepOp, xNew, h1, xNewA, oldOp, stBuildSlice, ht, he, hvs, hps, hr, hrw]; exact ⟨⟨⟨by simpa using hd, by simpa using hn⟩, hnt, hda⟩, hk⟩) h
/-- A literal slice of nothing, of a type whose slices are objects. -/
theorem ev_buildSlice0 {te : TI} (hm : GT.mutT P t = true) (ht : tdOf P t = some (.slice e)) (he : tiOf P e = some te) (hd : Nat.blt d nt = true)
    (h : evalOps P nt all rest ⟨setA fr d .nils, mem⟩ (⟨[], [(false, d)]⟩ :: acc) K KP) :
    evalOps P nt all (⟨some d, .buildSlice t 0 #[], ty, pos, aft, none⟩ :: rest) ⟨fr, mem⟩ acc K KP :=
  ev_step rfl (fun _ _ _ h => by cases h) (fun _ _ _ h => by cases h) (rds := []) (wrs := [Wr.s d (some .nils)])
    (fun k hk => by
      have h1 : nBuildSlice P nt (some d) t 0 #[] ⟨fr, mem⟩ = some (lt d nt && true, [], [Wr.s d (some .nils)]) := by
        have e1 : St.evs ⟨fr, mem⟩ ((#[] : Array (Nat × Operand)).toList.map (fun q : Nat × Operand => q.2)) = some [] := rfl
        have e2 : pairAV (#[] : Array (Nat × Operand)).toList [] = some [] := rfl
        unfold nBuildSlice
        simp only [hm, ht, e1, he, e2, fillAV]
        rfl
      simp only [stepOp, xNew, h1]
      exact ⟨by simp only [lt, hd, Bool.and_self], hk⟩) h
theorem ev_convI {ss : TypeId} {tds : TD} {kd k' : IntKind} {n : Int} (hs : tdOf P ss = some tds) (ht : tdOf P t = some (.int kd)) (hx : St.ev ⟨fr, mem⟩ x = some (.int k' n)) (hd : Nat.blt d nt = true)
    (h : evalOps P nt all rest ⟨setA fr d (.int kd (kd.wrap n)), mem⟩ (⟨rdLocs (rdOf x (.int k' n)), [(false, d)]⟩ :: acc) K KP) :
    evalOps P nt all (⟨some d, .convert ss t x, ty, pos, aft, none⟩ :: rest) ⟨fr, mem⟩ acc K KP :=
  ev_step rfl (fun _ _ _ h => by cases h) (fun _ _ _ h => by cases h) (rds := rdOf x (.int k' n)) (wrs := [Wr.s d (some (.int kd (kd.wrap n)))])
    (fun k hk => by simp only [stepOp, xNew, xNewA, oldOp, stConvert, hs, ht, hx]; exact ⟨by simpa using hd, hk⟩) h
end
end Go.Aw
end
section
set_option linter.unusedVariables false
set_option linter.unusedSimpArgs false
namespace Go.Aw
/-- Of a frame these slots. -/
def keepA (fr : List (Nat × AV)) : List Nat → List (Nat × AV)
  | [] => []
  | d :: r => match getA fr d with
    | some v => (d, v) :: keepA fr r
    | none => keepA fr r
theorem keepA_get {fr : List (Nat × AV)} : ∀ {ks : List Nat} {d : Nat} {v : AV}, getA (keepA fr ks) d = some v → getA fr d = some v
  | [], _, _, h => by cases h
  | k :: r, d, v, h => by
    simp only [keepA] at h
    split at h
    · rename_i u hu
      simp only [getA] at h
      split at h
      · rename_i he; subst he; rw [hu]; exact h
      · exact keepA_get h
    · exact keepA_get h
section
variable {P : Program} [GT P] {nt n0 : Nat} {Q : AEx → St → Prop} {fr fr' : List (Nat × AV)} {mem mem' : List (List AV)}
theorem AW_keep {c : Code} (ks : List Nat) (hfr : keepA fr ks = fr') (hm : mem = mem') (h : AW P nt n0 c Q ⟨fr', mem'⟩) : AW P nt n0 c Q ⟨fr, mem⟩ := by
  subst hm; subst hfr
  intro Γ a w hnt hn hrel
  refine h Γ a w hnt hn ?_
  obtain ⟨R, ι, ω, hr, hdom⟩ := hrel
  exact ⟨R, ι, ω, hr.less (fun d v hv => ⟨v, keepA_get hv, .refl _⟩), hdom⟩
/-- Pointers stay within the memory. -/
structure PtrOk (n0 : Nat) (st : St) : Prop where
  n0 : n0 ≤ st.mem.length
  p1 : allLt st.mem.length (frPtrs st.fr)
  p2 : allLt st.mem.length (ptrsM st.mem)
theorem leFr_keep {fr : List (Nat × AV)} : ∀ {ks : List Nat}, leFr fr (keepA fr ks)
  | [] => trivial
  | k :: r => by
    simp only [keepA]
    split
    · rename_i u hu
      exact ⟨by rw [hu]; exact .refl _, leFr_keep⟩
    · exact leFr_keep
/-- Round the loop once more. -/
theorem loop_on {T : Type} {Inv : T → Prop} {I : T → St} {μ : T → Nat} {t t' : T} {ks : List Nat} (hi : Inv t') (hm : μ t' < μ t) (hfr : keepA fr ks = (I t').fr) (hmem : mem = (I t').mem) (hp : PtrOk n0 (I t')) :
    loopQ n0 Inv I μ t Q .normal ⟨fr, mem⟩ := by
  refine ⟨t', hi, hm, ⟨?_, ?_, hp.n0, hp.p1, hp.p2⟩⟩
  · rw [← hfr]; exact leFr_keep
  · rw [← hmem]; exact leMem_refl _
/-- A loop, begun where its relation holds. -/
theorem AW_loopk {c : Code} {T : Type} (Inv : T → Prop) (I : T → St) (μ : T → Nat) (t0 : T) (ks : List Nat) (h0 : Inv t0) (hfr : keepA fr ks = (I t0).fr) (hmem : mem = (I t0).mem) (hp : PtrOk n0 (I t0))
    (round : ∀ t, Inv t → AW P nt n0 c (loopQ n0 Inv I μ t Q) (I t)) : AW P nt n0 (.loop c) Q ⟨fr, mem⟩ :=
  AW_loop Inv I μ t0 h0 ⟨by rw [← hfr]; exact leFr_keep, by rw [← hmem]; exact leMem_refl _, hp.n0, hp.p1, hp.p2⟩ round
theorem leFr_cons {fr r : List (Nat × AV)} {d : Nat} {u v : AV} (h : getA fr d = some u) (hw : Wk u v) (hr : leFr fr r) : leFr fr ((d, v) :: r) := ⟨by rw [h]; exact hw, hr⟩
theorem AW_loopw {c : Code} {T : Type} (Inv : T → Prop) (I : T → St) (μ : T → Nat) (t0 : T) (h0 : Inv t0) (hfr : leFr fr (I t0).fr) (hmem : mem = (I t0).mem) (hp : PtrOk n0 (I t0))
    (round : ∀ t, Inv t → AW P nt n0 c (loopQ n0 Inv I μ t Q) (I t)) : AW P nt n0 (.loop c) Q ⟨fr, mem⟩ :=
  AW_loop Inv I μ t0 h0 ⟨hfr, by rw [← hmem]; exact leMem_refl _, hp.n0, hp.p1, hp.p2⟩ round
theorem loop_onw {T : Type} {Inv : T → Prop} {I : T → St} {μ : T → Nat} {t t' : T} (hi : Inv t') (hm : μ t' < μ t) (hfr : leFr fr (I t').fr) (hmem : mem = (I t').mem) (hp : PtrOk n0 (I t')) :
    loopQ n0 Inv I μ t Q .normal ⟨fr, mem⟩ :=
  ⟨t', hi, hm, ⟨hfr, by rw [← hmem]; exact leMem_refl _, hp.n0, hp.p1, hp.p2⟩⟩
theorem end_ret {rs : List ResultVar} {u v : AV} {e : AEx} (he : e = .ret ∨ e = .normal) (hr : resAV P ⟨fr, mem⟩ rs = some u) (hw : Wk u v) (hm : leMem mem mem') (hn : n0 ≤ mem'.length) : endQ P rs n0 (.ret v) mem' e ⟨fr, mem⟩ := by
  rcases he with rfl | rfl
  · exact ⟨by rw [hr]; exact hw, hm, hn⟩
  · exact ⟨by rw [hr]; exact hw, hm, hn⟩
end
end Go.Aw
end
