/-
  A part of the proof of SideOrderCardSaid (see the last text, Om): no statement of its own, no condition.
-/
import Derived.Test.YtchgjamonjfjhaaGreatDoorSa
set_option linter.unusedSimpArgs false
set_option linter.unusedVariables false
section
set_option linter.unusedVariables false
set_option linter.unusedSimpArgs false
namespace Go.Aw
/-! ### Frames in which the last word counts -/
theorem getA_cons (d : Nat) (v : AV) (l : List (Nat × AV)) (t : Nat) : getA ((d, v) :: l) t = if t = d then some v else getA l t := by
  simp only [getA]
  by_cases h : d = t
  · rw [if_pos h, if_pos h.symm]
  · rw [if_neg h, if_neg (fun e => h e.symm)]
/-- A frame behind an operation that was passed over. -/
def skFr (dst : Option Nat) (fr : List (Nat × AV)) : List (Nat × AV) := match dst with
  | some t => (t, .tup []) :: fr
  | none => fr
/-- Whatever frame reads as this one. -/
def EVc (P : Program) [GT P] (nt : Nat) (all rest : List Oper) (fr : List (Nat × AV)) (mem : List (List AV)) (acc : List Fp) (K : List Fp → St → Prop) (KP : List Fp → AV → St → Prop) : Prop :=
  ∀ fr0, (∀ t, getA fr0 t = getA fr t) → evalOps P nt all rest ⟨fr0, mem⟩ acc K KP
theorem ev_congr {fr0 fr : List (Nat × AV)} {mem : List (List AV)} (e : ∀ t, getA fr0 t = getA fr t) (x : Operand) : St.ev ⟨fr0, mem⟩ x = St.ev ⟨fr, mem⟩ x := by
  cases x <;> first | rfl | exact e _
theorem evs_congr {fr0 fr : List (Nat × AV)} {mem : List (List AV)} (e : ∀ t, getA fr0 t = getA fr t) : ∀ l : List Operand, St.evs ⟨fr0, mem⟩ l = St.evs ⟨fr, mem⟩ l
  | [] => rfl
  | x :: r => by simp only [St.evs, ev_congr e x, evs_congr e r]
section
variable {P : Program} [GT P] {nt n0 : Nat} {all rest : List Oper} {fr : List (Nat × AV)} {mem : List (List AV)} {acc : List Fp} {K : List Fp → St → Prop} {KP : List Fp → AV → St → Prop}
  {ty : TypeId} {pos : String} {aft : Array Edge} {d s t e : Nat} {v u r : AV} {x y c : Operand} {Q : AEx → St → Prop}
theorem ec_move (hs : getA fr s = some v) (hd : Nat.blt d nt = true) (hc : (consumed rest d && owns v && s != d) = false) (h : EVc P nt all rest ((d, v.ro) :: fr) mem (⟨[(false, s)], [(false, d)]⟩ :: acc) K KP) :
    EVc P nt all (⟨some d, .move (.tmp s), ty, pos, aft, none⟩ :: rest) fr mem acc K KP :=
  fun fr0 e => ev_move ((e _).trans hs) hd hc (h _ (fun t' => by simp only [skFr, getA_setA, getA_cons, e]))
theorem ec_moveO (hs : getA fr s = some v) (hd : Nat.blt d nt = true) (hc : (consumed rest d && owns v && s != d) = true) (h : EVc P nt all rest ((d, v) :: ((s, v.ro) :: fr)) mem (⟨[(false, s)], [(false, s), (false, d)]⟩ :: acc) K KP) :
    EVc P nt all (⟨some d, .move (.tmp s), ty, pos, aft, none⟩ :: rest) fr mem acc K KP :=
  fun fr0 e => ev_moveO ((e _).trans hs) hd hc (h _ (fun t' => by simp only [skFr, getA_setA, getA_cons, e]))
theorem ec_asg (hs : getA fr s = some v) (hd : Nat.blt d nt = true) (hc : (owns v && s != d) = false) (h : EVc P nt all rest ((d, v.ro) :: fr) mem (⟨[(false, s)], [(false, d)]⟩ :: acc) K KP) :
    EVc P nt all (⟨some d, .assign (.tmp s), ty, pos, aft, none⟩ :: rest) fr mem acc K KP :=
  fun fr0 e => ev_asg ((e _).trans hs) hd hc (h _ (fun t' => by simp only [skFr, getA_setA, getA_cons, e]))
theorem ec_asgO (hs : getA fr s = some v) (hd : Nat.blt d nt = true) (hc : (owns v && s != d) = true) (h : EVc P nt all rest ((d, v) :: ((s, v.ro) :: fr)) mem (⟨[(false, s)], [(false, s), (false, d)]⟩ :: acc) K KP) :
    EVc P nt all (⟨some d, .assign (.tmp s), ty, pos, aft, none⟩ :: rest) fr mem acc K KP :=
  fun fr0 e => ev_asgO ((e _).trans hs) hd hc (h _ (fun t' => by simp only [skFr, getA_setA, getA_cons, e]))
theorem ec_moveC {c : Value} (hc : constAV c = some v) (hd : Nat.blt d nt = true) (h : EVc P nt all rest ((d, v) :: fr) mem (⟨[], [(false, d)]⟩ :: acc) K KP) :
    EVc P nt all (⟨some d, .move (.const c), ty, pos, aft, none⟩ :: rest) fr mem acc K KP :=
  fun fr0 e => ev_moveC hc hd (h _ (fun t' => by simp only [skFr, getA_setA, getA_cons, e]))
theorem ec_asgC {c : Value} (hc : constAV c = some v) (hd : Nat.blt d nt = true) (h : EVc P nt all rest ((d, v) :: fr) mem (⟨[], [(false, d)]⟩ :: acc) K KP) :
    EVc P nt all (⟨some d, .assign (.const c), ty, pos, aft, none⟩ :: rest) fr mem acc K KP :=
  fun fr0 e => ev_asgC hc hd (h _ (fun t' => by simp only [skFr, getA_setA, getA_cons, e]))
theorem ec_load {n off : Nat} {obj : List AV} {ti : TI} (hx : St.ev ⟨fr, mem⟩ x = some (.ptr n off)) (ht : tiOf P t = some ti) (hrow : ti.d.row = false) (hn : mem[n]? = some obj) (hv : obj[off]? = some v) (hd : Nat.blt d nt = true) (hc : (consumed rest d && owns v) = false) (h : EVc P nt all rest ((d, v.ro) :: fr) mem (⟨rdLocs (rdOf x (.ptr n off) ++ [Rd.o n obj]), [(false, d)]⟩ :: acc) K KP) :
    EVc P nt all (⟨some d, .load t x, ty, pos, aft, none⟩ :: rest) fr mem acc K KP :=
  fun fr0 e => ev_load ((ev_congr e _).trans hx) ht hrow hn hv hd hc (h _ (fun t' => by simp only [skFr, getA_setA, getA_cons, e]))
theorem ec_loadO {n off : Nat} {obj : List AV} {ti : TI} (hx : St.ev ⟨fr, mem⟩ x = some (.ptr n off)) (ht : tiOf P t = some ti) (hrow : ti.d.row = false) (hn : mem[n]? = some obj) (hv : obj[off]? = some v) (hd : Nat.blt d nt = true) (hc : (consumed rest d && owns v) = true) (h : EVc P nt all rest ((d, v) :: fr) (setM mem n (obj.set off v.ro)) (⟨rdLocs (rdOf x (.ptr n off) ++ [Rd.o n obj]), [(true, n), (false, d)]⟩ :: acc) K KP) :
    EVc P nt all (⟨some d, .load t x, ty, pos, aft, none⟩ :: rest) fr mem acc K KP :=
  fun fr0 e => ev_loadO ((ev_congr e _).trans hx) ht hrow hn hv hd hc (h _ (fun t' => by simp only [skFr, getA_setA, getA_cons, e]))
theorem ec_loadR {n off : Nat} {obj : List AV} {ti : TI} (hx : St.ev ⟨fr, mem⟩ x = some (.ptr n off)) (ht : tiOf P t = some ti) (hrow : ti.d.row = true) (hn : mem[n]? = some obj) (h0 : 0 < ti.size) (hl : off + ti.size ≤ obj.length) (hd : Nat.blt d nt = true) (h : EVc P nt all rest ((d, (.agg (AV.roL ((obj.drop off).take ti.size)))) :: fr) mem (⟨rdLocs (rdOf x (.ptr n off) ++ [Rd.o n obj]), [(false, d)]⟩ :: acc) K KP) :
    EVc P nt all (⟨some d, .load t x, ty, pos, aft, none⟩ :: rest) fr mem acc K KP :=
  fun fr0 e => ev_loadR ((ev_congr e _).trans hx) ht hrow hn h0 hl hd (h _ (fun t' => by simp only [skFr, getA_setA, getA_cons, e]))
theorem ec_loadE {off : Nat} {yy : List AV} {ti : TI} (hx : St.ev ⟨fr, mem⟩ x = some (.eptr yy off)) (ht : tiOf P t = some ti) (hrow : ti.d.row = false) (hv : yy[off]? = some v) (hd : Nat.blt d nt = true) (h : EVc P nt all rest ((d, v) :: fr) mem (⟨rdLocs (rdOf x (.eptr yy off)), [(false, d)]⟩ :: acc) K KP) :
    EVc P nt all (⟨some d, .load t x, ty, pos, aft, none⟩ :: rest) fr mem acc K KP :=
  fun fr0 e => ev_loadE ((ev_congr e _).trans hx) ht hrow hv hd (h _ (fun t' => by simp only [skFr, getA_setA, getA_cons, e]))
theorem ec_loadER {off : Nat} {yy : List AV} {ti : TI} (hx : St.ev ⟨fr, mem⟩ x = some (.eptr yy off)) (ht : tiOf P t = some ti) (hrow : ti.d.row = true) (hl : off + ti.size ≤ yy.length) (hd : Nat.blt d nt = true) (h : EVc P nt all rest ((d, (.agg ((yy.drop off).take ti.size))) :: fr) mem (⟨rdLocs (rdOf x (.eptr yy off)), [(false, d)]⟩ :: acc) K KP) :
    EVc P nt all (⟨some d, .load t x, ty, pos, aft, none⟩ :: rest) fr mem acc K KP :=
  fun fr0 e => ev_loadER ((ev_congr e _).trans hx) ht hrow hl hd (h _ (fun t' => by simp only [skFr, getA_setA, getA_cons, e]))
theorem ec_storeR {n off : Nat} {obj cs : List AV} {ti : TI} (hx : St.ev ⟨fr, mem⟩ x = some (.ptr n off)) (hy : St.ev ⟨fr, mem⟩ y = some (.agg cs)) (ht : tiOf P t = some ti) (hs : ti.size = cs.length) (h0 : 0 < cs.length) (hn : mem[n]? = some obj) (hl : off + cs.length ≤ obj.length) (hp : cs.all AV.plain = true) (h : EVc P nt all rest fr (setM mem n (splice obj off (AV.roL cs))) (⟨rdLocs (rdOf x (.ptr n off) ++ rdOf y (.agg cs) ++ [Rd.o n obj]), [(true, n)]⟩ :: acc) K KP) :
    EVc P nt all (⟨none, .store t x y, ty, pos, aft, none⟩ :: rest) fr mem acc K KP :=
  fun fr0 e => ev_storeR ((ev_congr e _).trans hx) ((ev_congr e _).trans hy) ht hs h0 hn hl hp (h _ (fun t' => by simp only [skFr, getA_setA, getA_cons, e]))
theorem ec_store {n off : Nat} {obj : List AV} {ti : TI} (hx : St.ev ⟨fr, mem⟩ x = some (.ptr n off)) (hy : St.ev ⟨fr, mem⟩ y = some v) (ht : tiOf P t = some ti) (hs : ti.size = 1) (hn : mem[n]? = some obj) (hl : off < obj.length) (hp : v.plain = true) (hc : ownT y v = false) (h : EVc P nt all rest fr (setM mem n (obj.set off v.ro)) (⟨rdLocs (rdOf x (.ptr n off) ++ rdOf y v ++ [Rd.o n obj]), [(true, n)]⟩ :: acc) K KP) :
    EVc P nt all (⟨none, .store t x y, ty, pos, aft, none⟩ :: rest) fr mem acc K KP :=
  fun fr0 e => ev_store ((ev_congr e _).trans hx) ((ev_congr e _).trans hy) ht hs hn hl hp hc (h _ (fun t' => by simp only [skFr, getA_setA, getA_cons, e]))
theorem ec_storeO {n off : Nat} {obj : List AV} {ti : TI} (hx : St.ev ⟨fr, mem⟩ x = some (.ptr n off)) (hy : getA fr s = some v) (ht : tiOf P t = some ti) (hs : ti.size = 1) (hn : mem[n]? = some obj) (hl : off < obj.length) (hp : v.plain = true) (hc : owns v = true) (h : EVc P nt all rest ((s, v.ro) :: fr) (setM mem n (obj.set off v)) (⟨rdLocs (rdOf x (.ptr n off) ++ [Rd.s s v] ++ [Rd.o n obj]), [(true, n), (false, s)]⟩ :: acc) K KP) :
    EVc P nt all (⟨none, .store t x (.tmp s), ty, pos, aft, none⟩ :: rest) fr mem acc K KP :=
  fun fr0 e => ev_storeO ((ev_congr e _).trans hx) ((e _).trans hy) ht hs hn hl hp hc (h _ (fun t' => by simp only [skFr, getA_setA, getA_cons, e]))
theorem ec_alloc {ti : TI} (ht : tiOf P t = some ti) (hd : Nat.blt d nt = true) (h : EVc P nt all rest ((d, (.ptr mem.length 0)) :: fr) (setM mem mem.length ti.zero) (⟨[(true, mem.length)], [(true, mem.length), (false, d)]⟩ :: acc) K KP) :
    EVc P nt all (⟨some d, .alloc t, ty, pos, aft, none⟩ :: rest) fr mem acc K KP :=
  fun fr0 e => ev_alloc ht hd (h _ (fun t' => by simp only [skFr, getA_setA, getA_cons, e]))
theorem ec_box (hx : St.ev ⟨fr, mem⟩ x = some v) (hp : v.plain = true) (hd : Nat.blt d nt = true) (h : EVc P nt all rest ((d, (.ptr mem.length 0)) :: fr) (setM mem mem.length [v.ro]) (⟨rdLocs (rdOf x v ++ [Rd.new mem.length]), [(true, mem.length), (false, d)]⟩ :: acc) K KP) :
    EVc P nt all (⟨some d, .box t x, ty, pos, aft, none⟩ :: rest) fr mem acc K KP :=
  fun fr0 e => ev_box ((ev_congr e _).trans hx) hp hd (h _ (fun t' => by simp only [skFr, getA_setA, getA_cons, e]))
theorem ec_boxR {cs : List AV} (hx : St.ev ⟨fr, mem⟩ x = some (.agg cs)) (hd : Nat.blt d nt = true) (h : EVc P nt all rest ((d, (.ptr mem.length 0)) :: fr) (setM mem mem.length (AV.roL cs)) (⟨rdLocs (rdOf x (.agg cs) ++ [Rd.new mem.length]), [(true, mem.length), (false, d)]⟩ :: acc) K KP) :
    EVc P nt all (⟨some d, .box t x, ty, pos, aft, none⟩ :: rest) fr mem acc K KP :=
  fun fr0 e => ev_boxR ((ev_congr e _).trans hx) hd (h _ (fun t' => by simp only [skFr, getA_setA, getA_cons, e]))
theorem ec_pickT (hc : St.ev ⟨fr, mem⟩ c = some (.bool true)) (hx : St.ev ⟨fr, mem⟩ x = some v) (hd : Nat.blt d nt = true) (h : EVc P nt all rest ((d, v.ro) :: fr) mem (⟨rdLocs (rdOf c (.bool true) ++ rdOf x v), [(false, d)]⟩ :: acc) K KP) :
    EVc P nt all (⟨some d, .pick c x y, ty, pos, aft, none⟩ :: rest) fr mem acc K KP :=
  fun fr0 e => ev_pickT ((ev_congr e _).trans hc) ((ev_congr e _).trans hx) hd (h _ (fun t' => by simp only [skFr, getA_setA, getA_cons, e]))
theorem ec_pickF (hc : St.ev ⟨fr, mem⟩ c = some (.bool false)) (hx : St.ev ⟨fr, mem⟩ y = some v) (hd : Nat.blt d nt = true) (h : EVc P nt all rest ((d, v.ro) :: fr) mem (⟨rdLocs (rdOf c (.bool false) ++ rdOf y v), [(false, d)]⟩ :: acc) K KP) :
    EVc P nt all (⟨some d, .pick c x y, ty, pos, aft, none⟩ :: rest) fr mem acc K KP :=
  fun fr0 e => ev_pickF ((ev_congr e _).trans hc) ((ev_congr e _).trans hx) hd (h _ (fun t' => by simp only [skFr, getA_setA, getA_cons, e]))
theorem ec_fieldAddr {places : List (Nat × Nat)} {f off sz : Nat} (ht : tdOf P s = some (.struct places)) (hx : St.ev ⟨fr, mem⟩ x = some v) (hf : places[f]? = some (off, sz)) (hr : addPtr off v = some r) (hsz : Nat.blt 0 sz = true) (hd : Nat.blt d nt = true) (h : EVc P nt all rest ((d, r) :: fr) mem (⟨rdLocs (rdOf x v), [(false, d)]⟩ :: acc) K KP) :
    EVc P nt all (⟨some d, .fieldAddr s x f, ty, pos, aft, none⟩ :: rest) fr mem acc K KP :=
  fun fr0 e => ev_fieldAddr ht ((ev_congr e _).trans hx) hf hr hsz hd (h _ (fun t' => by simp only [skFr, getA_setA, getA_cons, e]))
theorem ec_indexL {i : Operand} {e : TypeId} {te : TI} {own : Option Nat} {xs : List (List AV)} {kd : IntKind} {n : Int} {yy : List AV} (ht : tdOf P t = some (.slice e)) (he : tiOf P e = some te) (hx : St.ev ⟨fr, mem⟩ x = some (.list own xs)) (hi : St.ev ⟨fr, mem⟩ i = some (.int kd n)) (hd : Nat.blt d nt = true) (h0 : 0 ≤ n) (hy : xs[n.toNat]? = some yy) (hl : yy.length = te.size) (h : EVc P nt all rest ((d, (.eptr yy 0)) :: fr) mem (⟨rdLocs (rdOf x (.list own xs) ++ rdOf i (.int kd n)), [(false, d)]⟩ :: acc) K KP) :
    EVc P nt all (⟨some d, .indexAddr t x i, ty, pos, aft, none⟩ :: rest) fr mem acc K KP :=
  fun fr0 e => ev_indexL ht he ((ev_congr e _).trans hx) ((ev_congr e _).trans hi) hd h0 hy hl (h _ (fun t' => by simp only [skFr, getA_setA, getA_cons, e]))
theorem ec_indexM {i : Operand} {e : TypeId} {te : TI} {q off len sz : Nat} {kd : IntKind} {n : Int} (ht : tdOf P t = some (.slice e)) (he : tiOf P e = some te) (hx : St.ev ⟨fr, mem⟩ x = some (.msl q off len sz)) (hi : St.ev ⟨fr, mem⟩ i = some (.int kd n)) (hd : Nat.blt d nt = true) (hs : Nat.beq te.size sz = true) (h0 : 0 ≤ n) (hl : n < len) (h : EVc P nt all rest ((d, (.ptr q (off + n.toNat * sz))) :: fr) mem (⟨rdLocs (rdOf x (.msl q off len sz) ++ rdOf i (.int kd n)), [(false, d)]⟩ :: acc) K KP) :
    EVc P nt all (⟨some d, .indexAddr t x i, ty, pos, aft, none⟩ :: rest) fr mem acc K KP :=
  fun fr0 e => ev_indexM ht he ((ev_congr e _).trans hx) ((ev_congr e _).trans hi) hd hs h0 hl (h _ (fun t' => by simp only [skFr, getA_setA, getA_cons, e]))
theorem ec_bin {op : BinOp} {t' : TypeId} (hx : St.ev ⟨fr, mem⟩ x = some u) (hy : St.ev ⟨fr, mem⟩ y = some v) (hr : binAV op u v = some r) (hd : Nat.blt d nt = true) (h : EVc P nt all rest ((d, r) :: fr) mem (⟨rdLocs (rdOf x u ++ rdOf y v), [(false, d)]⟩ :: acc) K KP) :
    EVc P nt all (⟨some d, .binOp op t x y t', ty, pos, aft, none⟩ :: rest) fr mem acc K KP :=
  fun fr0 e => ev_bin ((ev_congr e _).trans hx) ((ev_congr e _).trans hy) hr hd (h _ (fun t' => by simp only [skFr, getA_setA, getA_cons, e]))
theorem ec_add {t' : TypeId} {a b : Int} (hx : St.ev ⟨fr, mem⟩ x = some (.int .i64 a)) (hy : St.ev ⟨fr, mem⟩ y = some (.int .i64 b)) (hd : Nat.blt d nt = true) (h1 : -9223372036854775808 ≤ a + b) (h2 : a + b ≤ 9223372036854775807) (h : EVc P nt all rest ((d, (.int .i64 (a + b))) :: fr) mem (⟨rdLocs (rdOf x (.int .i64 a) ++ rdOf y (.int .i64 b)), [(false, d)]⟩ :: acc) K KP) :
    EVc P nt all (⟨some d, .binOp .add t x y t', ty, pos, aft, none⟩ :: rest) fr mem acc K KP :=
  fun fr0 e => ev_add ((ev_congr e _).trans hx) ((ev_congr e _).trans hy) hd h1 h2 (h _ (fun t' => by simp only [skFr, getA_setA, getA_cons, e]))
theorem ec_sub {t' : TypeId} {a b : Int} (hx : St.ev ⟨fr, mem⟩ x = some (.int .i64 a)) (hy : St.ev ⟨fr, mem⟩ y = some (.int .i64 b)) (hd : Nat.blt d nt = true) (h1 : -9223372036854775808 ≤ a - b) (h2 : a - b ≤ 9223372036854775807) (h : EVc P nt all rest ((d, (.int .i64 (a - b))) :: fr) mem (⟨rdLocs (rdOf x (.int .i64 a) ++ rdOf y (.int .i64 b)), [(false, d)]⟩ :: acc) K KP) :
    EVc P nt all (⟨some d, .binOp .sub t x y t', ty, pos, aft, none⟩ :: rest) fr mem acc K KP :=
  fun fr0 e => ev_sub ((ev_congr e _).trans hx) ((ev_congr e _).trans hy) hd h1 h2 (h _ (fun t' => by simp only [skFr, getA_setA, getA_cons, e]))
theorem ec_not (hx : St.ev ⟨fr, mem⟩ x = some u) {op : UnOp} (hr : unAV op u = some r) (hd : Nat.blt d nt = true) (h : EVc P nt all rest ((d, r) :: fr) mem (⟨rdLocs (rdOf x u), [(false, d)]⟩ :: acc) K KP) :
    EVc P nt all (⟨some d, .unOp op t x, ty, pos, aft, none⟩ :: rest) fr mem acc K KP :=
  fun fr0 e => ev_not ((ev_congr e _).trans hx) hr hd (h _ (fun t' => by simp only [skFr, getA_setA, getA_cons, e]))
theorem ec_lenL {own : Option Nat} {xs : List (List AV)} (ht : tdOf P t = some (.slice e)) (hx : St.ev ⟨fr, mem⟩ x = some (.list own xs)) (hd : Nat.blt d nt = true) (h : EVc P nt all rest ((d, (.int .i64 xs.length)) :: fr) mem (⟨rdLocs (rdOf x (.list own xs)), [(false, d)]⟩ :: acc) K KP) :
    EVc P nt all (⟨some d, .call { callee := .builtin .len, args := #[x], argTypes := #[t] }, ty, pos, aft, none⟩ :: rest) fr mem acc K KP :=
  fun fr0 e => ev_lenL ht ((ev_congr e _).trans hx) hd (h _ (fun t' => by simp only [skFr, getA_setA, getA_cons, e]))
theorem ec_lenM {q off len sz : Nat} (ht : tdOf P t = some (.slice e)) (hx : St.ev ⟨fr, mem⟩ x = some (.msl q off len sz)) (hd : Nat.blt d nt = true) (h : EVc P nt all rest ((d, (.int .i64 len)) :: fr) mem (⟨rdLocs (rdOf x (.msl q off len sz)), [(false, d)]⟩ :: acc) K KP) :
    EVc P nt all (⟨some d, .call { callee := .builtin .len, args := #[x], argTypes := #[t] }, ty, pos, aft, none⟩ :: rest) fr mem acc K KP :=
  fun fr0 e => ev_lenM ht ((ev_congr e _).trans hx) hd (h _ (fun t' => by simp only [skFr, getA_setA, getA_cons, e]))
theorem ec_lenN (ht : tdOf P t = some (.slice e)) (hx : St.ev ⟨fr, mem⟩ x = some .nilsl) (hd : Nat.blt d nt = true) (h : EVc P nt all rest ((d, (.int .i64 0)) :: fr) mem (⟨rdLocs (rdOf x .nilsl), [(false, d)]⟩ :: acc) K KP) :
    EVc P nt all (⟨some d, .call { callee := .builtin .len, args := #[x], argTypes := #[t] }, ty, pos, aft, none⟩ :: rest) fr mem acc K KP :=
  fun fr0 e => ev_lenN ht ((ev_congr e _).trans hx) hd (h _ (fun t' => by simp only [skFr, getA_setA, getA_cons, e]))
theorem ec_lenS {b : ByteArray} (ht : tdOf P t = some .string) (hx : St.ev ⟨fr, mem⟩ x = some (.str b)) (hd : Nat.blt d nt = true) (h : EVc P nt all rest ((d, (.int .i64 b.size)) :: fr) mem (⟨rdLocs (rdOf x (.str b)), [(false, d)]⟩ :: acc) K KP) :
    EVc P nt all (⟨some d, .call { callee := .builtin .len, args := #[x], argTypes := #[t] }, ty, pos, aft, none⟩ :: rest) fr mem acc K KP :=
  fun fr0 e => ev_lenS ht ((ev_congr e _).trans hx) hd (h _ (fun t' => by simp only [skFr, getA_setA, getA_cons, e]))
theorem ec_append {tx : TypeId} {te : TI} {xs ys : List (List AV)} (ht : tdOf P t = some (.slice e)) (he : tiOf P e = some te) (hs : getA fr s = some v) (hx : St.ev ⟨fr, mem⟩ x = some u) (hne : v ≠ .nils ∨ GT.mutT P t = false) (hnl : v ≠ .nilsl ∨ GT.mutN P t = false) (hu : srcEls u = some ys) (hv : dstEls te.size v = some xs) (hd : Nat.blt d nt = true) (hsd : s ≠ d) (h0 : 0 < te.size) (hk : srcKind P te.size tx u) (hys : allLen te.size ys) (hb : (xs.length + ys.length) * te.bytes ≤ 140737488355328) (h63 : xs.length + ys.length ≤ 9223372036854775807) (h : EVc P nt all rest ((d, (.list (some te.size) (xs ++ ys))) :: ((s, (.list none xs)) :: fr)) mem (⟨rdLocs ([Rd.s s v] ++ rdOf x u), [(false, s), (false, d)]⟩ :: acc) K KP) :
    EVc P nt all (⟨some d, .call { callee := .builtin .append, args := #[.tmp s, x], argTypes := #[t, tx] }, ty, pos, aft, none⟩ :: rest) fr mem acc K KP :=
  fun fr0 e => ev_append ht he ((e _).trans hs) ((ev_congr e _).trans hx) hne hnl hu hv hd hsd h0 hk hys hb h63 rfl (h _ (fun t' => by simp only [skFr, getA_setA, getA_cons, e]))
theorem ec_extract {i : Nat} {vs : List AV} (hs : getA fr s = some (.tup vs)) (hv : vs[i]? = some v) (hd : Nat.blt d nt = true) (hc : (owns v && s != d) = false) (h : EVc P nt all rest ((d, v.ro) :: fr) mem (⟨[(false, s)], [(false, d)]⟩ :: acc) K KP) :
    EVc P nt all (⟨some d, .extract (.tmp s) i, ty, pos, aft, none⟩ :: rest) fr mem acc K KP :=
  fun fr0 e => ev_extract ((e _).trans hs) hv hd hc (h _ (fun t' => by simp only [skFr, getA_setA, getA_cons, e]))
theorem ec_extractO {i : Nat} {vs : List AV} (hs : getA fr s = some (.tup vs)) (hv : vs[i]? = some v) (hd : Nat.blt d nt = true) (hc : (owns v && s != d) = true) (h : EVc P nt all rest ((d, v) :: ((s, (AV.tup vs).ro) :: fr)) mem (⟨[(false, s)], [(false, s), (false, d)]⟩ :: acc) K KP) :
    EVc P nt all (⟨some d, .extract (.tmp s) i, ty, pos, aft, none⟩ :: rest) fr mem acc K KP :=
  fun fr0 e => ev_extractO ((e _).trans hs) hv hd hc (h _ (fun t' => by simp only [skFr, getA_setA, getA_cons, e]))
theorem ec_nilCheck (hx : St.ev ⟨fr, mem⟩ x = some v) (hp : isPtr v = true) (hd : Nat.blt d nt = true) (h : EVc P nt all rest ((d, v.ro) :: fr) mem (⟨rdLocs (rdOf x v), [(false, d)]⟩ :: acc) K KP) :
    EVc P nt all (⟨some d, .nilCheck x, ty, pos, aft, none⟩ :: rest) fr mem acc K KP :=
  fun fr0 e => ev_nilCheck ((ev_congr e _).trans hx) hp hd (h _ (fun t' => by simp only [skFr, getA_setA, getA_cons, e]))
theorem ec_makeFunc {f : FuncId} {first cap : Array Operand} {fv cv : List AV} (h1 : St.evs ⟨fr, mem⟩ first.toList = some fv) (h2 : St.evs ⟨fr, mem⟩ cap.toList = some cv) (hd : Nat.blt d nt = true) (h : EVc P nt all rest ((d, (.func f (AV.roL fv) (AV.roL cv))) :: fr) mem (⟨rdLocs (rdsOf first.toList fv ++ rdsOf cap.toList cv), [(false, d)]⟩ :: acc) K KP) :
    EVc P nt all (⟨some d, .makeFunc (.func f) first cap, ty, pos, aft, none⟩ :: rest) fr mem acc K KP :=
  fun fr0 e => ev_makeFunc ((evs_congr e _).trans h1) ((evs_congr e _).trans h2) hd (h _ (fun t' => by simp only [skFr, getA_setA, getA_cons, e]))
theorem ec_makeIface {td : TD} (ht : tdOf P t = some td) (hne : td ≠ .iface) (hx : St.ev ⟨fr, mem⟩ x = some v) (hd : Nat.blt d nt = true) (h : EVc P nt all rest ((d, (.iface t v.ro)) :: fr) mem (⟨rdLocs (rdOf x v), [(false, d)]⟩ :: acc) K KP) :
    EVc P nt all (⟨some d, .makeInterface t x, ty, pos, aft, none⟩ :: rest) fr mem acc K KP :=
  fun fr0 e => ev_makeIface ht hne ((ev_congr e _).trans hx) hd (h _ (fun t' => by simp only [skFr, getA_setA, getA_cons, e]))
theorem ec_build {parts : Array (Nat × Operand)} {ti : TI} {vs res r2 : List AV} {pl : Nat → Option (Nat × Nat)} {ps : List (Nat × AV)} (ht : tiOf P t = some ti) (hvs : St.evs ⟨fr, mem⟩ (parts.toList.map (·.2)) = some vs) (hpl : placeTD P ti.d = some pl) (hps : pairAV parts.toList vs = some ps) (hr : fillAV pl ti.zero ps = some res) (hr2 : AV.roL res = r2) (hnt : vs.all notTup = true) (hd : Nat.blt d nt = true) (h : EVc P nt all rest ((d, (.agg r2)) :: fr) mem (⟨rdLocs (rdsOf (parts.toList.map (·.2)) vs), [(false, d)]⟩ :: acc) K KP) :
    EVc P nt all (⟨some d, .build t parts, ty, pos, aft, none⟩ :: rest) fr mem acc K KP :=
  fun fr0 e => ev_build ht ((evs_congr e _).trans hvs) hpl hps hr hr2 hnt hd (h _ (fun t' => by simp only [skFr, getA_setA, getA_cons, e]))
theorem ec_buildSlice {parts : Array (Nat × Operand)} {n : Nat} {te : TI} {vs res : List AV} {rows : List (List AV)} {ps : List (Nat × AV)} (ht : tdOf P t = some (.slice e)) (he : tiOf P e = some te) (hvs : St.evs ⟨fr, mem⟩ (parts.toList.map (·.2)) = some vs) (hps : pairAV parts.toList vs = some ps) (hr : fillAV (fun j => some (j * te.size, te.size)) (repl te.zero (n + 1)) ps = some res) (hn : Nat.ble ((n + 1) * te.size) 16777216 = true) (hnt : vs.all notTup = true) (hda : res.all AV.data = true) (hrw : chunks te.size (AV.roL res) (n + 1) = rows) (hd : Nat.blt d nt = true) (h : EVc P nt all rest ((d, (.list (some te.size) rows)) :: fr) mem (⟨rdLocs (rdsOf (parts.toList.map (·.2)) vs), [(false, d)]⟩ :: acc) K KP) :
    EVc P nt all (⟨some d, .buildSlice t (n + 1) parts, ty, pos, aft, none⟩ :: rest) fr mem acc K KP :=
  fun fr0 e => ev_buildSlice ht he ((evs_congr e _).trans hvs) hps hr hn hnt hda hrw hd (h _ (fun t' => by simp only [skFr, getA_setA, getA_cons, e]))
theorem ec_buildSlice0 {te : TI} (hm : GT.mutT P t = true) (ht : tdOf P t = some (.slice e)) (he : tiOf P e = some te) (hd : Nat.blt d nt = true) (h : EVc P nt all rest ((d, .nils) :: fr) mem (⟨[], [(false, d)]⟩ :: acc) K KP) :
    EVc P nt all (⟨some d, .buildSlice t 0 #[], ty, pos, aft, none⟩ :: rest) fr mem acc K KP :=
  fun fr0 e => ev_buildSlice0 hm ht he hd (h _ (fun t' => by simp only [skFr, getA_setA, getA_cons, e]))
theorem ec_convI {ss : TypeId} {tds : TD} {kd k' : IntKind} {n : Int} (hs : tdOf P ss = some tds) (ht : tdOf P t = some (.int kd)) (hx : St.ev ⟨fr, mem⟩ x = some (.int k' n)) (hd : Nat.blt d nt = true) (h : EVc P nt all rest ((d, (.int kd (kd.wrap n))) :: fr) mem (⟨rdLocs (rdOf x (.int k' n)), [(false, d)]⟩ :: acc) K KP) :
    EVc P nt all (⟨some d, .convert ss t x, ty, pos, aft, none⟩ :: rest) fr mem acc K KP :=
  fun fr0 e => ev_convI hs ht ((ev_congr e _).trans hx) hd (h _ (fun t' => by simp only [skFr, getA_setA, getA_cons, e]))

theorem ec_call {f : Operand} {args : Array Operand} {ats : Array TypeId} {dst : Option Nat} {n : FuncId} {first cap avs args' : List AV} {fp : List Nat} {objs mem0 mem' mem'' mem2 : List (List AV)} {v' : AV} {fr2 : List (Nat × AV)}
    (hf : St.ev ⟨fr, mem⟩ f = some (.func n first cap)) (ha : St.evs ⟨fr, mem⟩ args.toList = some avs) (hfp : reach mem (AV.roL (first ++ avs ++ cap)) = fp) (ho : objsOf mem fp = some objs)
    (hw1 : within fp (AV.ptrsL (AV.roL (first ++ avs ++ cap)))) (hw2 : within fp (ptrsM objs)) (hargs : AV.renL (toCallee fp) (AV.roL (first ++ avs ++ cap)) = args') (hobjs : renM (toCallee fp) objs = mem0)
    (hc : Ctr P n args' mem0 (.ret v) mem') (hv : allLt mem'.length v.ptrs) (hm : allLt mem'.length (ptrsM mem')) (hd : dstLt nt dst) (hv' : v.ren (toCaller fp mem.length) = v') (hm' : renM (toCaller fp mem.length) mem' = mem'')
    (hmem : (St.puts ⟨[], mem⟩ (wrsObjs mem.length fp mem'')).mem = mem2) (hfr : fr2 = (match dst with | some d => (d, v') :: fr | none => fr))
    (h : EVc P nt all rest fr2 mem2 (mkFp (rdOf f (.func n first cap) ++ rdsOf args.toList avs ++ (rdsObjs fp objs ++ newRds mem.length (mem'.length - fp.length))) (wrsObjs mem.length fp mem'' ++ dstW dst v') :: acc) K KP) :
    EVc P nt all (⟨dst, .call { callee := .value f, args := args, argTypes := ats }, ty, pos, aft, none⟩ :: rest) fr mem acc K KP :=
  fun fr0 e => ev_call ((ev_congr e _).trans hf) ((evs_congr e _).trans ha) hfp ho hw1 hw2 hargs hobjs hc hv hm hd hv' hm' (by
    have key : St.puts ⟨fr0, mem⟩ (wrsObjs mem.length fp mem'' ++ dstW dst v') = ⟨(St.puts ⟨fr0, mem⟩ (dstW dst v')).fr, mem2⟩ := by
      have hp : ∀ (l : List Wr) (st : St), (∀ x, x ∈ l → ∃ n obj, x = .o n obj) → (st.puts l).fr = st.fr ∧ (st.puts l).mem = (St.puts ⟨[], st.mem⟩ l).mem := by
        intro l
        induction l with
        | nil => intro st _; exact ⟨rfl, rfl⟩
        | cons x r ih =>
          intro st hx
          obtain ⟨n, obj, rfl⟩ := hx x (by simp)
          have := ih (st.put (.o n obj)) (fun y hy => hx y (by simp [hy]))
          exact this
      have hw : ∀ (N : Nat) (fp : List Nat) (l : List (List AV)) (x : Wr), x ∈ wrsObjs N fp l → ∃ n obj, x = .o n obj := by
        intro N fp l
        induction l generalizing N fp with
        | nil => intro x hx; cases fp <;> simp [wrsObjs] at hx
        | cons y r ih =>
          intro x hx
          cases fp with
          | nil =>
            simp only [wrsObjs, List.mem_cons] at hx
            rcases hx with rfl | hx
            · exact ⟨_, _, rfl⟩
            · exact ih _ _ _ hx
          | cons o fp =>
            simp only [wrsObjs, List.mem_cons] at hx
            rcases hx with rfl | hx
            · exact ⟨_, _, rfl⟩
            · exact ih _ _ _ hx
      have happ : ∀ (a b : List Wr) (st : St), st.puts (a ++ b) = (st.puts a).puts b := by
        intro a
        induction a with
        | nil => intro b st; rfl
        | cons x r ih => intro b st; exact ih b _
      rw [happ]
      obtain ⟨p1, p2⟩ := hp _ ⟨fr0, mem⟩ (hw mem.length fp mem'')
      generalize St.puts ⟨fr0, mem⟩ (wrsObjs mem.length fp mem'') = S at p1 p2
      obtain ⟨sf, sm⟩ := S
      simp only at p1 p2
      subst p1
      rw [hmem] at p2
      subst p2
      cases dst <;> rfl
    rw [key]
    refine h _ (fun t' => ?_)
    subst hfr
    cases dst with
    | none => exact e t'
    | some d => show getA (setA fr0 d v') t' = _; rw [getA_setA, getA_cons, e])
theorem ec_grd {dst : Option Nat} {op : Op} {j : Nat} {want b : Bool} (hd : gslot all j = some d) (hb : getA fr d = some (.bool b)) (hl : dstLt nt dst)
    (h1 : b = want → EVc P nt all (⟨dst, op, ty, pos, aft, none⟩ :: rest) ((d, .bool want) :: fr) mem acc K KP)
    (h2 : b = (!want) → EVc P nt all rest (skFr dst ((d, .bool (!want)) :: fr)) mem (⟨[(false, d)], wrLocs (skipW dst)⟩ :: acc) K KP) :
    EVc P nt all (⟨dst, op, ty, pos, aft, some (j, want)⟩ :: rest) fr mem acc K KP :=
  fun fr0 e => ev_grd hd ((e _).trans hb) hl (fun hh => h1 hh _ (fun t' => by simp only [skFr, getA_setA, getA_cons, e])) (fun hh => by
    have := h2 hh
    cases dst with
    | none => exact this _ (fun t' => by simp only [skFr, getA_setA, getA_cons, e])
    | some t => exact this _ (fun t' => by show getA (setA (setA fr0 d (.bool (!want))) t (.tup [])) t' = _; simp only [skFr, getA_setA, getA_cons, e]))
theorem ec_grdU {dst : Option Nat} {op : Op} {j : Nat} {want : Bool} (hd : gslot all j = some d) (hb : getA fr d = some (.tup [])) (hl : dstLt nt dst)
    (h2 : EVc P nt all rest (skFr dst fr) mem (⟨[(false, d)], wrLocs (skipW dst)⟩ :: acc) K KP) :
    EVc P nt all (⟨dst, op, ty, pos, aft, some (j, want)⟩ :: rest) fr mem acc K KP :=
  fun fr0 e => ev_guardU hd ((e _).trans hb) hl (by
    cases dst with
    | none => exact h2 _ e
    | some t => exact h2 _ (fun t' => by show getA (setA fr0 t (.tup [])) t' = _; simp only [skFr, getA_setA, getA_cons, e]))
theorem ec_end (h : ∀ fr0, (∀ t, getA fr0 t = getA fr t) → K acc ⟨fr0, mem⟩) : EVc P nt all [] fr mem acc K KP := h
theorem AW_view {cd : Code} {fr0 : List (Nat × AV)} (e : ∀ t, getA fr0 t = getA fr t) (h : AW P nt n0 cd Q ⟨fr, mem⟩) : AW P nt n0 cd Q ⟨fr0, mem⟩ := by
  intro Γ a w hnt hn hrel
  refine h Γ a w hnt hn ?_
  obtain ⟨R, ι, ω, hr, hdom⟩ := hrel
  exact ⟨R, ι, ω, hr.less (fun d v hv => ⟨v, by show getA fr0 d = some v; rw [e]; exact hv, .refl _⟩), hdom⟩
/-- A region, and on. -/
theorem AWc_reg {id : Nat} {l : List Oper} {cy : Code} (h : ∀ K : St → Prop, (∀ fr' mem' fr0, AW P nt n0 cy Q ⟨fr', mem'⟩ → (∀ t, getA fr0 t = getA fr' t) → K ⟨fr0, mem'⟩) → EVc P nt l l fr mem [] (fun _ s => K s) (fun _ v s => Q (.panic v) s)) :
    AW P nt n0 (.seq (.region id l.toArray false) cy) Q ⟨fr, mem⟩ :=
  AW_reg fun K hK => h K (fun fr' mem' fr0 ha he => hK _ (AW_view he ha)) fr (fun _ => rfl)
theorem AWc_drw {id : Nat} {l : List Oper} {cy : Code} (hm : P.follows .mixedOrders = true) (h : ∀ K : List Fp → St → Prop, (∀ acc fr' mem' fr0, drawOk l acc.reverse = true → AW P nt n0 cy Q ⟨fr', mem'⟩ → (∀ t, getA fr0 t = getA fr' t) → K acc ⟨fr0, mem'⟩) → EVc P nt l l fr mem [] K (fun _ _ _ => False)) :
    AW P nt n0 (.seq (.region id l.toArray true) cy) Q ⟨fr, mem⟩ :=
  AW_drw hm fun K hK => h K (fun acc fr' mem' fr0 hd ha he => hK _ _ hd (AW_view he ha)) fr (fun _ => rfl)
/-- A post that reads frames alone. -/
def Qv (Q : AEx → St → Prop) : Prop := ∀ e fr fr0 mem, (∀ t, getA fr0 t = getA fr t) → Q e ⟨fr, mem⟩ → Q e ⟨fr0, mem⟩
theorem AWc_reg1 {id : Nat} {l : List Oper} (hq : ∀ fr fr0 mem, (∀ t, getA fr0 t = getA fr t) → Q .normal ⟨fr, mem⟩ → Q .normal ⟨fr0, mem⟩)
    (h : ∀ K : St → Prop, (∀ fr' mem' fr0, Q .normal ⟨fr', mem'⟩ → (∀ t, getA fr0 t = getA fr' t) → K ⟨fr0, mem'⟩) → EVc P nt l l fr mem [] (fun _ s => K s) (fun _ v s => Q (.panic v) s)) :
    AW P nt n0 (.region id l.toArray false) Q ⟨fr, mem⟩ :=
  AW_reg1 fun K hK => h K (fun fr' mem' fr0 ha he => hK _ (hq _ _ _ he ha)) fr (fun _ => rfl)
theorem AWc_draw {id : Nat} {l : List Oper} (hm : P.follows .mixedOrders = true) (hq : ∀ fr fr0 mem, (∀ t, getA fr0 t = getA fr t) → Q .normal ⟨fr, mem⟩ → Q .normal ⟨fr0, mem⟩)
    (h : ∀ K : List Fp → St → Prop, (∀ acc fr' mem' fr0, drawOk l acc.reverse = true → Q .normal ⟨fr', mem'⟩ → (∀ t, getA fr0 t = getA fr' t) → K acc ⟨fr0, mem'⟩) → EVc P nt l l fr mem [] K (fun _ _ _ => False)) :
    AW P nt n0 (.region id l.toArray true) Q ⟨fr, mem⟩ :=
  AW_draw hm fun K hK => h K (fun acc fr' mem' fr0 hd ha he => hK _ _ hd (hq _ _ _ he ha)) fr (fun _ => rfl)
theorem qv_then {cy : Code} : ∀ fr fr0 mem, (∀ t, getA fr0 t = getA fr t) → thenQ P nt n0 cy Q .normal ⟨fr, mem⟩ → thenQ P nt n0 cy Q .normal ⟨fr0, mem⟩ := fun _ _ _ e h => AW_view e h
theorem leFr_view {fr0 fr : List (Nat × AV)} (e : ∀ t, getA fr0 t = getA fr t) : ∀ {l : List (Nat × AV)}, leFr fr l → leFr fr0 l
  | [], _ => trivial
  | (d, v) :: r, h => ⟨by rw [e]; exact h.1, leFr_view e h.2⟩
theorem qv_loop {T : Type} {Inv : T → Prop} {I : T → St} {μ : T → Nat} {t : T} : ∀ fr fr0 mem, (∀ t, getA fr0 t = getA fr t) → loopQ n0 Inv I μ t Q .normal ⟨fr, mem⟩ → loopQ n0 Inv I μ t Q .normal ⟨fr0, mem⟩ :=
  fun _ _ _ e ⟨t', h1, h2, h3⟩ => ⟨t', h1, h2, ⟨leFr_view e h3.fr, h3.mem, h3.n0, h3.p1, h3.p2⟩⟩
theorem qv_block {id : Nat} (h : ∀ fr fr0 mem, (∀ t, getA fr0 t = getA fr t) → Q .normal ⟨fr, mem⟩ → Q .normal ⟨fr0, mem⟩) : ∀ fr fr0 mem, (∀ t, getA fr0 t = getA fr t) → blockQ id Q .normal ⟨fr, mem⟩ → blockQ id Q .normal ⟨fr0, mem⟩ := h
theorem ka0 : keepA fr [] = [] := rfl
theorem ka {ks : List Nat} {r' : List (Nat × AV)} (h : getA fr d = some v) (hr : keepA fr ks = r') : keepA fr (d :: ks) = (d, v) :: r' := by
  simp only [keepA, h, hr]
/-- A test; what it says is known then. -/
theorem AWc_iff {t : Nat} {cx cy : Code} {b : Bool} (hb : getA fr t = some (.bool b)) (h1 : b = true → AW P nt n0 cx Q ⟨(t, .bool true) :: fr, mem⟩) (h2 : b = false → AW P nt n0 cy Q ⟨(t, .bool false) :: fr, mem⟩) :
    AW P nt n0 (.cond (.tmp t) cx cy) Q ⟨fr, mem⟩ :=
  AW_iff hb (fun e => AW_view (fun t' => by rw [getA_setA, getA_cons]) (h1 e)) (fun e => AW_view (fun t' => by rw [getA_setA, getA_cons]) (h2 e))
end
end Go.Aw
end
section
set_option linter.unusedVariables false
set_option linter.unusedSimpArgs false
namespace Go.Aw
section
variable {P : Program} [GT P] {nt n0 : Nat} {all rest : List Oper} {fr : List (Nat × AV)} {mem : List (List AV)} {acc : List Fp} {K : List Fp → St → Prop} {KP : List Fp → AV → St → Prop}
  {ty : TypeId} {pos : String} {aft : Array Edge} {d s t e : Nat} {v u r : AV} {x y c : Operand} {Q : AEx → St → Prop}

theorem ec_grdT {dst : Option Nat} {op : Op} {j : Nat} {want : Bool} (hd : gslot all j = some d) (hb : getA fr d = some (.bool want))
    (h1 : EVc P nt all (⟨dst, op, ty, pos, aft, none⟩ :: rest) fr mem acc K KP) : EVc P nt all (⟨dst, op, ty, pos, aft, some (j, want)⟩ :: rest) fr mem acc K KP :=
  fun fr0 e => by
    have := h1 fr0 e
    unfold evalOps at this ⊢
    unfold guardP at this ⊢
    simp only [hd, (e _).trans hb]
    exact ⟨fun _ => this, fun h => by cases want <;> cases h⟩
theorem ec_grdF {dst : Option Nat} {op : Op} {j : Nat} {want b : Bool} (hd : gslot all j = some d) (hb : getA fr d = some (.bool b)) (hbw : b = !want) (hl : dstLt nt dst)
    (h2 : EVc P nt all rest (skFr dst fr) mem (⟨[(false, d)], wrLocs (skipW dst)⟩ :: acc) K KP) :
    EVc P nt all (⟨dst, op, ty, pos, aft, some (j, want)⟩ :: rest) fr mem acc K KP :=
  fun fr0 e => ev_guard hd ((e _).trans hb) hl (fun h => by subst hbw; cases want <;> cases h) (fun _ => by
    cases dst with
    | none => exact h2 _ e
    | some t => exact h2 _ (fun t' => by show getA (setA fr0 t (.tup [])) t' = _; simp only [skFr, getA_setA, getA_cons, e]))
theorem AWc_ifT {t : Nat} {cx cy : Code} (hb : getA fr t = some (.bool true)) (h1 : AW P nt n0 cx Q ⟨fr, mem⟩) : AW P nt n0 (.cond (.tmp t) cx cy) Q ⟨fr, mem⟩ :=
  AW_if hb (fun _ => h1) (fun h => by cases h)
theorem AWc_ifF {t : Nat} {cx cy : Code} (hb : getA fr t = some (.bool false)) (h1 : AW P nt n0 cy Q ⟨fr, mem⟩) : AW P nt n0 (.cond (.tmp t) cx cy) Q ⟨fr, mem⟩ :=
  AW_if hb (fun h => by cases h) (fun _ => h1)

theorem bnd_congr {fr0 fr : List (Nat × AV)} {mem : List (List AV)} (e : ∀ t, getA fr0 t = getA fr t) (x : Option Operand) (n : Int) : St.bnd ⟨fr0, mem⟩ x n = St.bnd ⟨fr, mem⟩ x n := by
  cases x with
  | none => rfl
  | some x => simp only [St.bnd, ev_congr e x]
/-- A cut of a slice that nobody writes. -/
theorem ec_sliceL {lo hi : Option Operand} {te : TI} {own : Option Nat} {xs zs : List (List AV)} {kl kh : IntKind} {l h' : Int} (ht : tdOf P t = some (.slice e)) (he : tiOf P e = some te) (hx : St.ev ⟨fr, mem⟩ x = some (.list own xs))
    (hlo : St.bnd ⟨fr, mem⟩ lo 0 = some (kl, l)) (hhi : St.bnd ⟨fr, mem⟩ hi xs.length = some (kh, h')) (hz : zero00 lo hi none = false) (hd : Nat.blt d nt = true) (hal : allLen te.size xs) (h0 : 0 ≤ l) (h1 : l ≤ h') (h2 : h' ≤ xs.length)
    (hr : (xs.take h'.toNat).drop l.toNat = zs) (h : EVc P nt all rest ((d, .list none zs) :: fr) mem (⟨rdLocs (rdOf x (.list own xs) ++ (rdO lo kl l ++ rdO hi kh h')), [(false, d)]⟩ :: acc) K KP) :
    EVc P nt all (⟨some d, .slice t x lo hi none, ty, pos, aft, none⟩ :: rest) fr mem acc K KP :=
  fun fr0 e => ev_step rfl (fun _ _ _ h => by cases h) (fun _ _ _ h => by cases h) (rds := rdOf x (.list own xs) ++ (rdO lo kl l ++ rdO hi kh h')) (wrs := [Wr.s d (some (.list none zs))])
    (fun k hk => by
      have hx' := (ev_congr (mem := mem) e x).trans hx
      have hlo' := (bnd_congr (mem := mem) e lo 0).trans hlo
      have hhi' := (bnd_congr (mem := mem) e hi xs.length).trans hhi
      have n1 : nSlice0 P nt (some d) t x lo hi none ⟨fr0, mem⟩ = none := by unfold nSlice0; simp only [hz]
      have n2 : nSliceM P nt (some d) t x lo hi none ⟨fr0, mem⟩ = none := by unfold nSliceM; simp only [ht, hx']
      simp only [stepOp, xNew, n1, n2, oldOp, stSlice, ht, hx', he, hz, Bool.false_eq_true, if_false, hlo', hhi', hr]
      exact ⟨⟨⟨by simpa using hd, hal⟩, h0, h1, h2⟩, hk⟩)
    (h _ (fun t' => by show getA (setA fr0 d _) t' = _; simp only [skFr, getA_setA, getA_cons, e]))
/-- Two structs of scalars: are they the same? -/
theorem ec_eqS {op : BinOp} {t' : TypeId} {us vs : List AV} {fs : List Field} {b b' : Bool} (hx : St.ev ⟨fr, mem⟩ x = some (.agg us)) (hy : St.ev ⟨fr, mem⟩ y = some (.agg vs)) (hfs : fieldsOf P t = some fs) (hok : eqOk P t = true) (hfl : flatF P 0 fs us = true)
    (hq : eqCells us vs = some b) (hop : (op = .eql ∧ b' = b) ∨ (op = .neq ∧ b' = !b)) (hd : Nat.blt d nt = true) (h : EVc P nt all rest ((d, .bool b') :: fr) mem (⟨rdLocs (rdOf x (.agg us) ++ rdOf y (.agg vs)), [(false, d)]⟩ :: acc) K KP) :
    EVc P nt all (⟨some d, .binOp op t x y t', ty, pos, aft, none⟩ :: rest) fr mem acc K KP :=
  fun fr0 e => ev_step rfl (fun _ _ _ h => by cases h) (fun _ _ _ h => by cases h) (rds := rdOf x (.agg us) ++ rdOf y (.agg vs)) (wrs := [Wr.s d (some (.bool b'))])
    (fun k hk => by
      have hx' := (ev_congr (mem := mem) e x).trans hx
      have hy' := (ev_congr (mem := mem) e y).trans hy
      have hyn : y ≠ .const (.slice none 0 0) := by rintro rfl; cases hy
      have hq1 : nEq P nt (some d) op t x y ⟨fr0, mem⟩ = some (true, rdOf x (.agg us) ++ rdOf y (.agg vs), [Wr.s d (some (.bool b'))]) := by
        unfold nEq
        simp only [hx', hy', hfs, hq]
        rcases hop with ⟨rfl, rfl⟩ | ⟨rfl, rfl⟩ <;> simp only [hok, hfl, lt, hd, Bool.and_self]
      have hxn : xNew P nt ⟨some d, .binOp op t x y t', ty, pos, aft, none⟩ ⟨fr0, mem⟩ = some (true, rdOf x (.agg us) ++ rdOf y (.agg vs), [Wr.s d (some (.bool b'))]) := by
        simp only [xNew]
        split <;> first | (rename_i hh; cases hh; done) | skip
        · rename_i hh; cases hh; exact absurd rfl hyn
        · simp only [xNewA]; exact hq1
      simp only [stepOp, hxn]
      exact ⟨trivial, hk⟩)
    (h _ (fun t' => by show getA (setA fr0 d _) t' = _; simp only [skFr, getA_setA, getA_cons, e]))
theorem q_exit_then {id : Nat} {st : St} {cy : Code} (h : Q (.exit id) st) : thenQ P nt n0 cy Q (.exit id) st := h
theorem q_exit_loop {T : Type} {Inv : T → Prop} {I : T → St} {μ : T → Nat} {t : T} {id : Nat} {st : St} (h : Q (.exit id) st) : loopQ n0 Inv I μ t Q (.exit id) st := h
theorem q_exit_block {id : Nat} {st : St} (h : Q .normal st) : blockQ id Q (.exit id) st := by simp only [blockQ, if_true]; exact h
theorem q_exit_other {id id' : Nat} {st : St} (hne : id' ≠ id) (h : Q (.exit id') st) : blockQ id Q (.exit id') st := by simp only [blockQ]; rw [if_neg hne]; exact h
theorem q_ret_then {st : St} {cy : Code} (h : Q .ret st) : thenQ P nt n0 cy Q .ret st := h
theorem q_ret_loop {T : Type} {Inv : T → Prop} {I : T → St} {μ : T → Nat} {t : T} {st : St} (h : Q .ret st) : loopQ n0 Inv I μ t Q .ret st := h
theorem q_ret_block {id : Nat} {st : St} (h : Q .ret st) : blockQ id Q .ret st := h
theorem q_norm_then {st : St} {cy : Code} (h : AW P nt n0 cy Q st) : thenQ P nt n0 cy Q .normal st := h
theorem q_norm_block {id : Nat} {st : St} (h : Q .normal st) : blockQ id Q .normal st := h
/-- Where ways meet. -/
def joinQ (n0 : Nat) {T : Type} (Inv : T → Prop) (I : T → St) (Q : AEx → St → Prop) : AEx → St → Prop
  | .normal, st => ∃ t, Inv t ∧ Le n0 st (I t)
  | e, st => Q e st
theorem AW_join {cx cy : Code} {T : Type} {st : St} (Inv : T → Prop) (I : T → St) (h1 : AW P nt n0 cx (joinQ n0 Inv I Q) st) (h2 : ∀ t, Inv t → AW P nt n0 cy Q (I t)) : AW P nt n0 (.seq cx cy) Q st := by
  refine AW_seq (AW_mono h1 ?_)
  intro e s he
  cases e with
  | normal =>
    obtain ⟨t, ht, hle⟩ := he
    exact AW_less hle (h2 t ht)
  | _ => exact he
theorem q_exit_join {T : Type} {Inv : T → Prop} {I : T → St} {id : Nat} {st : St} (h : Q (.exit id) st) : joinQ n0 Inv I Q (.exit id) st := h
theorem q_ret_join {T : Type} {Inv : T → Prop} {I : T → St} {st : St} (h : Q .ret st) : joinQ n0 Inv I Q .ret st := h
theorem join_at {T : Type} {Inv : T → Prop} {I : T → St} {t : T} (hi : Inv t) (hfr : leFr fr (I t).fr) (hmem : mem = (I t).mem) (hp : PtrOk n0 (I t)) : joinQ n0 Inv I Q .normal ⟨fr, mem⟩ :=
  ⟨t, hi, hfr, by rw [← hmem]; exact leMem_refl _, hp.n0, hp.p1, hp.p2⟩
theorem qv_join {T : Type} {Inv : T → Prop} {I : T → St} : ∀ fr fr0 mem, (∀ t, getA fr0 t = getA fr t) → joinQ n0 Inv I Q .normal ⟨fr, mem⟩ → joinQ n0 Inv I Q .normal ⟨fr0, mem⟩ :=
  fun _ _ _ e ⟨t', h1, h3⟩ => ⟨t', h1, ⟨leFr_view e h3.fr, h3.mem, h3.n0, h3.p1, h3.p2⟩⟩
theorem qv_end {rs : List ResultVar} {out : Out} {mem' : List (List AV)} : ∀ fr fr0 mem, (∀ t, getA fr0 t = getA fr t) → endQ P rs n0 out mem' .normal ⟨fr, mem⟩ → endQ P rs n0 out mem' .normal ⟨fr0, mem⟩ := by
  intro fr fr0 mem e h
  have hone : ∀ r, resOne P ⟨fr0, mem⟩ r = resOne P ⟨fr, mem⟩ r := by
    intro r
    cases r with
    | tmp t => exact e t
    | cell a t => simp only [resOne, e a]
  have hl : ∀ l, resL P ⟨fr0, mem⟩ l = resL P ⟨fr, mem⟩ l := by
    intro l
    induction l with
    | nil => rfl
    | cons r l ih => simp only [resL, hone, ih]
  have hr : resAV P ⟨fr0, mem⟩ rs = resAV P ⟨fr, mem⟩ rs := by simp only [resAV, hl]
  cases out with
  | ret v => exact ⟨by rw [hr]; exact h.1, h.2⟩
  | panic v => exact h
end
end Go.Aw
end
