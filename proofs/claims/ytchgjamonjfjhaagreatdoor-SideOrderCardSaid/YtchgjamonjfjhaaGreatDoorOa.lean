/-
  A part of the proof of SideOrderCardSaid (see the last text, Om): no statement of its own, no condition.
-/
import Derived.Test.YtchgjamonjfjhaaGreatDoorSb
import Derived.Test.YtchgjamonjfjhaaGreatDoorEe
import Derived.Test.YtchgjamonjfjhaaGreatDoorEf
import Derived.Test.YtchgjamonjfjhaaGreatDoorLa
set_option linter.unusedSimpArgs false
set_option linter.unusedVariables false
section
set_option linter.unusedSimpArgs false
set_option linter.unusedVariables false
set_option maxRecDepth 100000
set_option maxHeartbeats 1000000
namespace Go.Aw
open Go.Proofs Go.So
abbrev J4 := Int × Int × Int × Int
def encJ (j : J4) : List AV := [.int .i64 j.1, .int .i64 j.2.1, .int .i64 j.2.2.1, .int .i64 j.2.2.2]
def rowsJ (l : List J4) : List (List AV) := l.map encJ
theorem rows_get {l : List J4} {i : Nat} {x : J4} (h : l[i]? = some x) : (rowsJ l)[((i : Nat) : Int).toNat]? = some [.int .i64 x.1, .int .i64 x.2.1, .int .i64 x.2.2.1, .int .i64 x.2.2.2] := by
  simp [rowsJ, h, encJ]
theorem rows_getI {l : List J4} {a : Int} {x : J4} (h : l[a.toNat]? = some x) : (rowsJ l)[a.toNat]? = some [.int .i64 x.1, .int .i64 x.2.1, .int .i64 x.2.2.1, .int .i64 x.2.2.2] := by
  simp [rowsJ, h, encJ]
theorem rows_len (l : List J4) : allLen 4 (rowsJ l) := by
  intro j y hy
  simp only [rowsJ, List.getElem?_map] at hy
  cases h : l[j]? with
  | none => rw [h] at hy; cases hy
  | some x => rw [h] at hy; injection hy with hy; subst hy; rfl
theorem rows_length (l : List J4) : (rowsJ l).length = l.length := by simp [rowsJ]
def flatJ (l : List J4) : List AV := (rowsJ l).flatten
theorem flat_cons (x : J4) (l : List J4) : flatJ (x :: l) = encJ x ++ flatJ l := rfl
theorem flat_app : ∀ (a b : List J4), flatJ (a ++ b) = flatJ a ++ flatJ b
  | [], b => rfl
  | x :: a, b => by rw [List.cons_append, flat_cons, flat_cons, flat_app a b, List.append_assoc]
theorem flat_len : ∀ l : List J4, (flatJ l).length = l.length * 4
  | [] => rfl
  | x :: l => by rw [flat_cons, List.length_append, flat_len l]; simp [encJ]; omega
theorem flat_get : ∀ {l : List J4} {i : Nat} {x : J4}, l[i]? = some x → ∀ k, k < 4 → (flatJ l)[i * 4 + k]? = (encJ x)[k]?
  | [], i, x, h => by simp at h
  | y :: l, 0, x, h => by
    intro k hk
    simp at h; subst h
    rw [flat_cons, Nat.zero_mul, Nat.zero_add, List.getElem?_append_left (by simpa [encJ] using hk)]
  | y :: l, i + 1, x, h => by
    intro k hk
    simp at h
    rw [flat_cons, List.getElem?_append_right (by simp [encJ]; omega), show (i + 1) * 4 + k - (encJ y).length = i * 4 + k from by simp [encJ]; omega]
    exact flat_get h k hk
theorem flat_getP {l : List J4} {i off : Nat} {x : J4} (k : Nat) (ho : off = i * 4 + k) (h : l[i]? = some x) (hk : k < 4) : (flatJ l)[off]? = (encJ x)[k]? := by subst ho; exact flat_get h k hk
theorem ptrs_flat : ∀ l : List J4, AV.ptrsL (flatJ l) = []
  | [] => rfl
  | x :: l => by rw [flat_cons]; exact ptrs_flat l
theorem ren_flat (f : Nat → Nat) : ∀ l : List J4, AV.renL f (flatJ l) = flatJ l
  | [] => rfl
  | x :: l => by rw [flat_cons]; simp only [encJ, List.cons_append, List.nil_append, AV.renL, AV.ren, ren_flat f l]
theorem ro_flat : ∀ l : List J4, AV.roL (flatJ l) = flatJ l
  | [] => rfl
  | x :: l => by rw [flat_cons]; simp only [encJ, List.cons_append, List.nil_append, AV.roL, AV.ro, ro_flat l]
theorem plain_flat : ∀ (l : List J4) (c : Nat) v, (flatJ l)[c]? = some v → v.plain = true ∧ v.ro = v
  | [], c, v, h => by simp [flatJ, rowsJ] at h
  | x :: l, c, v, h => by
    rw [flat_cons] at h
    by_cases hc : c < 4
    · rw [List.getElem?_append_left (by simpa [encJ] using hc)] at h
      match c, hc with
      | 0, _ => injection h with h; subst h; exact ⟨rfl, rfl⟩
      | 1, _ => injection h with h; subst h; exact ⟨rfl, rfl⟩
      | 2, _ => injection h with h; subst h; exact ⟨rfl, rfl⟩
      | 3, _ => injection h with h; subst h; exact ⟨rfl, rfl⟩
      | c + 4, hc => omega
    · rw [List.getElem?_append_right (by simp [encJ]; omega)] at h
      exact plain_flat l _ v h
theorem flat_row {l : List J4} {i : Nat} {x : J4} (h : l[i]? = some x) : ((flatJ l).drop (i * 4)).take 4 = encJ x := by
  have hlt := (List.getElem?_eq_some_iff.1 h).1
  apply List.ext_getElem?
  intro k
  by_cases hk : k < 4
  · rw [take_drop_get _ _ _ _ hk, flat_get h k hk]
  · rw [List.getElem?_eq_none (by simp; omega), List.getElem?_eq_none (by simp [encJ]; omega)]
theorem flat_ext {a b : List AV} {n : Nat} (ha : a.length = n * 4) (hb : b.length = n * 4) (h : ∀ i k, i < n → k < 4 → a[i * 4 + k]? = b[i * 4 + k]?) : a = b := by
  apply List.ext_getElem?
  intro c
  by_cases hc : c < n * 4
  · have := h (c / 4) (c % 4) (by omega) (by omega)
    rwa [show c / 4 * 4 + c % 4 = c from by omega] at this
  · rw [List.getElem?_eq_none (by omega), List.getElem?_eq_none (by omega)]
theorem flat_splice {l : List J4} {i : Nat} (hi : i < l.length) (x : J4) : splice (flatJ l) (i * 4) (encJ x) = flatJ (l.set i x) := by
  have hle : (i * 4) + (encJ x).length ≤ (flatJ l).length := by rw [flat_len]; simp [encJ]; omega
  refine flat_ext (n := l.length) (by rw [splice_length hle, flat_len]) (by rw [flat_len]; simp) (fun q k hq hk => ?_)
  rw [splice_get hle]
  have hlen : (encJ x).length = 4 := rfl
  by_cases hqi : q = i
  · subst hqi
    rw [if_neg (by omega), if_pos (by omega), show q * 4 + k - q * 4 = k from by omega]
    rw [flat_get (x := x) (by simp [hi]) k hk]
  · have hg : (l.set i x)[q]? = some l[q] := by rw [List.getElem?_set_ne (fun e => hqi e.symm)]; exact List.getElem?_eq_getElem hq
    rw [flat_get hg k hk, ← flat_get (List.getElem?_eq_getElem hq) k hk]
    by_cases h1 : q * 4 + k < i * 4
    · rw [if_pos h1]
    · rw [if_neg h1, if_neg (by omega)]
theorem flat_swap {l : List J4} {i j : Nat} (hi : i < l.length) (hj : j < l.length) : swapRows (flatJ l) 4 i j = flatJ (swp l i j) := by
  unfold swapRows swp
  have h1 : l[i]? = some l[i] := List.getElem?_eq_getElem hi
  have h2 : l[j]? = some l[j] := List.getElem?_eq_getElem hj
  rw [h1, h2]
  simp only
  rw [flat_row h1, flat_row h2, flat_splice hi, flat_splice (by simpa using hj)]

/-! ### The sort's closures -/
noncomputable def hnd77 : Addr := ⟨Tryz.prog.globals.size, 77, none⟩
noncomputable def lswA (n : Nat) : AV := .agg [.func 95 [] [.ptr 0 0], .func 282 [] [.msl 1 0 n 4, .rawp hnd77]]
def smN (n : Nat) (l : List J4) (M : List (List AV)) : List (List AV) := [.msl 1 0 n 4] :: flatJ l :: M
theorem z_info77s : ∃ i, Tryz.prog.info? 77 = some i ∧ i.size = 4 := by obtain ⟨i, h1, h2, _⟩ := z_info77'; exact ⟨i, h1, h2⟩
theorem z_agg77 (w : World) : (isAgg 77).run Tryz.prog w = .ok true w := by kernel_rfl
theorem ctr_swapJ {l : List J4} {i j : Nat} (hi : i < l.length) (hj : j < l.length) :
    Ctr Tryz.prog 282 [.int .i64 i, .int .i64 j, .msl 0 0 l.length 4, .rawp hnd77] [flatJ l] (.ret (.tup [])) [flatJ (swp l i j)] := by
  obtain ⟨ie, h1, h2⟩ := z_info77s
  have := ctr_swap (P := Tryz.prog) (o := 0) (mem := [flatJ l]) (obj := flatJ l) z_ext282 h1 h2 z_agg77 rfl (by omega) (by rw [flat_len]; exact Nat.le_refl _) (plain_flat l) hi hj
  rw [flat_swap hi hj] at this
  exact this

theorem ctr_less {n : Nat} {l : List J4} {i j : Nat} {x y : J4} (hn : l.length = n) (hx : l[i]? = some x) (hy : l[j]? = some y) :
    Ctr Tryz.prog 95 [.int .i64 i, .int .i64 j, .ptr 0 0] (smN n l []) (.ret (.bool (decide (x.1 < y.1)))) (smN n l []) := by
  subst hn
  refine ctr_of (rs := [.tmp 5]) (nt := 17) Tryz.func95 rfl rfl (enters_of Tryz.func95 rfl (by decide)) rfl (by decide) (by simp) (by simp) ?_
  refine AWc_reg (fun K hK => ?_)
  refine ec_asgC rfl rfl ?_
  refine ec_end (fun fr0 he => hK _ _ _ ?_ he)
  clear hK K
  refine AWc_drw z_mixed  (fun K hK => ?_)
  first | refine ec_load rfl ti62 rfl rfl rfl rfl rfl ?_ | refine ec_loadE rfl ti62 rfl rfl rfl ?_ | refine ec_loadO rfl ti62 rfl rfl rfl rfl rfl ?_ | refine ec_loadR rfl ti62 rfl rfl (by decide) (by decide) rfl ?_ | refine ec_loadER rfl ti62 rfl (by decide) rfl ?_
  first | refine ec_move rfl rfl rfl ?_ | refine ec_moveO rfl rfl rfl ?_
  first | refine ec_indexL td62 ti77 rfl rfl rfl (Int.natCast_nonneg _) (by assumption) rfl ?_ | refine ec_indexM td62 ti77 rfl rfl rfl rfl (Int.natCast_nonneg _) (by have := (List.getElem?_eq_some_iff.1 hx).1; omega) ?_
  refine ec_fieldAddr td77 rfl rfl rfl rfl rfl ?_
  first | refine ec_load rfl ti3 rfl rfl (flat_getP 0 (by simp) hx (by omega)) rfl rfl ?_ | refine ec_loadE rfl ti3 rfl (flat_getP 0 (by simp) hx (by omega)) rfl ?_ | refine ec_loadO rfl ti3 rfl rfl (flat_getP 0 (by simp) hx (by omega)) rfl rfl ?_ | refine ec_loadR rfl ti3 rfl rfl (by decide) (by decide) rfl ?_ | refine ec_loadER rfl ti3 rfl (by decide) rfl ?_
  first | refine ec_load rfl ti62 rfl rfl rfl rfl rfl ?_ | refine ec_loadE rfl ti62 rfl rfl rfl ?_ | refine ec_loadO rfl ti62 rfl rfl rfl rfl rfl ?_ | refine ec_loadR rfl ti62 rfl rfl (by decide) (by decide) rfl ?_ | refine ec_loadER rfl ti62 rfl (by decide) rfl ?_
  first | refine ec_move rfl rfl rfl ?_ | refine ec_moveO rfl rfl rfl ?_
  first | refine ec_indexL td62 ti77 rfl rfl rfl (Int.natCast_nonneg _) (by assumption) rfl ?_ | refine ec_indexM td62 ti77 rfl rfl rfl rfl (Int.natCast_nonneg _) (by have := (List.getElem?_eq_some_iff.1 hy).1; omega) ?_
  refine ec_fieldAddr td77 rfl rfl rfl rfl rfl ?_
  first | refine ec_load rfl ti3 rfl rfl (flat_getP 0 (by simp) hy (by omega)) rfl rfl ?_ | refine ec_loadE rfl ti3 rfl (flat_getP 0 (by simp) hy (by omega)) rfl ?_ | refine ec_loadO rfl ti3 rfl rfl (flat_getP 0 (by simp) hy (by omega)) rfl rfl ?_ | refine ec_loadR rfl ti3 rfl rfl (by decide) (by decide) rfl ?_ | refine ec_loadER rfl ti3 rfl (by decide) rfl ?_
  refine ec_bin rfl rfl rfl rfl ?_
  first | refine ec_asg rfl rfl rfl ?_ | refine ec_asgO rfl rfl rfl ?_
  refine ec_end (fun fr0 he => hK _ _ _ _ (by kernel_rfl) ?_ he)
  clear hK K
  apply AW_ret
  repeat (with_reducible (first | refine q_ret_then ?_ | refine q_ret_loop ?_ | refine q_ret_block ?_ | refine q_ret_join ?_))
  exact end_ret (.inl rfl) rfl (.refl _) (leMem_refl _) (Nat.le_refl _)
section
variable {nt n0 : Nat} {all rest : List Oper} {fr : List (Nat × AV)} {M : List (List AV)} {acc : List Fp} {K : List Fp → St → Prop} {KP : List Fp → AV → St → Prop}
  {ty : TypeId} {pos : String} {aft : Array Edge} {d n : Nat} {l l' : List J4} {f : Operand} {args : Array Operand} {ats : Array TypeId}
theorem smN_self (n : Nat) (l : List J4) (M : List (List AV)) (N : Nat) : (St.puts ⟨[], smN n l M⟩ (wrsObjs N [0, 1] (smN n l []))).mem = smN n l M := by
  simp [wrsObjs, smN, St.puts, St.put, setM]
theorem smN_new (n : Nat) (l l' : List J4) (M : List (List AV)) (N : Nat) : (St.puts ⟨[], smN n l M⟩ (wrsObjs N [0, 1] (smN n l' []))).mem = smN n l' M := by
  simp [wrsObjs, smN, St.puts, St.put, setM]
theorem ren_smN (g : Nat → Nat) (n : Nat) (l : List J4) (h1 : g 1 = 1) : renM g (smN n l []) = smN n l [] := by
  simp [renM, smN, AV.renL, AV.ren, h1, ren_flat]
theorem ptrs_smN (n : Nat) (l : List J4) : ptrsM (smN n l []) = [1] := by
  simp [ptrsM, smN, AV.ptrsL, AV.ptrs, ptrs_flat]
/-- data.Less(i, j) -/
theorem ec_less {i j : Int} {x y : J4} (hn : l.length = n) (hf : St.ev ⟨fr, smN n l M⟩ f = some (.func 95 [] [.ptr 0 0])) (ha : St.evs ⟨fr, smN n l M⟩ args.toList = some [.int .i64 i, .int .i64 j]) (h0 : 0 ≤ i) (h1 : 0 ≤ j)
    (hx : l[i.toNat]? = some x) (hy : l[j.toNat]? = some y) (hd : Nat.blt d nt = true) (h : ∀ acc', EVc Tryz.prog nt all rest ((d, .bool (decide (x.1 < y.1))) :: fr) (smN n l M) acc' K KP) :
    EVc Tryz.prog nt all (⟨some d, .call { callee := .value f, args := args, argTypes := ats }, ty, pos, aft, none⟩ :: rest) fr (smN n l M) acc K KP := by
  obtain ⟨a, rfl⟩ := Int.eq_ofNat_of_zero_le h0
  obtain ⟨b, rfl⟩ := Int.eq_ofNat_of_zero_le h1
  rw [Int.toNat_natCast] at hx hy
  have hd' : d < nt := by simpa using hd
  refine ec_call (fp := [0, 1]) (objs := smN n l []) (mem0 := smN n l []) (args' := [.int .i64 a, .int .i64 b, .ptr 0 0]) (mem'' := smN n l []) (mem2 := smN n l M) (v' := .bool (decide (x.1 < y.1))) hf ha ?_ ?_ ?_ ?_ ?_ ?_ (ctr_less hn hx hy) ?_ ?_ hd' rfl ?_ (smN_self n l M _) rfl (h _)
  · simp [reach, reach1, addAll, addNew, AV.roL, AV.ro, AV.ptrsL, AV.ptrs, smN, ptrs_flat]
  · simp [objsOf, smN]
  · simp [within, AV.roL, AV.ro, AV.ptrsL, AV.ptrs]
  · rw [ptrs_smN]; simp [within]
  · simp [AV.roL, AV.ro, AV.renL, AV.ren, toCallee, List.idxOf?, List.findIdx?, List.findIdx?.go]
  · exact ren_smN _ n l (by simp [toCallee, List.idxOf?, List.findIdx?, List.findIdx?.go])
  · simp [AV.ptrs, allLt]
  · rw [ptrs_smN]; simp [allLt, smN]
  · exact ren_smN _ n l (by simp [toCaller])
/-- data.Swap(i, j) -/
theorem ec_swap {i j : Int} (hn : l.length = n) (hf : St.ev ⟨fr, smN n l M⟩ f = some (.func 282 [] [.msl 1 0 n 4, .rawp hnd77])) (ha : St.evs ⟨fr, smN n l M⟩ args.toList = some [.int .i64 i, .int .i64 j]) (h0 : 0 ≤ i) (h1 : 0 ≤ j)
    (hi : i < n) (hj : j < n) (hd : Nat.blt d nt = true) (h : ∀ acc', EVc Tryz.prog nt all rest ((d, .tup []) :: fr) (smN n (swp l i.toNat j.toNat) M) acc' K KP) :
    EVc Tryz.prog nt all (⟨some d, .call { callee := .value f, args := args, argTypes := ats }, ty, pos, aft, none⟩ :: rest) fr (smN n l M) acc K KP := by
  obtain ⟨a, rfl⟩ := Int.eq_ofNat_of_zero_le h0
  obtain ⟨b, rfl⟩ := Int.eq_ofNat_of_zero_le h1
  subst hn
  rw [Int.toNat_natCast, Int.toNat_natCast] at h
  have hd' : d < nt := by simpa using hd
  have hc := ctr_swapJ (l := l) (i := a) (j := b) (by omega) (by omega)
  refine ec_call (fp := [1]) (objs := [flatJ l]) (mem0 := [flatJ l]) (args' := [.int .i64 a, .int .i64 b, .msl 0 0 l.length 4, .rawp hnd77]) (mem' := [flatJ (swp l a b)]) (mem'' := [flatJ (swp l a b)]) (mem2 := smN l.length (swp l a b) M) (v' := .tup []) hf ha ?_ ?_ ?_ ?_ ?_ ?_ hc ?_ ?_ hd' rfl ?_ ?_ rfl (h _)
  · simp [reach, reach1, addAll, addNew, AV.roL, AV.ro, AV.ptrsL, AV.ptrs, smN, ptrs_flat]
  · simp [objsOf, smN]
  · simp [within, AV.roL, AV.ro, AV.ptrsL, AV.ptrs]
  · simp [ptrsM, ptrs_flat, within]
  · simp [AV.roL, AV.ro, AV.renL, AV.ren, toCallee, List.idxOf?, List.findIdx?, List.findIdx?.go]
  · simp [renM, ren_flat]
  · simp [AV.ptrs, AV.ptrsL, allLt]
  · simp [ptrsM, ptrs_flat, allLt]
  · simp [renM, ren_flat]
  · simp [wrsObjs, smN, St.puts, St.put, setM]
def isInts : List AV → Prop
  | [] => True
  | .int _ _ :: r => isInts r
  | _ => False
theorem ints_ro : ∀ {l : List AV}, isInts l → AV.roL l = l
  | [], _ => rfl
  | .int _ _ :: r, h => by simp only [AV.roL, AV.ro, ints_ro (l := r) h]
theorem ints_ren (g : Nat → Nat) : ∀ {l : List AV}, isInts l → AV.renL g l = l
  | [], _ => rfl
  | .int _ _ :: r, h => by simp only [AV.renL, AV.ren, ints_ren g (l := r) h]
theorem ints_ptrs : ∀ {l : List AV}, isInts l → AV.ptrsL l = []
  | [], _ => rfl
  | .int _ _ :: r, h => by simp only [AV.ptrsL, AV.ptrs, ints_ptrs (l := r) h, List.nil_append]
/-- A call of one of the sort's functions. -/
theorem ec_scall {k : FuncId} {ints : List AV} (hi : isInts ints) (ha : St.evs ⟨fr, smN n l M⟩ args.toList = some (lswA n :: ints))
    (hc : Ctr Tryz.prog k (lswA n :: ints) (smN n l []) (.ret (.tup [])) (smN n l' [])) (hd : Nat.blt d nt = true) (h : ∀ acc', EVc Tryz.prog nt all rest ((d, .tup []) :: fr) (smN n l' M) acc' K KP) :
    EVc Tryz.prog nt all (⟨some d, .call { callee := .value (.func k), args := args, argTypes := ats }, ty, pos, aft, none⟩ :: rest) fr (smN n l M) acc K KP := by
  have hd' : d < nt := by simpa using hd
  refine ec_call (fp := [0, 1]) (objs := smN n l []) (mem0 := smN n l []) (args' := lswA n :: ints) (first := []) (cap := []) (mem'' := smN n l' []) (mem2 := smN n l' M) (v' := .tup []) rfl ha ?_ ?_ ?_ ?_ ?_ ?_ hc ?_ ?_ hd' rfl ?_ (smN_new n l l' M _) rfl (h _)
  · simp [reach, reach1, addAll, addNew, AV.roL, AV.ro, AV.ptrsL, AV.ptrs, smN, ptrs_flat, lswA, ints_ro hi, ints_ptrs hi]
  · simp [objsOf, smN]
  · simp [within, AV.roL, AV.ro, AV.ptrsL, AV.ptrs, lswA, ints_ro hi, ints_ptrs hi]
  · rw [ptrs_smN]; simp [within]
  · simp [AV.roL, AV.ro, AV.renL, AV.ren, toCallee, List.idxOf?, List.findIdx?, List.findIdx?.go, lswA, ints_ro hi, ints_ren _ hi]
  · exact ren_smN _ n l (by simp [toCallee, List.idxOf?, List.findIdx?, List.findIdx?.go])
  · simp [AV.ptrs, AV.ptrsL, allLt]
  · rw [ptrs_smN]; simp [allLt, smN]
  · exact ren_smN _ n l' (by simp [toCaller])
/-- The two functions, boxed. -/
noncomputable def lswC (n : Nat) : List AV := [.func 95 [] [.ptr 0 0], .func 282 [] [.msl 1 0 n 4, .rawp hnd77]]
theorem ptr_smN (n : Nat) (l : List J4) : PtrOk 2 ⟨[], smN n l [lswC n]⟩ := ⟨by simp [smN], trivial, by simp [ptrsM, smN, lswC, AV.ptrsL, AV.ptrs, ptrs_flat, allLt]⟩
end
end Go.Aw
end
section
set_option linter.unusedSimpArgs false
set_option linter.unusedVariables false
set_option maxRecDepth 100000
set_option maxHeartbeats 1000000
namespace Go.Aw
open Go.Proofs Go.So
theorem leMem_smN (n : Nat) (l : List J4) (M : List (List AV)) : leMem (smN n l M) (smN n l []) := ⟨WkL_refl _, WkL_refl _, by cases M <;> trivial⟩
noncomputable def I359 (n : Nat) (A U B V C : List J4) (i : Nat) : St :=
  ⟨[(1, .int .i64 A.length), (2, .int .i64 (A.length + U.length + B.length : Nat)), (3, .int .i64 U.length), (4, .ptr 2 0), (8, .int .i64 i)], smN n (swR A U B V C i) [lswC n]⟩
theorem ptr_own {n : Nat} {l : List J4} {fr : List (Nat × AV)} (h : ∀ o, o ∈ frPtrs fr → o < 3) : PtrOk 2 ⟨fr, smN n l [lswC n]⟩ := by
  have hlt : ∀ (l : List Nat), (∀ o, o ∈ l → o < 3) → allLt 3 l := by
    intro l
    induction l with
    | nil => intro _; trivial
    | cons x r ih => intro h; exact ⟨h x (by simp), ih (fun o ho => h o (by simp [ho]))⟩
  exact ⟨by simp [smN], hlt _ h, by simp [ptrsM, smN, lswC, AV.ptrsL, AV.ptrs, ptrs_flat, allLt]⟩
theorem ptrI359 (n : Nat) (A U B V C : List J4) (i : Nat) : PtrOk 2 (I359 n A U B V C i) := ptr_own (by simp [frPtrs, AV.ptrs])
/-- swapRange -/
theorem ctr_swapRange {n : Nat} (A U B V C : List J4) (hUV : U.length = V.length) (hn : A.length + U.length + B.length + V.length + C.length = n) (h6 : n ≤ 1000000) :
    Ctr Tryz.prog 359 [lswA n, .int .i64 A.length, .int .i64 (A.length + U.length + B.length : Nat), .int .i64 U.length] (smN n (A ++ U ++ B ++ V ++ C) []) (.ret (.tup [])) (smN n (A ++ V ++ B ++ U ++ C) []) := by
  refine ctr_of (rs := []) (nt := 23) Tryz.func359 rfl rfl (enters_of Tryz.func359 rfl (by decide)) rfl (by decide) (by simp) (by simp [smN]) ?_
  refine AWc_reg (fun K hK => ?_)
  first | refine ec_boxR rfl rfl ?_ | refine ec_box rfl rfl rfl ?_
  refine ec_end (fun fr0 he => hK _ _ _ ?_ he)
  clear he fr0 hK K
  refine AWc_reg (fun K hK => ?_)
  refine ec_asgC rfl rfl ?_
  refine ec_end (fun fr0 he => hK _ _ _ ?_ he)
  clear he fr0 hK K
  apply AW_block
  refine AW_loopw (T := Nat) (fun i => i ≤ U.length) (I359 n A U B V C) (fun i => U.length - i) 0 (Nat.zero_le _) (leFr_cons rfl (.refl _) (leFr_cons rfl (.refl _) (leFr_cons rfl (.refl _) (leFr_cons rfl (.refl _) (leFr_cons rfl (.refl _) trivial))))) (by show _ = smN n (swR A U B V C 0) [lswC n]; rw [swR_zero]; rfl) (ptrI359 n A U B V C 0) ?_
  intro i hi
  have hL : (swR A U B V C i).length = n := by rw [swR_len]; omega
  unfold I359
  apply AW_seq
  refine AWc_reg (fun K hK => ?_)
  first | refine ec_move rfl rfl rfl ?_ | refine ec_moveO rfl rfl rfl ?_
  first | refine ec_move rfl rfl rfl ?_ | refine ec_moveO rfl rfl rfl ?_
  refine ec_bin rfl rfl rfl rfl ?_
  refine ec_end (fun fr0 he => hK _ _ _ ?_ he)
  clear he fr0 hK K
  refine AWc_iff rfl (fun hc => ?_) (fun hc => ?_)
  · skip
    have hlt : i < U.length := by have := of_decide_eq_true hc; omega
    apply AW_skip
    repeat (with_reducible (first | refine q_norm_then ?_ | refine q_norm_block ?_))
    apply AW_seq
    apply AW_block
    refine AWc_reg1 (by repeat (with_reducible (first | exact qv_then | exact qv_loop | exact qv_join | exact qv_end | refine qv_block ?_))) (fun K hK => ?_)
    refine ec_fieldAddr td313 rfl rfl rfl rfl rfl ?_
    first | refine ec_load rfl ti262 rfl rfl rfl rfl rfl ?_ | refine ec_loadE rfl ti262 rfl rfl rfl ?_ | refine ec_loadO rfl ti262 rfl rfl rfl rfl rfl ?_ | refine ec_loadR rfl ti262 rfl rfl (by decide) (by first | decide | simp [lswC]) rfl ?_ | refine ec_loadER rfl ti262 rfl (by first | decide | simp [lswC]) rfl ?_
    first | refine ec_move rfl rfl rfl ?_ | refine ec_moveO rfl rfl rfl ?_
    first | refine ec_move rfl rfl rfl ?_ | refine ec_moveO rfl rfl rfl ?_
    refine ec_add rfl rfl rfl (by omega) (by omega) ?_
    first | refine ec_move rfl rfl rfl ?_ | refine ec_moveO rfl rfl rfl ?_
    first | refine ec_move rfl rfl rfl ?_ | refine ec_moveO rfl rfl rfl ?_
    refine ec_add rfl rfl rfl (by omega) (by omega) ?_
    apply ec_swap hL
    case hf => exact rfl
    case ha => exact rfl
    case h0 => omega
    case h1 => omega
    case hi => omega
    case hj => omega
    case hd => exact rfl
    intro acc'
    refine ec_end (fun fr0 he => hK _ _ _ ?_ he)
    clear he fr0 hK K
    repeat (with_reducible (first | refine q_norm_then ?_ | refine q_norm_block ?_))
    refine AWc_reg1 (by repeat (with_reducible (first | exact qv_then | exact qv_loop | exact qv_join | exact qv_end | refine qv_block ?_))) (fun K hK => ?_)
    first | refine ec_move rfl rfl rfl ?_ | refine ec_moveO rfl rfl rfl ?_
    refine ec_add rfl rfl rfl (by omega) (by omega) ?_
    first | refine ec_asg rfl rfl rfl ?_ | refine ec_asgO rfl rfl rfl ?_
    refine ec_end (fun fr0 he => hK _ _ _ ?_ he)
    clear he fr0 hK K
    refine loop_onw (t' := i + 1) (by omega) (by omega) (leFr_cons rfl (.refl _) (leFr_cons rfl (.refl _) (leFr_cons rfl (.refl _) (leFr_cons rfl (.refl _) (leFr_cons rfl (.refl _) trivial))))) (by show _ = smN n (swR A U B V C (i + 1)) [lswC n]; rw [← swR_step (p := ((A.length : Int) + (i : Int)).toNat) (q := ((A.length + U.length + B.length : Nat) + (i : Int) : Int).toNat) hUV hlt (by omega) (by omega)]) (ptrI359 n A U B V C (i + 1))
  · skip
    have hge : U.length ≤ i := by have := of_decide_eq_false hc; omega
    obtain rfl : i = U.length := by omega
    apply AW_exit
    repeat (with_reducible (first | refine q_exit_then ?_ | refine q_exit_loop ?_ | refine q_exit_block ?_ | refine q_exit_join ?_ | refine q_exit_other (by decide) ?_))
    repeat (with_reducible (first | refine q_norm_then ?_ | refine q_norm_block ?_))
    refine end_ret (.inr rfl) rfl (.refl _) ?_ (by simp [smN])
    rw [swR_end A U B V C hUV]; exact leMem_smN _ _ _
end Go.Aw
end
section
set_option linter.unusedSimpArgs false
set_option linter.unusedVariables false
set_option maxRecDepth 100000
set_option maxHeartbeats 1000000
namespace Go.Aw
open Go.Proofs Go.So
theorem wk_int {k : IntKind} {a b : Int} (h : a = b) : Wk (.int k a) (.int k b) := by subst h; exact .refl _
theorem ctr_i3 {k n : Nat} {a b c a' b' c' : Int} {l l2 l' l2' : List J4} (h : Ctr Tryz.prog k [lswA n, .int .i64 a, .int .i64 b, .int .i64 c] (smN n l []) (.ret (.tup [])) (smN n l2 [])) (ha : a = a') (hb : b = b') (hc : c = c') (hl : l = l') (hl2 : l2 = l2') :
    Ctr Tryz.prog k [lswA n, .int .i64 a', .int .i64 b', .int .i64 c'] (smN n l' []) (.ret (.tup [])) (smN n l2' []) := by subst ha; subst hb; subst hc; subst hl; subst hl2; exact h
def Inv332 (U V : List J4) (t : List J4 × List J4 × List J4 × List J4) : Prop := t.1 ++ t.2.2.1 ++ t.2.1 ++ t.2.2.2 = V ++ U ∧ (t.1 ++ t.2.1).length = U.length ∧ 0 < t.2.1.length ∧ 0 < t.2.2.1.length
noncomputable def I332 (n : Nat) (A C : List J4) (m b : Nat) (P U V Q : List J4) : St :=
  ⟨[(1, .int .i64 A.length), (2, .int .i64 m), (3, .int .i64 b), (4, .ptr 2 0), (8, .int .i64 U.length), (9, .int .i64 V.length)], smN n (A ++ P ++ U ++ V ++ Q ++ C) [lswC n]⟩
/-- rotate -/
theorem ctr_rotate {n : Nat} (A U V C : List J4) (hU : 0 < U.length) (hV : 0 < V.length) (hn : A.length + U.length + V.length + C.length = n) (h6 : n ≤ 1000000) :
    Ctr Tryz.prog 332 [lswA n, .int .i64 A.length, .int .i64 (A.length + U.length : Nat), .int .i64 (A.length + U.length + V.length : Nat)] (smN n (A ++ U ++ V ++ C) []) (.ret (.tup [])) (smN n (A ++ V ++ U ++ C) []) := by
  refine ctr_of (rs := []) (nt := 53) Tryz.func332 rfl rfl (enters_of Tryz.func332 rfl (by decide)) rfl (by decide) (by simp) (by simp [smN]) ?_
  refine AWc_reg (fun K hK => ?_)
  first | refine ec_boxR rfl rfl ?_ | refine ec_box rfl rfl rfl ?_
  refine ec_end (fun fr0 he => hK _ _ _ ?_ he)
  clear he fr0 hK K
  refine AWc_reg (fun K hK => ?_)
  first | refine ec_move rfl rfl rfl ?_ | refine ec_moveO rfl rfl rfl ?_
  first | refine ec_move rfl rfl rfl ?_ | refine ec_moveO rfl rfl rfl ?_
  refine ec_sub rfl rfl rfl (by omega) (by omega) ?_
  first | refine ec_asg rfl rfl rfl ?_ | refine ec_asgO rfl rfl rfl ?_
  refine ec_end (fun fr0 he => hK _ _ _ ?_ he)
  clear he fr0 hK K
  refine AWc_reg (fun K hK => ?_)
  first | refine ec_move rfl rfl rfl ?_ | refine ec_moveO rfl rfl rfl ?_
  first | refine ec_move rfl rfl rfl ?_ | refine ec_moveO rfl rfl rfl ?_
  refine ec_sub rfl rfl rfl (by omega) (by omega) ?_
  first | refine ec_asg rfl rfl rfl ?_ | refine ec_asgO rfl rfl rfl ?_
  refine ec_end (fun fr0 he => hK _ _ _ ?_ he)
  clear he fr0 hK K
  apply AW_seq
  apply AW_block
  refine AW_loopw (T := List J4 × List J4 × List J4 × List J4) (fun t => Inv332 U V t) (fun t => I332 n A C (A.length + U.length) (A.length + U.length + V.length) t.1 t.2.1 t.2.2.1 t.2.2.2) (fun t => t.2.1.length + t.2.2.1.length) ([], U, V, []) ⟨by simp, by simp, hU, hV⟩ (leFr_cons rfl (.refl _) (leFr_cons rfl (.refl _) (leFr_cons rfl (.refl _) (leFr_cons rfl (.refl _) (leFr_cons rfl (wk_int (by first | omega | (simp; omega) | (simp; done))) (leFr_cons rfl (wk_int (by first | omega | (simp; omega) | (simp; done))) trivial)))))) (by show _ = smN n (A ++ [] ++ U ++ V ++ [] ++ C) [lswC n]; simp only [List.append_nil]; rfl) (ptr_own (by simp [frPtrs, AV.ptrs])) ?_
  rintro ⟨P, U', V', Q⟩ ⟨hi1, hi2, hi3, hi4⟩
  simp only at hi1 hi2 hi3 hi4
  have hlen : (P ++ V' ++ U' ++ Q).length = (V ++ U).length := congrArg List.length hi1
  simp only [List.length_append] at hlen hi2
  show AW _ _ _ _ _ (I332 n A C (A.length + U.length) (A.length + U.length + V.length) P U' V' Q)
  unfold I332
  apply AW_seq
  refine AWc_reg (fun K hK => ?_)
  first | refine ec_move rfl rfl rfl ?_ | refine ec_moveO rfl rfl rfl ?_
  first | refine ec_move rfl rfl rfl ?_ | refine ec_moveO rfl rfl rfl ?_
  refine ec_bin rfl rfl rfl rfl ?_
  refine ec_end (fun fr0 he => hK _ _ _ ?_ he)
  clear he fr0 hK K
  refine AWc_iff rfl (fun hc => ?_) (fun hc => ?_)
  · skip
    have hne : U'.length ≠ V'.length := by intro e; rw [e] at hc; simp at hc
    apply AW_skip
    repeat (with_reducible (first | refine q_norm_then ?_ | refine q_norm_block ?_))
    apply AW_block
    refine AWc_reg (fun K hK => ?_)
    first | refine ec_move rfl rfl rfl ?_ | refine ec_moveO rfl rfl rfl ?_
    first | refine ec_move rfl rfl rfl ?_ | refine ec_moveO rfl rfl rfl ?_
    refine ec_bin rfl rfl rfl rfl ?_
    refine ec_end (fun fr0 he => hK _ _ _ ?_ he)
    clear he fr0 hK K
    refine AWc_iff rfl (fun hc => ?_) (fun hc => ?_)
    · skip
      have hgt : V'.length < U'.length := by have := of_decide_eq_true hc; omega
      obtain ⟨U1, U2, hUe, hU1⟩ : ∃ U1 U2, U' = U1 ++ U2 ∧ U1.length = V'.length := ⟨U'.take V'.length, U'.drop V'.length, (List.take_append_drop _ _).symm, by simp; omega⟩
      have hU2 : U'.length = U1.length + U2.length := by rw [hUe]; simp
      refine AWc_reg (fun K hK => ?_)
      first | refine ec_load rfl ti313 rfl rfl rfl rfl rfl ?_ | refine ec_loadE rfl ti313 rfl rfl rfl ?_ | refine ec_loadO rfl ti313 rfl rfl rfl rfl rfl ?_ | refine ec_loadR rfl ti313 rfl rfl (by decide) (by first | decide | simp [lswC]) rfl ?_ | refine ec_loadER rfl ti313 rfl (by first | decide | simp [lswC]) rfl ?_
      first | refine ec_move rfl rfl rfl ?_ | refine ec_moveO rfl rfl rfl ?_
      first | refine ec_move rfl rfl rfl ?_ | refine ec_moveO rfl rfl rfl ?_
      refine ec_sub rfl rfl rfl (by omega) (by omega) ?_
      first | refine ec_move rfl rfl rfl ?_ | refine ec_moveO rfl rfl rfl ?_
      first | refine ec_move rfl rfl rfl ?_ | refine ec_moveO rfl rfl rfl ?_
      apply ec_scall (k := 359) (l' := A ++ (P ++ V') ++ U2 ++ U1 ++ Q ++ C)
      case ha => exact rfl
      case hi => trivial
      case hc => exact ctr_i3 (ctr_swapRange (n := n) (A ++ P) U1 U2 V' (Q ++ C) (by omega) (by simp; omega) h6) (by simp; omega) (by simp; omega) (by omega) (by rw [hUe]; simp) (by simp)
      case hd => exact rfl
      intro acc'
      refine ec_end (fun fr0 he => hK _ _ _ ?_ he)
      clear he fr0 hK K
      refine AWc_reg1 (by repeat (with_reducible (first | exact qv_then | exact qv_loop | exact qv_join | exact qv_end | refine qv_block ?_))) (fun K hK => ?_)
      first | refine ec_move rfl rfl rfl ?_ | refine ec_moveO rfl rfl rfl ?_
      first | refine ec_move rfl rfl rfl ?_ | refine ec_moveO rfl rfl rfl ?_
      refine ec_sub rfl rfl rfl (by omega) (by omega) ?_
      first | refine ec_asg rfl rfl rfl ?_ | refine ec_asgO rfl rfl rfl ?_
      refine ec_end (fun fr0 he => hK _ _ _ ?_ he)
      clear he fr0 hK K
      repeat (with_reducible (first | refine q_norm_then ?_ | refine q_norm_block ?_))
      refine loop_onw (t' := (P ++ V', U2, U1, Q)) ⟨by simp only [← hi1, hUe]; simp, by simp; omega, by show 0 < U2.length; omega, by show 0 < U1.length; omega⟩ (by simp only; omega) (leFr_cons rfl (.refl _) (leFr_cons rfl (.refl _) (leFr_cons rfl (.refl _) (leFr_cons rfl (.refl _) (leFr_cons rfl (wk_int (by first | omega | (simp; omega) | (simp; done))) (leFr_cons rfl (wk_int (by first | omega | (simp; omega) | (simp; done))) trivial)))))) (by first | (simp; done) | (simp; rfl)) (ptr_own (by simp [frPtrs, AV.ptrs]))
    · skip
      have hgt : U'.length < V'.length := by have := of_decide_eq_false hc; omega
      obtain ⟨V1, V2, hVe, hV2⟩ : ∃ V1 V2, V' = V1 ++ V2 ∧ V2.length = U'.length := ⟨V'.take (V'.length - U'.length), V'.drop (V'.length - U'.length), (List.take_append_drop _ _).symm, by simp; omega⟩
      have hV1 : V'.length = V1.length + V2.length := by rw [hVe]; simp
      refine AWc_reg (fun K hK => ?_)
      first | refine ec_load rfl ti313 rfl rfl rfl rfl rfl ?_ | refine ec_loadE rfl ti313 rfl rfl rfl ?_ | refine ec_loadO rfl ti313 rfl rfl rfl rfl rfl ?_ | refine ec_loadR rfl ti313 rfl rfl (by decide) (by first | decide | simp [lswC]) rfl ?_ | refine ec_loadER rfl ti313 rfl (by first | decide | simp [lswC]) rfl ?_
      first | refine ec_move rfl rfl rfl ?_ | refine ec_moveO rfl rfl rfl ?_
      first | refine ec_move rfl rfl rfl ?_ | refine ec_moveO rfl rfl rfl ?_
      refine ec_sub rfl rfl rfl (by omega) (by omega) ?_
      first | refine ec_move rfl rfl rfl ?_ | refine ec_moveO rfl rfl rfl ?_
      first | refine ec_move rfl rfl rfl ?_ | refine ec_moveO rfl rfl rfl ?_
      refine ec_add rfl rfl rfl (by omega) (by omega) ?_
      first | refine ec_move rfl rfl rfl ?_ | refine ec_moveO rfl rfl rfl ?_
      refine ec_sub rfl rfl rfl (by omega) (by omega) ?_
      first | refine ec_move rfl rfl rfl ?_ | refine ec_moveO rfl rfl rfl ?_
      apply ec_scall (k := 359) (l' := A ++ P ++ V2 ++ V1 ++ (U' ++ Q) ++ C)
      case ha => exact rfl
      case hi => trivial
      case hc => exact ctr_i3 (ctr_swapRange (n := n) (A ++ P) U' V1 V2 (Q ++ C) (by omega) (by simp; omega) h6) (by simp; omega) (by simp; omega) (by omega) (by rw [hVe]; simp) (by simp)
      case hd => exact rfl
      intro acc'
      refine ec_end (fun fr0 he => hK _ _ _ ?_ he)
      clear he fr0 hK K
      refine AWc_reg1 (by repeat (with_reducible (first | exact qv_then | exact qv_loop | exact qv_join | exact qv_end | refine qv_block ?_))) (fun K hK => ?_)
      first | refine ec_move rfl rfl rfl ?_ | refine ec_moveO rfl rfl rfl ?_
      first | refine ec_move rfl rfl rfl ?_ | refine ec_moveO rfl rfl rfl ?_
      refine ec_sub rfl rfl rfl (by omega) (by omega) ?_
      first | refine ec_asg rfl rfl rfl ?_ | refine ec_asgO rfl rfl rfl ?_
      refine ec_end (fun fr0 he => hK _ _ _ ?_ he)
      clear he fr0 hK K
      repeat (with_reducible (first | refine q_norm_then ?_ | refine q_norm_block ?_))
      refine loop_onw (t' := (P, V2, V1, U' ++ Q)) ⟨by simp only [← hi1, hVe]; simp, by simp; omega, by show 0 < V2.length; omega, by show 0 < V1.length; omega⟩ (by simp only; omega) (leFr_cons rfl (.refl _) (leFr_cons rfl (.refl _) (leFr_cons rfl (.refl _) (leFr_cons rfl (.refl _) (leFr_cons rfl (wk_int (by first | omega | (simp; omega) | (simp; done))) (leFr_cons rfl (wk_int (by first | omega | (simp; omega) | (simp; done))) trivial)))))) (by first | (simp; done) | (simp; rfl)) (ptr_own (by simp [frPtrs, AV.ptrs]))
  · skip
    have heq : U'.length = V'.length := by have e : (U'.length : Int) = V'.length := (by simpa using hc); omega
    apply AW_exit
    repeat (with_reducible (first | refine q_exit_then ?_ | refine q_exit_loop ?_ | refine q_exit_block ?_ | refine q_exit_join ?_ | refine q_exit_other (by decide) ?_))
    repeat (with_reducible (first | refine q_norm_then ?_ | refine q_norm_block ?_))
    repeat (with_reducible (first | refine q_norm_then ?_ | refine q_norm_block ?_))
    refine AWc_reg1 (by repeat (with_reducible (first | exact qv_then | exact qv_loop | exact qv_join | exact qv_end | refine qv_block ?_))) (fun K hK => ?_)
    first | refine ec_load rfl ti313 rfl rfl rfl rfl rfl ?_ | refine ec_loadE rfl ti313 rfl rfl rfl ?_ | refine ec_loadO rfl ti313 rfl rfl rfl rfl rfl ?_ | refine ec_loadR rfl ti313 rfl rfl (by decide) (by first | decide | simp [lswC]) rfl ?_ | refine ec_loadER rfl ti313 rfl (by first | decide | simp [lswC]) rfl ?_
    first | refine ec_move rfl rfl rfl ?_ | refine ec_moveO rfl rfl rfl ?_
    first | refine ec_move rfl rfl rfl ?_ | refine ec_moveO rfl rfl rfl ?_
    refine ec_sub rfl rfl rfl (by omega) (by omega) ?_
    first | refine ec_move rfl rfl rfl ?_ | refine ec_moveO rfl rfl rfl ?_
    first | refine ec_move rfl rfl rfl ?_ | refine ec_moveO rfl rfl rfl ?_
    apply ec_scall (k := 359) (l' := A ++ (V ++ U) ++ C)
    case ha => exact rfl
    case hi => trivial
    case hc => exact ctr_i3 (ctr_swapRange (n := n) (A ++ P) U' [] V' (Q ++ C) (by omega) (by simp; omega) h6) (by simp; omega) (by simp; omega) (by omega) (by simp) (by rw [← hi1]; simp)
    case hd => exact rfl
    intro acc'
    refine ec_end (fun fr0 he => hK _ _ _ ?_ he)
    clear he fr0 hK K
    repeat (with_reducible (first | refine q_norm_then ?_ | refine q_norm_block ?_))
    refine end_ret (.inr rfl) rfl (.refl _) ?_ (by simp [smN])
    rw [← List.append_assoc]; exact leMem_smN _ _ _
end Go.Aw
end
