/-
  A part of the proof of SideOrderCardSaid (see the last text, Om): no statement of its own, no condition.
-/
import Derived.Test.YtchgjamonjfjhaaGreatDoorEd
set_option linter.unusedSimpArgs false
set_option linter.unusedVariables false
section
set_option linter.unusedVariables false
namespace Go.Aw
open Go.Proofs Go.Lib

theorem z_mixed : Tryz.prog.follows .mixedOrders = true := by kernel_rfl
theorem z_info62' : (Tryz.prog.info? 62).map (fun i => i.desc) = some (.slice 77) := by kernel_rfl
theorem z_info62 : ∃ i, Tryz.prog.info? 62 = some i ∧ i.desc = .slice 77 := by
  have h := z_info62'
  cases hi : Tryz.prog.info? 62 with
  | none => rw [hi] at h; cases h
  | some i => rw [hi] at h; injection h with h; exact ⟨i, rfl, h⟩
theorem z_info77 : (Tryz.prog.info? 77).map (fun i => (i.size, i.bytes, i.hasPointers)) = some (4, 32, false) := by kernel_rfl
theorem z_info77' : ∃ i, Tryz.prog.info? 77 = some i ∧ i.size = 4 ∧ i.bytes = 32 ∧ i.hasPointers = false := by
  have h := z_info77
  cases hi : Tryz.prog.info? 77 with
  | none => rw [hi] at h; cases h
  | some i => rw [hi] at h; injection h with h; injection h with h1 h2; injection h2 with h2 h3; exact ⟨i, rfl, h1, h2, h3⟩
theorem z_packed : Tryz.prog.packed 62 = false := by kernel_rfl
theorem z_kind77 (w : World) : (Extern.Rtype.kind 77).run Tryz.prog w = .ok 25 w := by kernel_rfl
theorem z_find274 : Tryz.prog.funcs.findIdx? (·.name == "internal/reflectlite.Swapper$1") = some 274 := by kernel_rfl
theorem z_find275 : Tryz.prog.funcs.findIdx? (·.name == "internal/reflectlite.Swapper$2") = some 275 := by kernel_rfl
theorem z_find282 : Tryz.prog.funcs.findIdx? (·.name == "internal/reflectlite.Swapper$9") = some 282 := by kernel_rfl
theorem z_ext195 (args : Array Value) (w : World) : (callFunc 195 args).run Tryz.prog w = ((Extern.ReflectliteValue.unpack (args.getD 0 (.tuple #[]))).run Tryz.prog w).andThen fun v w' => .ok (.value v) w' :=
  run_callFunc_extern Tryz.func195 (by kernel_rfl) (by kernel_rfl) (by kernel_rfl) (e := fun args => Extern.ReflectliteValue.unpack (args.getD 0 (.tuple #[]))) (by kernel_rfl) args w
theorem z_ext196 (args : Array Value) (w : World) : (callFunc 196 args).run Tryz.prog w = ((Extern.ReflectliteSwapper.swapper "internal/reflectlite" (Extern.ReflectliteValue.valueError "Swapper") args).run Tryz.prog w).andThen fun v w' => .ok (.value v) w' :=
  run_callFunc_extern Tryz.func196 (by kernel_rfl) (by kernel_rfl) (by kernel_rfl) (by kernel_rfl) args w
theorem z_ext198 (args : Array Value) (w : World) : (callFunc 198 args).run Tryz.prog w = ((Extern.ReflectliteValue.method (Extern.ReflectliteValue.valueError "reflectlite.Value.Len" 0) Extern.ReflectliteValue.len args).run Tryz.prog w).andThen fun v w' => .ok (.value v) w' :=
  run_callFunc_extern Tryz.func198 (by kernel_rfl) (by kernel_rfl) (by kernel_rfl) (by kernel_rfl) args w
theorem z_ext282 (args : Array Value) (w : World) : (callFunc 282 args).run Tryz.prog w = ((Extern.ReflectliteSwapper.swap false args).run Tryz.prog w).andThen fun v w' => .ok (.value v) w' :=
  run_callFunc_extern Tryz.func282 (by kernel_rfl) (by kernel_rfl) (by kernel_rfl) (by kernel_rfl) args w

theorem z_swapK (ie : TypeInfo) (hb : ie.bytes = 32) (hp : ie.hasPointers = false) : swapperK 0 ie 25 = 1 ∧ swapperK 1 ie 25 = 2 ∧ ∀ n, swapperK (n + 2) ie 25 = 9 := by
  refine ⟨rfl, rfl, fun n => ?_⟩
  simp [swapperK, hb, hp]

theorem ctr_swapper62 {v : AV} {len : Nat} {mem : List (List AV)} (hv : slLen v = some len) :
    Ctr Tryz.prog 196 [.iface 62 v] mem (.ret (match len with | 0 => .func 274 [] [] | 1 => .func 275 [] [] | _ + 2 => .func 282 [] [v.ro, .rawp ⟨Tryz.prog.globals.size, 77, none⟩])) mem := by
  obtain ⟨i, hi, hd⟩ := z_info62
  obtain ⟨ie, hie, h1, h2, h3⟩ := z_info77'
  obtain ⟨k0, k1, k2⟩ := z_swapK ie h2 h3
  match len, hv with
  | 0, hv => have := ctr_swapper (mem := mem) (f := 274) z_ext196 hi hd hie z_kind77 hv (by rw [k0]; exact z_find274); rw [k0] at this; exact this
  | 1, hv => have := ctr_swapper (mem := mem) (f := 275) z_ext196 hi hd hie z_kind77 hv (by rw [k1]; exact z_find275); rw [k1] at this; exact this
  | n + 2, hv => have := ctr_swapper (mem := mem) (f := 282) z_ext196 hi hd hie z_kind77 hv (by rw [k2]; exact z_find282); rw [k2] at this; exact this

theorem ctr_want {v : AV} {o off : Nat} {mem : List (List AV)} (hv : slLen v = some 0) : Ctr Tryz.prog 205 [.ptr o off, v] mem (.ret (.int .i64 0)) mem :=
  ctr_below (enters_of Tryz.func205 rfl (by decide)) fun w R ι ω vs hl hvs => by
    have hsz : vs.size = 2 := by simpa using hl.symm
    obtain ⟨b, g0, _⟩ := (hvs 0 _ _ rfl (Array.getElem?_eq_getElem (by omega))).ptr_inv
    obtain ⟨a, c, g1⟩ := slLen_inv hv (hvs 1 _ _ rfl (Array.getElem?_eq_getElem (by omega)))
    have hvse : vs = #[.pointer (some ⟨b, off, none⟩), .slice a 0 c] := by
      apply Array.ext
      · simp [hsz]
      · intro i h1 h2
        match i with
        | 0 => exact g0
        | 1 => exact g1
        | i + 2 => omega
    rw [hvse]
    refine (want_calls _ a c w).mono ?_
    rintro e w' ⟨rfl, hB⟩
    exact ⟨⟨_, rfl, fun R => .int _ _⟩, hB⟩

theorem extT_ok : CalleeOk Tryz.prog extT := by
  intro n args mem v mem' h
  unfold extT at h
  split at h
  · rename_i hn; obtain rfl := Nat.eq_of_beq_eq_true hn
    split at h
    · split at h
      · rename_i hs; injection h with h; injection h with h1 h2; subst h1; subst h2; exact ctr_want hs
      · cases h
    · cases h
  split at h
  · rename_i hn; obtain rfl := Nat.eq_of_beq_eq_true hn
    split at h
    · split at h
      · rename_i ht; obtain rfl := Nat.eq_of_beq_eq_true ht
        split at h
        · rename_i hs; injection h with h; injection h with h1 h2; subst h1; subst h2
          obtain ⟨i, hi, hd⟩ := z_info62
          exact ctr_valueOf z_ext195 hi hd hs
        · cases h
      · cases h
    · cases h
  split at h
  · rename_i hn; obtain rfl := Nat.eq_of_beq_eq_true hn
    split at h
    · split at h
      · rename_i ht; obtain rfl := Nat.eq_of_beq_eq_true ht
        split at h
        · rename_i hs; injection h with h; injection h with h1 h2; subst h1; subst h2; exact ctr_swapper62 hs
        · rename_i hs; injection h with h; injection h with h1 h2; subst h1; subst h2; exact ctr_swapper62 hs
        · rename_i hs; injection h with h; injection h with h1 h2; subst h1; subst h2; exact ctr_swapper62 hs
        · cases h
      · cases h
    · cases h
  split at h
  · rename_i hn; obtain rfl := Nat.eq_of_beq_eq_true hn
    split at h
    · split at h
      · rename_i ht
        simp only [Bool.and_eq_true] at ht
        obtain ⟨h1, h2⟩ := ht
        obtain rfl := Nat.eq_of_beq_eq_true h1
        obtain rfl := Nat.eq_of_beq_eq_true h2
        split at h
        · rename_i hk
          split at h
          · rename_i hs; injection h with h; injection h with h1 h2; subst h1; subst h2
            obtain ⟨i, hi, hd⟩ := z_info62
            exact ctr_valueLen z_ext198 hi hd z_packed hs hk
          · cases h
        · cases h
      · cases h
    · cases h
  split at h
  · rename_i hn; obtain rfl := Nat.eq_of_beq_eq_true hn
    split at h
    · rename_i k
      split at h
      · rename_i hk; have hk := of_decide_eq_true hk; subst hk
        injection h with h; injection h with h1 h2; subst h1; subst h2; exact ctr_grow0
      · split at h
        · rename_i hk
          simp only [Bool.and_eq_true, decide_eq_true_eq] at hk
          injection h with h; injection h with h1 h2; subst h1; subst h2
          obtain ⟨m, rfl⟩ := Int.eq_ofNat_of_zero_le (show 0 ≤ k by omega)
          exact ctr_grow (by omega) (by omega)
        · cases h
    · cases h
  split at h
  · rename_i hn; obtain rfl := Nat.eq_of_beq_eq_true hn
    split at h
    · split at h
      · rename_i hs; injection h with h; injection h with h1 h2; subst h1; subst h2; exact ctr_bclone hs
      · cases h
    · cases h
  · cases h
end Go.Aw
end
section
namespace Go.Aw
open Go.Proofs
theorem awake12_run : callO Tryz.prog extT 60 10000 29 [] [] = some (.bool true, []) := by kernel_rfl
theorem ctr_awake12 : Ctr Tryz.prog 29 [] [] (.ret (.bool true)) [] := callO_s z_mixed extT_ok 60 10000 29 [] [] _ _ awake12_run
#print axioms ctr_awake12
end Go.Aw
end
