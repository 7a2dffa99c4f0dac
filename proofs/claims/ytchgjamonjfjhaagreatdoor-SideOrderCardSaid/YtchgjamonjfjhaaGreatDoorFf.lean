/-
  A part of the proof of SideOrderCardSaid (see the last text, Om): no statement of its own, no condition.
-/
import Derived.Test.YtchgjamonjfjhaaGreatDoorFe
import Derived.Deep.LoopGhost
import Derived.Scope
set_option linter.unusedSimpArgs false
set_option linter.unusedVariables false
section
set_option linter.unusedSimpArgs false
namespace Go.Aw
open Go.RowKit

inductive AEx where
  | normal
  | exit (id : Nat)
  | goto (l : Nat)
  | ret
  | panic (v : AV)

def PanicV (Γ : Gam) (S : Vw) (v : AV) (chain : List PanicEntry) (w : World) : Prop :=
  ∃ R ι ω x, chain = [{ v := x, recovered := false }] ∧ MR w R ι ω S.m ∧ Env Γ w R ι ω S.m ∧ Rep w R ι ω [2] v x ∧ ∀ n b, ι n = some b → ∃ obj, S.m n = some obj

def DoesPanic (P : Program) [GT P] (nt : Nat) (o : Oper) (rds : List Rd) (wrs : List Wr) (v : AV) : Prop :=
  ∀ (Γ : Gam) (S : Vw) (a : Act) (w : World) (next : Act → World → Prop) (Q : Exit → Act → World → Prop), Γ.Fit P nt → (∀ r, r ∈ rds → S.has r) → RelV Γ S a w →
    (∀ chain w', PanicV Γ (S.puts wrs) v chain w' → Q (.panic chain) a w') → o.wp P a w next Q

theorem does_callPanic {P : Program} [GT P] {nt : Nat} {o : Oper} {f : Operand} {args : Array Operand} {tys : Array TypeId} {n : FuncId} {first cap avs : List AV} {fp : List Nat} {objs mem' : List (List AV)} {v : AV} {N : Nat}
    (hop : o.op = .call { callee := .value f, args := args, argTypes := tys }) (hf : Opd f (.func n first cap)) (hargs : Opds args.toList avs) (hn : fp.Nodup)
    (hap : within fp (AV.ptrsL (AV.roL (first ++ avs ++ cap)))) (hob : within fp (ptrsM objs)) (hlen : objs.length = fp.length)
    (hc : Ctr P n (AV.renL (toCallee fp) (AV.roL (first ++ avs ++ cap))) (renM (toCallee fp) objs) (.panic v) mem')
    (hv : v.ptrs = []) (hv2 : v.ro.ptrs = []) (hm' : ∀ q, q ∈ ptrsM mem' → q < mem'.length) :
    DoesPanic P nt o (rdOf f (.func n first cap) ++ rdsOf args.toList avs ++ (rdsObjs fp objs ++ newRds N (mem'.length - fp.length)))
      (wrsObjs N fp (renM (toCaller fp N) mem')) (v.ro.ren (toCaller fp N)) := by
  intro Γ S a w next Q hnt hr hrel hnx
  have hntn := hnt.1
  obtain ⟨R, ι, ω, hrel, hdom⟩ := hrel
  obtain ⟨r12, r34⟩ := mem_app hr
  obtain ⟨r1, r2⟩ := mem_app r12
  obtain ⟨r3, r4⟩ := mem_app r34
  obtain ⟨f', c', hfe, hsz, hvals⟩ := call_vals hrel hf hargs r1 r2
  have hobjs := rdsObjs_has r3
  have hnew := newRds_has r4
  have hml : (renM (toCallee fp) objs).length = fp.length := by rw [renM_eq, List.length_map, hlen]
  have hfpobj : ∀ (i o : Nat), fp[i]? = some o → ∃ obj, objs[i]? = some obj ∧ S.m o = some obj := by
    intro i o' hi
    have hlt := (List.getElem?_eq_some_iff.1 hi).1
    have hoi : objs[i]? = some (objs[i]'(by omega)) := List.getElem?_eq_getElem (by omega)
    exact ⟨_, hoi, hobjs i o' _ hi hoi⟩
  have hmA : ∀ (i o : Nat) obj, fp[i]? = some o → S.m o = some obj → (renM (toCallee fp) objs)[i]? = some (AV.renL (toCallee fp) obj) := by
    intro i o' obj hi ho
    obtain ⟨ob, h1, h2⟩ := hfpobj i o' hi
    rw [ho] at h2; injection h2 with h2; subst h2
    rw [renM_eq, List.getElem?_map, h1]; rfl
  have hmB : ∀ (i o : Nat), fp[i]? = some o → ∃ obj, S.m o = some obj ∧ ∀ q, q ∈ AV.ptrsL obj → q ∈ fp := by
    intro i o' hi
    obtain ⟨ob, h1, h2⟩ := hfpobj i o' hi
    exact ⟨ob, h2, fun q hq => within_mem hob q (ptrsM_mem h1 hq)⟩
  have hMR : MR w R (calleeIota fp ι) (calleeOmega fp ω) (vw (renM (toCallee fp) objs)) := hrel.mr.callee fp hn _ hml hmA hmB
  have hrun := hc.run w R (calleeIota fp ι) (calleeOmega fp ω) (f' ++ args.map a.eval ++ c') (by rw [renL_length, roL_length]; exact hsz)
    (fun i u x hu hx => callee_args fp hn hvals hap i u x hu (by rw [Array.getElem?_toList]; exact hx)) hMR
    (fun i b hi => by
      simp only [calleeIota] at hi
      cases h1 : fp[i]? with
      | none => rw [h1] at hi; cases hi
      | some o' => rw [hml]; exact (List.getElem?_eq_some_iff.1 h1).1) (hnt.2.ext hrel.env.ext)
  have hle : fp.length ≤ mem'.length := by have := hc.len; omega
  have hdisj : ∀ o', o' ∈ fp → ¬ (N ≤ o' ∧ fp.length + (o' - N) < (renM (toCaller fp N) mem').length) := by
    intro o' ho' hh
    rw [renM_eq, List.length_map] at hh
    obtain ⟨i, hi, hie⟩ := List.getElem_of_mem ho'
    obtain ⟨ob, h1, h2⟩ := hfpobj i o' (by rw [List.getElem?_eq_getElem hi, hie])
    rw [hnew o' hh.1 (by omega)] at h2; cases h2
  unfold Oper.wp
  rcases hrun with ⟨hent, hrun⟩ | ⟨x, w', hent, R', ι', ω', hpost, x', hx', hxr⟩
  case inr => cases hx'
  rw [call_run hop hfe hent]
  simp only [Oper.upon]
  refine hrun.mono ?_
  rintro e w' ⟨R', ι', ω', hpost, x, rfl, hxr⟩
  refine hnx _ _ ?_
  have hcalled := hrel.called fp hn N (fun o' ho' => by
      obtain ⟨i, hi, hie⟩ := List.getElem_of_mem ho'
      obtain ⟨ob, h1, h2⟩ := hfpobj i o' (by rw [List.getElem?_eq_getElem hi, hie])
      obtain ⟨b, hb⟩ := hrel.mr.dom o' ob h2
      exact ⟨b, hb⟩)
    (fun i hl => callee_lv fp _ hml hmA hmB hl)
    (fun o' h1 h2 => by
      have := hnew o' h1 (by omega)
      exact ⟨this, fresh_iota hdom this⟩) hpost (d := none) (fun d hd' => by cases hd') hxr (fun q hq => by rw [hv] at hq; cases hq)
    (fun i obj hi q hq => hm' q (ptrsM_mem hi hq))
  obtain ⟨pg, pm⟩ := puts_objs fp (renM (toCaller fp N) mem') N S hn (by rw [renM_eq, List.length_map]; exact hle) hdisj
  have hmm : (S.puts (wrsObjs N fp (renM (toCaller fp N) mem'))).m = memBack fp N mem' S.m := by
    funext o'
    rw [pm o']
    simp only [memBack]
    cases fp.idxOf? o' with
    | some i => simp only [renM_eq, List.getElem?_map]
    | none => simp only [renM_eq, List.getElem?_map, List.length_map]
  refine ⟨R', _, _, x, rfl, by rw [hmm]; exact hcalled.mr, by rw [hmm]; exact hcalled.env, (hxr.ro_none []).ren _ _ (fun o ho => by rw [hv2] at ho; cases ho) (fun k s hs => by simp at hs), fun n' b hb => ?_⟩
  rw [hmm]
  simp only [iotaBack] at hb
  simp only [memBack]
  cases hix : fp.idxOf? n' with
  | some i =>
    have hi := (List.getElem?_eq_some_iff.1 (get_idxOf hix)).1
    have hi2 : mem'[i]? = some (mem'[i]'(by omega)) := List.getElem?_eq_getElem (by omega)
    show ∃ obj, Option.map (AV.renL (toCaller fp N)) mem'[i]? = some obj
    rw [hi2]
    exact ⟨_, rfl⟩
  | none =>
    simp only
    split at hb
    · rename_i hin
      rw [if_pos hin, List.getElem?_eq_getElem hin.2]
      exact ⟨_, rfl⟩
    · rename_i hin
      rw [if_neg hin]
      exact hdom n' b hb

/-! ### A choice -/
theorem does_pick {P : Program} [GT P] {nt : Nat} {o : Oper} {d : Nat} {c x y : Operand} {b : Bool} {v : AV} (hop : o.op = .pick c x y) (hdst : o.dst = some d) (hd : d < nt) (hc : Opd c (.bool b))
    (hx : Opd (if b = true then x else y) v) : Does P nt o (rdOf c (.bool b) ++ rdOf (if b = true then x else y) v) [.s d (some v.ro)] :=
  does_value hdst hd fun Γ S a w R ι ω hrd hrel => by
    obtain ⟨r1, r2⟩ := mem_app hrd
    have h1 := (hc.rep hrel r1).bool_inv
    have h2 := hx.rep hrel r2
    refine ⟨a.eval (if b = true then x else y), ?_, h2.ro _ _⟩
    cases b <;> simp [execOp, hop, h1, asBool]

/-- Any operation but a choice or a call of a function. -/
def oldOp (P : Program) [GT P] (nt : Nat) (rest : List Oper) (o : Oper) (st : St) (k : K2) : Prop :=
  match o.op with
  | .move x => stMove nt false rest o.dst x st k
  | .assign x => stMove nt true rest o.dst x st k
  | .load t x => stLoad P nt rest o.dst t x st k
  | .store t x y => stStore P o.dst t x y st k
  | .alloc t => stAlloc P nt o.dst t st k
  | .box _ x => stBox nt o.dst x st k
  | .build t parts => stBuild P nt o.dst t parts st k
  | .buildSlice t n parts => stBuildSlice P nt o.dst t n parts st k
  | .fieldAddr s x f => stFieldAddr P nt o.dst s x f st k
  | .indexAddr t x i => stIndexAddr P nt o.dst t x i st k
  | .binOp op t x y _ => stBinOp P nt o.dst op t x y st k
  | .unOp u _ x => stUnOp nt o.dst u x st k
  | .convert s t x => stConvert P nt o.dst s t x st k
  | .slice t x lo hi mx => stSlice P nt o.dst t x lo hi mx st k
  | .extract x i => stExtract nt o.dst x i st k
  | .nilCheck x => stNilCheck nt o.dst x st k
  | .makeFunc fn first cap => stMakeFunc nt o.dst fn first cap st k
  | .makeInterface t x => stMakeInterface P nt o.dst t x st k
  | .call { callee := .builtin .len, args := ⟨[x]⟩, argTypes := tys } => stLen P nt o.dst tys x st k
  | .call { callee := .builtin .append, args := ⟨[s, x]⟩, argTypes := tys } => stAppend P nt o.dst tys s x st k
  | _ => False

theorem oldOp_snd {P : Program} [GT P] {nt : Nat} {o : Oper} {st : St} (rest : List Oper) : Snd P nt o st (oldOp P nt rest o st) := by
  intro k h
  unfold oldOp at h
  split at h
  · rename_i x hop; exact stMove_snd false rest (.inl hop) k h
  · rename_i x hop; exact stMove_snd true rest (.inr hop) k h
  · rename_i t x hop; exact stLoad_snd rest hop k h
  · rename_i t x y hop; exact stStore_snd hop k h
  · rename_i t hop; exact stAlloc_snd hop k h
  · rename_i t x hop; exact stBox_snd hop k h
  · rename_i t parts hop; exact stBuild_snd hop k h
  · rename_i t n parts hop; exact stBuildSlice_snd hop k h
  · rename_i s x f hop; exact stFieldAddr_snd hop k h
  · rename_i t x i hop; exact stIndexAddr_snd hop k h
  · rename_i op t x y t' hop; exact stBinOp_snd hop k h
  · rename_i u t x hop; exact stUnOp_snd hop k h
  · rename_i s t x hop; exact stConvert_snd hop k h
  · rename_i t x lo hi mx hop; exact stSlice_snd hop k h
  · rename_i x i hop; exact stExtract_snd hop k h
  · rename_i x hop; exact stNilCheck_snd hop k h
  · rename_i fn first cap hop; exact stMakeFunc_snd hop k h
  · rename_i t x hop; exact stMakeInterface_snd hop k h
  · rename_i x tys hop; exact stLen_snd hop k h
  · rename_i s x tys hop; exact stAppend_snd hop k h
  · exact h.elim

def stepOp (P : Program) [GT P] (nt : Nat) (rest : List Oper) (o : Oper) (st : St) (k : K2) : Prop :=
  match xNew P nt o st with
  | some (c, r, w) => c = true ∧ k r w
  | none => oldOp P nt rest o st k
theorem stepOp_snd {P : Program} [GT P] {nt : Nat} {o : Oper} {st : St} (rest : List Oper) : Snd P nt o st (stepOp P nt rest o st) := by
  intro k h
  unfold stepOp at h
  split at h
  · rename_i c r w hx
    obtain ⟨hc, hk⟩ := h
    subst hc
    obtain ⟨h1, h2, h3⟩ := xNew_s hx
    exact ⟨r, w, h1, h2, h3, hk⟩
  · exact oldOp_snd rest k h

end Go.Aw
end
section
set_option linter.unusedSimpArgs false
namespace Go.Aw
open Go.RowKit

structure Fp where
  r : List (Bool × Nat)
  w : List (Bool × Nat)
def Rd.loc : Rd → Bool × Nat
  | .s d _ => (false, d)
  | .o n _ => (true, n)
  | .new n => (true, n)
def Wr.loc : Wr → Bool × Nat
  | .s d _ => (false, d)
  | .o n _ => (true, n)
def rdLocs : List Rd → List (Bool × Nat)
  | [] => []
  | x :: r => x.loc :: rdLocs r
def wrLocs : List Wr → List (Bool × Nat)
  | [] => []
  | x :: r => x.loc :: wrLocs r
def mkFp (rds : List Rd) (wrs : List Wr) : Fp := ⟨rdLocs rds, wrLocs wrs⟩

/-- A call's place in a walk: it goes on, once the call's contract is told. -/
def CallK (P : Program) [GT P] (n : FuncId) (args : List AV) (mem : List (List AV)) (k : Out → List (List AV) → Prop) : Prop := ∃ out mem', Ctr P n args mem out mem' ∧ k out mem'
@[congr] theorem CallK_congr {P : Program} [GT P] {n : FuncId} {args args' : List AV} {mem mem' : List (List AV)} {k : Out → List (List AV) → Prop} (h1 : args = args') (h2 : mem = mem') : CallK P n args mem k = CallK P n args' mem' k := by rw [h1, h2]
theorem CallK_intro {P : Program} [GT P] {n : FuncId} {args : List AV} {mem mem' : List (List AV)} {out : Out} {k : Out → List (List AV) → Prop} (h : Ctr P n args mem out mem') (hk : k out mem') : CallK P n args mem k := ⟨out, mem', h, hk⟩

def allLt (n : Nat) : List Nat → Prop
  | [] => True
  | x :: r => x < n ∧ allLt n r
theorem allLt_mem {n : Nat} : ∀ {l : List Nat}, allLt n l → ∀ q, q ∈ l → q < n
  | [], _, q, hq => by cases hq
  | x :: r, h, q, hq => by
    rcases List.mem_cons.1 hq with rfl | hq
    · exact h.1
    · exact allLt_mem h.2 q hq

def gslot (all : List Oper) (j : Nat) : Option Nat := (all[j]?).bind (·.dst)
def guardP (all : List Oper) (o : Oper) (st : St) (perf skip : Prop) : Prop :=
  match o.guard with
  | none => perf
  | some (j, want) => match gslot all j with
    | some d => match getA st.fr d with
      | some (.bool b) => (b = want → perf) ∧ (b = (!want) → skip)
      | some (.tup []) => skip
      | _ => False
    | none => False

def dstLt (nt : Nat) : Option Nat → Prop
  | none => True
  | some d => d < nt
def skipW : Option Nat → List Wr
  | none => []
  | some d => [.s d (some (.tup []))]
theorem skip_rel {Γ : Gam} {S : Vw} {a : Act} {w : World} {nt : Nat} {d : Option Nat} (h : RelV Γ S a w) (hnt : Γ.nt = nt) (hd : dstLt nt d) : RelV Γ (S.puts (skipW d)) (a.put d undef) w := by
  obtain ⟨R, ι, ω, hr, hdom⟩ := h
  cases d with
  | none => exact ⟨R, ι, ω, hr, hdom⟩
  | some d => exact RelV.set hr hdom (by rw [hnt]; exact hd) (.tup _ [] #[] rfl (fun i v x hv => by simp at hv))
theorem tup_nil_inv {w : World} {R : Ext0} {ι : Nat → Option Nat} {ω : Nat → Option (List Nat)} {p : List Nat} {x : Value} (h : Rep w R ι ω p (.tup []) x) : x = .tuple #[] := by
  cases h with
  | pure p v x h => cases h
  | tup p cs vs hl h =>
    have : vs = #[] := by
      apply Array.eq_empty_of_size_eq_zero; simpa using hl.symm
    rw [this]
def guardR (all : List Oper) (o : Oper) : List (Bool × Nat) :=
  match o.guard with
  | none => []
  | some (j, _) => match gslot all j with
    | some d => [(false, d)]
    | none => []

def pickK (nt : Nat) (dst : Option Nat) (b : Bool) (c x : Operand) (st : St) (k : K2) : Prop :=
  match dst, st.ev x with
  | some d, some v => d < nt ∧ k (rdOf c (.bool b) ++ rdOf x v) [.s d (some v.ro)]
  | _, _ => False

/-- One operation, carried out: on with k, or, if it panics, with kp. -/
def perfP (P : Program) [GT P] (nt : Nat) (rest : List Oper) (o : Oper) (st : St) (k : K2) (kp : AV → List Wr → Prop) : Prop :=
  match o.op with
  | .pick c x y => match st.ev c with
    | some (.bool b) => (b = true → pickK nt o.dst true c x st k) ∧ (b = false → pickK nt o.dst false c y st k)
    | _ => False
  | .call { callee := .value f, args := args, .. } => match st.ev f, st.evs args.toList with
    | some (.func n first cap), some avs => match objsOf st.mem (reach st.mem (AV.roL (first ++ avs ++ cap))) with
      | some objs => (within (reach st.mem (AV.roL (first ++ avs ++ cap))) (AV.ptrsL (AV.roL (first ++ avs ++ cap))) ∧ within (reach st.mem (AV.roL (first ++ avs ++ cap))) (ptrsM objs)) ∧
        CallK P n (AV.renL (toCallee (reach st.mem (AV.roL (first ++ avs ++ cap)))) (AV.roL (first ++ avs ++ cap))) (renM (toCallee (reach st.mem (AV.roL (first ++ avs ++ cap)))) objs) fun out mem' =>
          match out with
          | .ret v => ((allLt mem'.length v.ptrs ∧ allLt mem'.length (ptrsM mem')) ∧ dstLt nt o.dst) ∧
            k (rdOf f (.func n first cap) ++ rdsOf args.toList avs ++ (rdsObjs (reach st.mem (AV.roL (first ++ avs ++ cap))) objs ++ newRds st.mem.length (mem'.length - (reach st.mem (AV.roL (first ++ avs ++ cap))).length)))
              (wrsObjs st.mem.length (reach st.mem (AV.roL (first ++ avs ++ cap))) (renM (toCaller (reach st.mem (AV.roL (first ++ avs ++ cap))) st.mem.length) mem') ++ dstW o.dst (v.ren (toCaller (reach st.mem (AV.roL (first ++ avs ++ cap))) st.mem.length)))
          | .panic v => ((v.ptrs = [] ∧ v.ro.ptrs = []) ∧ allLt mem'.length (ptrsM mem')) ∧
            kp (v.ro.ren (toCaller (reach st.mem (AV.roL (first ++ avs ++ cap))) st.mem.length)) (wrsObjs st.mem.length (reach st.mem (AV.roL (first ++ avs ++ cap))) (renM (toCaller (reach st.mem (AV.roL (first ++ avs ++ cap))) st.mem.length) mem'))
      | none => False
    | _, _ => False
  | _ => stepOp P nt rest o st k

def evalOps (P : Program) [GT P] (nt : Nat) (all : List Oper) : List Oper → St → List Fp → (List Fp → St → Prop) → (List Fp → AV → St → Prop) → Prop
  | [], st, acc, K, _ => K acc st
  | o :: rest, st, acc, K, KP =>
    guardP all o st
      (perfP P nt rest o st (fun rds wrs => evalOps P nt all rest (st.puts wrs) (mkFp rds wrs :: acc) K KP) (fun v wrs => KP acc v (st.puts wrs)))
      (dstLt nt o.dst ∧ evalOps P nt all rest (st.puts (skipW o.dst)) (⟨guardR all o, wrLocs (skipW o.dst)⟩ :: acc) K KP)

/-! ### What an operation comes to -/
/-- One way of one operation: it is done, with what is read and written; or it isn't wanted; or it panics. -/
theorem perform_step {P : Program} [GT P] {nt : Nat} {all : List Oper} {o : Oper} {rest : List Oper} {st : St} {acc : List Fp} {K : List Fp → St → Prop} {KP : List Fp → AV → St → Prop}
    (h : perfP P nt rest o st (fun rds wrs => evalOps P nt all rest (st.puts wrs) (mkFp rds wrs :: acc) K KP) (fun v wrs => KP acc v (st.puts wrs))) :
    (∃ rds wrs, Does P nt o rds wrs ∧ (∀ r, r ∈ rds → st.view.has r) ∧ wfW st.mem.length wrs ∧ evalOps P nt all rest (st.puts wrs) (mkFp rds wrs :: acc) K KP) ∨
    (∃ rds wrs v, DoesPanic P nt o rds wrs v ∧ (∀ r, r ∈ rds → st.view.has r) ∧ wfW st.mem.length wrs ∧ KP acc v (st.puts wrs)) := by
  unfold perfP at h
  split at h
  · -- a choice
    rename_i c x y hop
    split at h
    · rename_i b hc
      obtain ⟨hc1, hc2⟩ := ev_spec hc
      cases b
      · have h := h.2 rfl
        unfold pickK at h
        split at h
        · rename_i d v hd hx
          obtain ⟨hx1, hx2⟩ := ev_spec hx
          exact .inl ⟨_, _, does_pick hop hd h.1 hc1 (by simpa using hx1), has_append hc2 hx2, trivial, h.2⟩
        · exact h.elim
      · have h := h.1 rfl
        unfold pickK at h
        split at h
        · rename_i d v hd hx
          obtain ⟨hx1, hx2⟩ := ev_spec hx
          exact .inl ⟨_, _, does_pick hop hd h.1 hc1 (by simpa using hx1), has_append hc2 hx2, trivial, h.2⟩
        · exact h.elim
    · exact h.elim
  · -- a call
    rename_i f args tys hop
    split at h
    · rename_i n first cap avs hf hav
      obtain ⟨hf1, hf2⟩ := ev_spec hf
      obtain ⟨ha1, ha2⟩ := evs_spec hav
      generalize hfp : reach st.mem (AV.roL (first ++ avs ++ cap)) = fp at h
      have hnd : fp.Nodup := hfp ▸ reach_nodup _ _
      split at h
      · rename_i objs hobjs
        obtain ⟨l1, l2⟩ := objsOf_spec hobjs
        obtain ⟨⟨w1, w2⟩, out, mem', hc, h⟩ := h
        have hrd : ∀ r, r ∈ rdsObjs fp objs → st.view.has r := by
          clear hfp hnd w1 w2 hc h
          induction fp generalizing objs with
          | nil => intro r hr; simp [rdsObjs] at hr
          | cons o' fp ih =>
            cases objs with
            | nil => intro r hr; simp [rdsObjs] at hr
            | cons x objs =>
              intro r hr
              simp only [rdsObjs, List.mem_cons] at hr
              simp only [objsOf] at hobjs
              cases hmo : st.mem[o']? with
              | none => rw [hmo] at hobjs; cases hobjs
              | some ob =>
                rw [hmo] at hobjs; simp only at hobjs
                cases hoo : objsOf st.mem fp with
                | none => rw [hoo] at hobjs; cases hobjs
                | some l' =>
                  rw [hoo] at hobjs; simp only at hobjs; injection hobjs with hobjs; injection hobjs with e1 e2
                  subst e1; subst e2
                  rcases hr with rfl | hr
                  · exact hmo
                  · obtain ⟨m1, m2⟩ := objsOf_spec hoo
                    exact ih l' hoo m1 m2 r hr
        have hnew : ∀ (k N : Nat), st.mem.length ≤ N → ∀ r, r ∈ newRds N k → st.view.has r := by
          intro k
          induction k with
          | zero => intro N _ r hr; simp [newRds] at hr
          | succ k ih =>
            intro N hN r hr
            simp only [newRds, List.mem_cons] at hr
            rcases hr with rfl | hr
            · exact List.getElem?_eq_none hN
            · exact ih (N + 1) (by omega) r hr
        have hlt : ∀ o', o' ∈ fp → o' < st.mem.length := by
          intro o' ho'
          obtain ⟨i, hi, hie⟩ := List.getElem_of_mem ho'
          obtain ⟨ob, _, h2⟩ := l2 i o' (by rw [List.getElem?_eq_getElem hi, hie])
          exact (List.getElem?_eq_some_iff.1 h2).1
        have hwf : ∀ (fp : List Nat) (l : List (List AV)) (N len : Nat), (∀ o', o' ∈ fp → o' < len) → N ≤ len → ∀ tl, (∀ len', wfW len' tl) → wfW len (wrsObjs N fp l ++ tl) := by
          intro fp
          induction fp with
          | nil =>
            intro l
            induction l with
            | nil => intro N len _ _ tl htl; exact htl len
            | cons x l ih => intro N len h1 h2 tl htl; exact ⟨h2, ih (N + 1) _ (by simp) (by omega) tl htl⟩
          | cons o' fp ih =>
            intro l N len h1 h2 tl htl
            cases l with
            | nil => exact htl len
            | cons x l => exact ⟨by have := h1 o' (List.mem_cons.2 (.inl rfl)); omega, ih l N _ (fun q hq => by have := h1 q (List.mem_cons.2 (.inr hq)); omega) (by omega) tl htl⟩
        cases out with
        | ret v =>
          obtain ⟨⟨⟨g1, g2⟩, g3⟩, h⟩ := h
          refine .inl ⟨_, _, does_call hop hf1 ha1 hnd w1 w2 l1 hc (allLt_mem g1) (allLt_mem g2) (fun d hd => by rw [hd] at g3; exact g3), has_append (has_append hf2 ha2) (has_append hrd (hnew _ _ (Nat.le_refl _))), ?_, h⟩
          refine hwf fp _ _ _ hlt (Nat.le_refl _) _ (fun len' => ?_)
          cases o.dst <;> trivial
        | panic v =>
          obtain ⟨⟨⟨g1, g2⟩, g3⟩, h⟩ := h
          refine .inr ⟨_, _, _, does_callPanic hop hf1 ha1 hnd w1 w2 l1 hc g1 g2 (allLt_mem g3), has_append (has_append hf2 ha2) (has_append hrd (hnew _ _ (Nat.le_refl _))), ?_, h⟩
          have := hwf fp (renM (toCaller fp st.mem.length) mem') st.mem.length st.mem.length hlt (Nat.le_refl _) [] (fun _ => trivial)
          simpa using this
      · exact h.elim
    · exact h.elim
  · obtain ⟨rds, wrs, h1, h2, h3, h4⟩ := stepOp_snd rest _ h
    exact .inl ⟨rds, wrs, h1, h2, h3, h4⟩

theorem evalOps_list {P : Program} [GT P] {nt : Nat} {all : List Oper} {Q : Exit → Act → World → Prop} {Γ : Gam} (hnt : Γ.Fit P nt) : ∀ (ops : List Oper) (st : St) (acc : List Fp) (K : List Fp → St → Prop) (KP : List Fp → AV → St → Prop),
    evalOps P nt all ops st acc K KP → ∀ a w, RelV Γ st.view a w →
    (∀ acc st' a' w', K acc st' → RelV Γ st'.view a' w' → Q .normal a' w') →
    (∀ acc v st' chain a' w', KP acc v st' → PanicV Γ st'.view v chain w' → a'.defers = [] → Q (.panic chain) a' w') → wpList P all.toArray Q ops a w
  | [], st, acc, K, KP, h, a, w, hrel, hK, _ => hK acc st a w h hrel
  | o :: rest, st, acc, K, KP, h, a, w, hrel, hK, hKP => by
    have perf : ∀ (h' : _) , (Region.wanted o (yielded all.toArray a.tmps) = true) → wpList P all.toArray Q (o :: rest) a w := fun h' hw => by
      unfold wpList
      rw [if_pos hw]
      left
      rcases perform_step (P := P) (nt := nt) (all := all) (o := o) (rest := rest) (st := st) (acc := acc) (K := K) (KP := KP) h' with ⟨rds, wrs, d1, d2, d3, d4⟩ | ⟨rds, wrs, v, d1, d2, d3, d4⟩
      · refine d1 Γ st.view a w _ Q hnt d2 hrel (fun a' w' hr' => ?_)
        rw [← view_puts st wrs d3] at hr'
        exact evalOps_list hnt rest _ _ K KP d4 a' w' hr' hK hKP
      · refine d1 Γ st.view a w _ Q hnt d2 hrel (fun chain w' hp => ?_)
        rw [← view_puts st wrs d3] at hp
        obtain ⟨R, ι, ω, hr, _⟩ := hrel
        exact hKP _ _ _ _ _ _ d4 hp hr.nodef
    unfold evalOps guardP at h
    split at h
    · rename_i hg
      exact perf h (by simp [Region.wanted, hg])
    · rename_i j want hg
      split at h
      · rename_i d hd
        split at h
        · rename_i b hb
          have hrel0 := hrel
          obtain ⟨R, ι, ω, hr, hdom⟩ := hrel
          obtain ⟨x, hx, hxr⟩ := hr.slots d (.bool b) hb
          have hxb := hxr.bool_inv
          subst hxb
          have hy : yielded all.toArray a.tmps j = some b := by
            unfold gslot at hd
            simp only [yielded, List.getElem?_toArray, hd, Option.bind_some, hx]
          by_cases hbw : b = want
          · exact perf (h.1 hbw) (by simp [Region.wanted, hg, hy, hbw])
          · have h2 := h.2 (by cases b <;> cases want <;> simp_all)
            unfold wpList
            rw [if_neg (by simp [Region.wanted, hg, hy, hbw])]
            refine evalOps_list hnt rest _ _ K KP h2.2 _ w ?_ hK hKP
            rw [view_puts st (skipW o.dst) (by cases o.dst <;> trivial)]
            exact skip_rel hrel0 hnt.1 h2.1
        · rename_i hb
          have hrel0 := hrel
          obtain ⟨R, ι, ω, hr, hdom⟩ := hrel
          obtain ⟨x, hx, hxr⟩ := hr.slots d (.tup []) hb
          have hxb := tup_nil_inv hxr
          subst hxb
          have hy : yielded all.toArray a.tmps j = none := by
            unfold gslot at hd
            simp only [yielded, List.getElem?_toArray, hd, Option.bind_some, hx]
          unfold wpList
          rw [if_neg (by simp [Region.wanted, hg, hy])]
          refine evalOps_list hnt rest _ _ K KP h.2 _ w ?_ hK hKP
          rw [view_puts st (skipW o.dst) (by cases o.dst <;> trivial)]
          exact skip_rel hrel0 hnt.1 h.1
        · exact h.elim
      · exact h.elim

end Go.Aw
end
section
set_option linter.unusedSimpArgs false
namespace Go.Aw
open Go.RowKit

def ExV (Γ : Gam) (Q : AEx → St → Prop) : Exit → Act → World → Prop
  | .normal, a, w => ∃ st, Q .normal st ∧ RelV Γ st.view a w
  | .exit id, a, w => ∃ st, Q (.exit id) st ∧ RelV Γ st.view a w
  | .goto l, a, w => ∃ st, Q (.goto l) st ∧ RelV Γ st.view a w
  | .ret, a, w => ∃ st, Q .ret st ∧ RelV Γ st.view a w
  | .panic chain, a, w => ∃ v st, Q (.panic v) st ∧ PanicV Γ st.view v chain w ∧ a.defers = []
  | .outgrown, _, _ => False

/-- From a state of the walk the code leads to one of Q's. -/
def AW (P : Program) [GT P] (nt n0 : Nat) (c : Code) (Q : AEx → St → Prop) (st : St) : Prop :=
  ∀ (Γ : Gam) (a : Act) (w : World), Γ.Fit P nt → (∀ o b, Γ.ι0 o = some b → o < n0) → RelV Γ st.view a w → c.wp P (ExV Γ Q) a w

section
variable {P : Program} [GT P] {nt n0 : Nat} {Q : AEx → St → Prop} {st : St}

def thenQ (P : Program) [GT P] (nt n0 : Nat) (b : Code) (Q : AEx → St → Prop) : AEx → St → Prop
  | .normal, st => AW P nt n0 b Q st
  | e, st => Q e st

theorem AW_seq {x y : Code} (h : AW P nt n0 x (thenQ P nt n0 y Q) st) : AW P nt n0 (.seq x y) Q st := by
  intro Γ a w hnt hn hrel
  refine wp_seq (wp_mono (h Γ a w hnt hn hrel) (fun e a' w' he => ?_))
  cases e with
  | normal => obtain ⟨st', h1, h2⟩ := he; exact h1 Γ a' w' hnt hn h2
  | exit id => exact he
  | goto l => exact he
  | ret => exact he
  | panic ch => exact he
  | outgrown => exact he

theorem AW_skip (h : Q .normal st) : AW P nt n0 .skip Q st := fun _ _ _ _ _ hrel => wp_skip ⟨st, h, hrel⟩
theorem AW_label {l : Nat} (h : Q .normal st) : AW P nt n0 (.label l) Q st := fun _ _ _ _ _ hrel => wp_label ⟨st, h, hrel⟩
theorem AW_exit {id : Nat} (h : Q (.exit id) st) : AW P nt n0 (.exit id) Q st := fun _ _ _ _ _ hrel => wp_exit ⟨st, h, hrel⟩
theorem AW_goto {l : Nat} (h : Q (.goto l) st) : AW P nt n0 (.goto l) Q st := fun _ _ _ _ _ hrel => wp_goto ⟨st, h, hrel⟩
theorem AW_ret (h : Q .ret st) : AW P nt n0 .ret Q st := fun _ _ _ _ _ hrel => wp_ret ⟨st, h, hrel⟩

/-- A test: both ways. -/
def condP (st : St) (c : Operand) (yes no : Prop) : Prop :=
  match st.ev c with
  | some (.bool b) => (b = true → yes) ∧ (b = false → no)
  | _ => False
theorem AW_cond {c : Operand} {x y : Code} (h : ∀ X Y : Prop, (AW P nt n0 x Q st → X) → (AW P nt n0 y Q st → Y) → condP st c X Y) : AW P nt n0 (.cond c x y) Q st := by
  intro Γ a w hnt hn hrel
  have h := h _ _ id id
  unfold condP at h
  split at h
  · rename_i b hb
    obtain ⟨h1, h2⟩ := ev_spec hb
    obtain ⟨R, ι, ω, hr, hdom⟩ := hrel
    have hbv := (h1.rep hr h2).bool_inv
    exact wp_cond_split hbv (fun e => h.1 e Γ a w hnt hn ⟨R, ι, ω, hr, hdom⟩) (fun e => h.2 e Γ a w hnt hn ⟨R, ι, ω, hr, hdom⟩)
  · exact h.elim

def blockQ (id : Nat) (Q : AEx → St → Prop) : AEx → St → Prop
  | .exit id', st => if id' = id then Q .normal st else Q (.exit id') st
  | e, st => Q e st
theorem AW_block {id : Nat} {c : Code} (h : AW P nt n0 c (blockQ id Q) st) : AW P nt n0 (.block id c) Q st := by
  intro Γ a w hnt hn hrel
  refine wp_block (wp_mono (h Γ a w hnt hn hrel) (fun e a' w' he => ?_))
  cases e with
  | normal => exact he
  | exit id' =>
    obtain ⟨st', h1, h2⟩ := he
    simp only [blockQ] at h1
    simp only [Exit.inBlock]
    split at h1
    · rename_i hid; rw [if_pos hid]; exact ⟨st', h1, h2⟩
    · rename_i hid; rw [if_neg hid]; exact ⟨st', h1, h2⟩
  | goto l => exact he
  | ret => exact he
  | panic ch => exact he
  | outgrown => exact he

def scopeQ (Q : AEx → St → Prop) : AEx → St → Prop
  | .goto _, _ => False
  | e, st => Q e st
theorem AW_scope {c : Code} (h : AW P nt n0 c (scopeQ Q) st) : AW P nt n0 (.scope c) Q st := by
  intro Γ a w hnt hn hrel
  refine wp_scope_straight (wp_mono (h Γ a w hnt hn hrel) (fun e a' w' he => ?_))
  cases e with
  | normal => exact he
  | exit id' => exact he
  | goto l => obtain ⟨st', h1, h2⟩ := he; exact h1.elim
  | ret => exact he
  | panic ch => exact he
  | outgrown => exact he

/-! ### Less told -/
def WkL : List AV → List AV → Prop
  | _, [] => True
  | u :: r, v :: l => Wk u v ∧ WkL r l
  | [], _ :: _ => False
theorem WkL_get : ∀ {a b : List AV}, WkL a b → b.length ≤ a.length ∧ ∀ (i : Nat) u v, a[i]? = some u → b[i]? = some v → Wk u v
  | a, [], _ => ⟨by simp, fun i u v _ h => by simp at h⟩
  | [], _ :: _, h => h.elim
  | u :: a, v :: b, h => by
    obtain ⟨h1, h2⟩ := WkL_get h.2
    refine ⟨by simp [h1], fun i x y hx hy => ?_⟩
    cases i with
    | zero => simp at hx hy; subst hx; subst hy; exact h.1
    | succ i => simp at hx hy; exact h2 i x y hx hy
def leFr (fr : List (Nat × AV)) : List (Nat × AV) → Prop
  | [] => True
  | (d, v) :: r => (match getA fr d with | some u => Wk u v | none => False) ∧ leFr fr r
theorem leFr_get {fr : List (Nat × AV)} : ∀ {l : List (Nat × AV)}, leFr fr l → ∀ d v, getA l d = some v → ∃ u, getA fr d = some u ∧ Wk u v
  | [], _, d, v, h => by cases h
  | (e, x) :: l, h, d, v, hv => by
    simp only [getA] at hv
    split at hv
    · rename_i he; subst he; injection hv with hv; subst hv
      have := h.1
      split at this
      · rename_i u hu; exact ⟨u, hu, this⟩
      · exact this.elim
    · exact leFr_get h.2 d v hv
def leMem : List (List AV) → List (List AV) → Prop
  | _, [] => True
  | a :: r, b :: l => WkL a b ∧ leMem r l
  | [], _ :: _ => False
theorem leMem_get : ∀ {a b : List (List AV)}, leMem a b → b.length ≤ a.length ∧ ∀ (i : Nat) y, b[i]? = some y → ∃ x, a[i]? = some x ∧ WkL x y
  | _, [], _ => ⟨by simp, fun i y h => by simp at h⟩
  | [], _ :: _, h => h.elim
  | x :: a, y :: b, h => by
    obtain ⟨h1, h2⟩ := leMem_get h.2
    refine ⟨by simp [h1], fun i z hz => ?_⟩
    cases i with
    | zero => simp at hz; subst hz; exact ⟨x, by simp, h.1⟩
    | succ i => simp at hz; obtain ⟨u, hu, hw⟩ := h2 i z hz; exact ⟨u, by simpa using hu, hw⟩
def frPtrs : List (Nat × AV) → List Nat
  | [] => []
  | (_, v) :: r => v.ptrs ++ frPtrs r
theorem frPtrs_mem : ∀ {l : List (Nat × AV)} {d : Nat} {v : AV}, getA l d = some v → ∀ o, o ∈ v.ptrs → o ∈ frPtrs l
  | (e, x) :: l, d, v, h, o, ho => by
    simp only [getA] at h
    simp only [frPtrs, List.mem_append]
    split at h
    · injection h with h; subst h; exact .inl ho
    · exact .inr (frPtrs_mem h o ho)

structure Le (n0 : Nat) (st st' : St) : Prop where
  fr : leFr st.fr st'.fr
  mem : leMem st.mem st'.mem
  n0 : n0 ≤ st'.mem.length
  p1 : allLt st'.mem.length (frPtrs st'.fr)
  p2 : allLt st'.mem.length (ptrsM st'.mem)

theorem ren_id : ∀ {w : World} {R : Ext0} {ι : Nat → Option Nat} {ω : Nat → Option (List Nat)} {p : List Nat} {v : AV} {x : Value}, Rep w R ι ω p v x → ∀ (ι' : Nat → Option Nat), (∀ o, o ∈ v.ptrs → ∀ b, ι o = some b → ι' o = some b) → Rep w R ι' ω p v x := by
  intro w R ι ω p v x h
  induction h with
  | pure p v x h => intro _ _; exact .pure p v x h
  | ownnil p sz a => intro _ _; exact .ownnil p sz a
  | own p xs sz k off c h hsz hown hw => intro _ _; exact .own p xs sz k off c h hsz hown hw
  | ptr p o off b h => intro ι' hp; exact .ptr p o off b (hp o (by simp [AV.ptrs]) b h)
  | msl p o off len sz b c h hc hcap => intro ι' hp; exact .msl p o off len sz b c (hp o (by simp [AV.ptrs]) b h) hc hcap
  | func p n first cap first' cap' h1 h2 g1 g2 ih1 ih2 =>
    intro ι' hp
    exact .func p n first cap first' cap' h1 h2
      (fun i v x hv hx => ih1 i v x hv hx ι' (fun o ho => hp o (by simp only [AV.ptrs, List.mem_append]; exact .inl (ptrsL_mem hv ho))))
      (fun i v x hv hx => ih2 i v x hv hx ι' (fun o ho => hp o (by simp only [AV.ptrs, List.mem_append]; exact .inr (ptrsL_mem hv ho))))
  | nilfunc p => intro _ _; exact .nilfunc p
  | iface p t v x h ih => intro ι' hp; exact .iface p t v x (ih ι' hp)
  | agg p cs vs hl h ih => intro ι' hp; exact .agg p cs vs hl (fun i v x hv hx => ih i v x hv hx ι' (fun o ho => hp o (ptrsL_mem hv ho)))
  | tup p cs vs hl h ih => intro ι' hp; exact .tup p cs vs hl (fun i v x hv hx => ih i v x hv hx ι' (fun o ho => hp o (ptrsL_mem hv ho)))

theorem relV_less {Γ : Gam} {st' : St} {a : Act} {w : World} (hn : ∀ o b, Γ.ι0 o = some b → o < n0) (hle : Le n0 st st') (h : RelV Γ st.view a w) : RelV Γ st'.view a w := by
  obtain ⟨R, ι, ω, hr, hdom⟩ := h
  let ι' : Nat → Option Nat := fun o => if o < st'.mem.length then ι o else none
  have hι : ∀ o b, o < st'.mem.length → ι o = some b → ι' o = some b := fun o b ho hb => by simp only [ι', ho, if_true]; exact hb
  have hι2 : ∀ o b, ι' o = some b → o < st'.mem.length ∧ ι o = some b := fun o b hb => by
    simp only [ι'] at hb
    split at hb
    · rename_i ho; exact ⟨ho, hb⟩
    · cases hb
  obtain ⟨m1, m2⟩ := leMem_get hle.mem
  have hmem : ∀ (o : Nat) obj', st'.mem[o]? = some obj' → o < st'.mem.length := fun o obj' h => (List.getElem?_eq_some_iff.1 h).1
  have llv : ∀ o, lv st'.view.m o → lv st.view.m o := by
    intro o hl
    obtain ⟨c, l, hc⟩ := hl
    have hc' : st'.mem[o]? = some (c :: l) := hc
    obtain ⟨obj, hobj, hwk⟩ := m2 o _ hc'
    refine lv_some (m := st.view.m) hobj ?_
    rintro rfl
    exact hwk.elim
  refine ⟨R, ι', ω, ⟨fun d v hv => ?_, hr.nt, hr.nodef, ⟨fun o obj' ho => ?_, fun o obj' ho hne => ?_, fun o o' b l1 l2 h1 h2 => ?_, fun k p hk o hl ho => ?_, fun o b hb => ?_, hr.mr.olt⟩,
    ⟨hr.env.ext, hr.env.os, hr.env.tape, hr.env.output, hr.env.kept, fun o b hl hb => ?_, fun o b hb => ?_, hr.env.oold⟩⟩, fun o b hb => ?_⟩
  · obtain ⟨u, hu, hw⟩ := leFr_get hle.fr d v hv
    obtain ⟨x, hx, hxr⟩ := hr.slots d u hu
    exact ⟨x, hx, ren_id (hxr.wk hw) ι' (fun o ho b hb => hι o b (allLt_mem hle.p1 o (frPtrs_mem hv o ho)) hb)⟩
  · obtain ⟨obj, hobj, hwk⟩ := m2 o obj' ho
    obtain ⟨b, hb⟩ := hr.mr.dom o obj hobj
    exact ⟨b, hι o b (hmem o obj' ho) hb⟩
  · obtain ⟨obj, hobj, hwk⟩ := m2 o obj' ho
    obtain ⟨w1, w2⟩ := WkL_get hwk
    have hne2 : obj ≠ [] := by rintro rfl; cases obj' with | nil => exact hne rfl | cons => simp at w1
    obtain ⟨b, arr, e, h1, h2, h3, h4, h5⟩ := hr.mr.objs o obj hobj hne2
    refine ⟨b, arr, e, hι o b (hmem o obj' ho) h1, h2, by omega, h4, fun c v hv => ?_⟩
    have hlt := (List.getElem?_eq_some_iff.1 hv).1
    have hu : obj[c]? = some (obj[c]'(by omega)) := List.getElem?_eq_getElem (by omega)
    obtain ⟨x, hx, hxr⟩ := h5 c _ hu
    exact ⟨x, hx, ren_id (hxr.wk (w2 c _ v hu hv)) ι' (fun q hq b hb => hι q b (allLt_mem hle.p2 q (ptrsM_mem ho (ptrsL_mem hv hq))) hb)⟩
  · exact hr.mr.inj o o' b (llv o l1) (llv o' l2) (hι2 o b h1).2 (hι2 o' b h2).2
  · exact hr.mr.sep k p hk o (llv o hl) (hι2 o k ho).2
  · exact hr.mr.ilt o b (hι2 o b hb).2
  · exact hr.env.inew o b (llv o hl) (hι2 o b hb).2
  · exact hι o b (Nat.lt_of_lt_of_le (hn o b hb) hle.n0) (hr.env.i0 o b hb)
  · obtain ⟨ho, _⟩ := hι2 o b hb
    exact ⟨st'.mem[o], List.getElem?_eq_getElem ho⟩

theorem AW_less {st' : St} {c : Code} (hle : Le n0 st st') (h : AW P nt n0 c Q st') : AW P nt n0 c Q st :=
  fun Γ a w hnt hn hrel => h Γ a w hnt hn (relV_less hn hle hrel)

/-! ### Loops -/
def loopQ (n0 : Nat) {T : Type} (Inv : T → Prop) (I : T → St) (μ : T → Nat) (t : T) (Q : AEx → St → Prop) : AEx → St → Prop
  | .normal, st => ∃ t', Inv t' ∧ μ t' < μ t ∧ Le n0 st (I t')
  | e, st => Q e st
theorem AW_loop {c : Code} {T : Type} (Inv : T → Prop) (I : T → St) (μ : T → Nat) (t0 : T) (h0 : Inv t0) (hle : Le n0 st (I t0))
    (round : ∀ t, Inv t → AW P nt n0 c (loopQ n0 Inv I μ t Q) (I t)) : AW P nt n0 (.loop c) Q st := by
  intro Γ a w hnt hn hrel
  refine wp_loop_ghost (fun n a w => ∃ t, Inv t ∧ μ t = n ∧ RelV Γ (I t).view a w) (μ t0) ⟨t0, h0, rfl, relV_less hn hle hrel⟩ ?_
  rintro n a w ⟨t, hi, rfl, hr⟩
  refine wp_mono (round t hi Γ a w hnt hn hr) (fun e a' w' he => ?_)
  cases e with
  | normal =>
    obtain ⟨st', ⟨t', h1, h2, h3⟩, h4⟩ := he
    exact ⟨μ t', h2, t', h1, rfl, relV_less hn h3 h4⟩
  | exit id' => exact he
  | goto l => exact he
  | ret => exact he
  | panic ch => exact he
  | outgrown => exact he

/-! ### Regions -/
theorem AW_region {id : Nat} {l : List Oper} (h : ∀ (K : List Fp → St → Prop) (KP : List Fp → AV → St → Prop), (∀ acc st', Q .normal st' → K acc st') → (∀ acc v st', Q (.panic v) st' → KP acc v st') →
    evalOps P nt l l st [] K KP) : AW P nt n0 (.region id l.toArray false) Q st := by
  intro Γ a w hnt hn hrel
  refine wp_region_lit ?_
  exact evalOps_list hnt l st [] (fun _ st' => Q .normal st') (fun _ v st' => Q (.panic v) st') (h _ _ (fun _ _ h => h) (fun _ _ _ h => h)) a w hrel
    (fun acc st' a' w' hk hr => ⟨st', hk, hr⟩) (fun acc v st' chain a' w' hk hp hd => ⟨v, st', hk, hp, hd⟩)

end
end Go.Aw
end
section
set_option linter.unusedSimpArgs false
namespace Go.Aw
open Go.RowKit

/-! ### A function's end -/
/-- Where a result lies: in a slot, or in a variable. -/
def resOne (P : Program) [GT P] (st : St) : ResultVar → Option AV
  | .tmp t => getA st.fr t
  | .cell a t => match getA st.fr a, tiOf P t with
    | some (.ptr n off), some ti => match st.mem[n]? with
      | some obj => if ti.d.row = true then (if 0 < ti.size ∧ off + ti.size ≤ obj.length then some (.agg (AV.roL ((obj.drop off).take ti.size))) else none)
        else (obj[off]?).map AV.ro
      | none => none
    | _, _ => none
def resL (P : Program) [GT P] (st : St) : List ResultVar → Option (List AV)
  | [] => some []
  | r :: l => match resOne P st r with
    | some v => match resL P st l with
      | some vs => some (v :: vs)
      | none => none
    | none => none
def resAV (P : Program) [GT P] (st : St) (rs : List ResultVar) : Option AV :=
  match resL P st rs with
  | some [v] => some v
  | some vs => some (.tup vs)
  | none => none

/-- The slots that hold results, by their places among them. -/
def resSlot (d : Nat) : List ResultVar → Nat → Option Nat
  | [], _ => none
  | .tmp t :: r, i => if t = d then some i else resSlot d r (i + 1)
  | .cell _ _ :: r, i => resSlot d r (i + 1)
def resPath (rs : List ResultVar) (f : Nat → List Nat) : List Nat → List Nat
  | 0 :: d :: s => match resSlot d rs 0 with
    | some i => f i ++ s
    | none => 0 :: d :: s
  | p => p
def slotsOf : List ResultVar → List Nat
  | [] => []
  | .tmp t :: r => t :: slotsOf r
  | .cell _ _ :: r => slotsOf r

theorem resSlot_at : ∀ (rs : List ResultVar) (k i t : Nat), (slotsOf rs).Nodup → rs[i]? = some (.tmp t) → resSlot t rs k = some (k + i)
  | [], k, i, t, _, h => by simp at h
  | .tmp u :: r, k, i, t, hn, h => by
    simp only [slotsOf, List.nodup_cons] at hn
    cases i with
    | zero => simp at h; subst h; simp [resSlot]
    | succ i =>
      simp at h
      have hne : u ≠ t := by
        rintro rfl
        have : u ∈ slotsOf r := by
          clear hn
          induction r generalizing i with
          | nil => simp at h
          | cons x r ih =>
            cases i with
            | zero => simp at h; subst h; simp [slotsOf]
            | succ i => simp at h; cases x <;> simp only [slotsOf, List.mem_cons] <;> first | exact .inr (ih i h) | exact ih i h
        exact hn.1 this
      simp only [resSlot, hne, if_false]
      rw [resSlot_at r (k + 1) i t hn.2 h]; congr 1; omega
  | .cell a ty :: r, k, i, t, hn, h => by
    cases i with
    | zero => simp at h
    | succ i =>
      simp at h
      simp only [resSlot]
      rw [resSlot_at r (k + 1) i t hn h]; congr 1; omega

def resSem (tmps : Array Value) : ResultVar → Sem Value
  | .tmp t => pure (tmps.getD t undef)
  | .cell a t => do loadVar t (← asAddr (tmps.getD a undef))
theorem results_eq (fn : Func) (tmps : Array Value) : results fn tmps = (do let vs ← fn.results.mapM (resSem tmps); pure (if h : vs.size = 1 then vs[0] else .tuple vs)) := by
  unfold results
  congr 1

theorem results_run {P : Program} [GT P] {fn : Func} {tmps : Array Value} {w : World} {vs : List Value} (hl : vs.length = fn.results.size)
    (h : ∀ (i : Nat) r, fn.results[i]? = some r → ∃ x, vs[i]? = some x ∧ (resSem tmps r).run P w = .ok x w) :
    (results fn tmps).run P w = .ok (if vs.length = 1 then vs.getD 0 undef else .tuple vs.toArray) w := by
  have key : ∀ (rs : List ResultVar) (vs : List Value), vs.length = rs.length →
      (∀ (i : Nat) r, rs[i]? = some r → ∃ x, vs[i]? = some x ∧ (resSem tmps r).run P w = .ok x w) → (rs.mapM (resSem tmps)).run P w = .ok vs w := by
    intro rs
    induction rs with
    | nil => intro vs hl _; have : vs = [] := List.length_eq_zero_iff.1 hl; subst this; rfl
    | cons r rs ih =>
      intro vs hl h
      cases vs with
      | nil => simp at hl
      | cons v vs =>
        obtain ⟨x, hx, hrun⟩ := h 0 r rfl
        simp at hx; subst hx
        have h2 := ih vs (by simpa using hl) (fun i r' hi => by
          obtain ⟨x, hx, hr⟩ := h (i + 1) r' (by simpa using hi)
          exact ⟨x, by simpa using hx, hr⟩)
        rw [List.mapM_cons, Sem.run_bind, hrun]
        simp only [Result.andThen_ok]
        rw [Sem.run_bind, h2]
        rfl
  have h1 := key fn.results.toList vs (by simpa using hl) (fun i r hi => h i r (by simpa using hi))
  rw [results_eq, Sem.run_bind, Array.mapM_eq_mapM_toList, Sem.run_map, h1]
  simp only [Result.andThen_ok]
  by_cases h1' : vs.length = 1
  · rw [if_pos h1']
    obtain ⟨v, rfl⟩ := List.length_eq_one_iff.1 h1'
    rfl
  · rw [if_neg h1']
    have : ¬ vs.toArray.size = 1 := by simpa using h1'
    simp only [this, dif_neg, not_false_eq_true]
    rfl

theorem resL_spec {P : Program} [GT P] {st : St} : ∀ {rs : List ResultVar} {vs : List AV}, resL P st rs = some vs → vs.length = rs.length ∧ ∀ (i : Nat) r, rs[i]? = some r → ∃ v, vs[i]? = some v ∧ resOne P st r = some v
  | [], vs, h => by simp only [resL] at h; injection h with h; subst h; exact ⟨rfl, fun i r hi => by simp at hi⟩
  | r :: rs, vs, h => by
    simp only [resL] at h
    cases hr : resOne P st r with
    | none => rw [hr] at h; cases h
    | some v =>
      rw [hr] at h; simp only at h
      cases hl : resL P st rs with
      | none => rw [hl] at h; cases h
      | some vs' =>
        rw [hl] at h; simp only at h; injection h with h; subst h
        obtain ⟨h1, h2⟩ := resL_spec hl
        refine ⟨by simp [h1], fun i r' hi => ?_⟩
        cases i with
        | zero => simp at hi; subst hi; exact ⟨v, by simp, hr⟩
        | succ i => simp at hi; obtain ⟨v', e1, e2⟩ := h2 i r' hi; exact ⟨v', by simpa using e1, e2⟩

/-- One result: its value, wherever its place is told. -/
theorem resOne_run {P : Program} [GT P] {Γ : Gam} {st : St} {a : Act} {w : World} {R : Ext0} {ι : Nat → Option Nat} {ω : Nat → Option (List Nat)} (h : Rel Γ st.view.g st.view.m a w R ι ω) {r : ResultVar} {v : AV} (hr : resOne P st r = some v) :
    ∃ x, (resSem a.tmps r).run P w = .ok x w ∧ ∀ (q : List Nat) (ω' : Nat → Option (List Nat)), (∀ t, r = .tmp t → ∀ k s, ω k = some ([0, t] ++ s) → ω' k = some (q ++ s)) → Rep w R ι ω' q v x := by
  cases r with
  | tmp t =>
    have hg : st.view.g t = some v := hr
    have hrep := eval_tmp h hg
    refine ⟨a.eval (.tmp t), ?_, fun q ω' hq => hrep.remap q (hq t rfl)⟩
    simp [resSem, Act.eval]
  | cell ad t =>
    simp only [resOne] at hr
    split at hr
    · rename_i n off ti hg hti
      obtain ⟨i, z, htd, hi, hz, hzc, hzl, hsz, hby⟩ := tiOf_spec hti
      obtain ⟨dt, hdt, hrow, _⟩ := tdOf_row htd
      have hg' : st.view.g ad = some (.ptr n off) := hg
      obtain ⟨b, hb, hιb⟩ := (eval_tmp h hg').ptr_inv
      have hb' : a.tmps.getD ad undef = .pointer (some ⟨b, off, none⟩) := by simpa [Act.eval] using hb
      split at hr
      · rename_i obj hobj
        have hne0 : obj ≠ [] := by
          rintro rfl
          simp at hr
          try omega
        obtain ⟨arr, e, k1, k2, k3, k4⟩ := RelV.obj h (S := st.view) hobj hne0 hιb
        split at hr
        · rename_i hrw
          split at hr
          · rename_i hl
            injection hr with hr; subst hr
            have hlen : ((arr.toList.drop off).take ti.size).length = ti.size := by simp; omega
            refine ⟨.agg ((arr.toList.drop off).take ti.size).toArray, ?_, fun q ω' _ => .agg _ _ _ (by rw [roL_length]; simp; omega) ?_⟩
            · have := run_loadVar_mid (P := P) w b off t ((arr.toList.drop off).take ti.size) dt (fun j v hj => by
                rw [cell_of_heap k1]
                have hj2 : j < ti.size := by have := (List.getElem?_eq_some_iff.1 hj).1; omega
                rw [List.getElem?_take_of_lt hj2, List.getElem?_drop] at hj
                simpa using hj) hdt (hrow.trans hrw) (by rw [hlen, hi]; simp [hsz])
              simp only [resSem, hb']
              rw [Sem.run_bind]
              simp [asAddr, this]
            · intro j v y hv hy
              obtain ⟨u, hu, rfl⟩ := roL_get hv
              have hj2 : j < ti.size := by have := (List.getElem?_eq_some_iff.1 hu).1; rw [List.length_take] at this; omega
              rw [List.getElem?_take_of_lt hj2, List.getElem?_drop] at hu
              obtain ⟨z', hz', hzr⟩ := k4 _ u hu
              have hyz : z' = y := by
                simp only [List.getElem?_toArray] at hy
                rw [List.getElem?_take_of_lt hj2, List.getElem?_drop] at hy
                have : arr.toList[off + j]? = some z' := by simpa using hz'
                rw [this] at hy; injection hy
              subst hyz
              exact hzr.ro _ _
          · cases hr
        · rename_i hrw
          cases hov : obj[off]? with
          | none => rw [hov] at hr; cases hr
          | some u =>
            rw [hov] at hr; simp only [Option.map_some] at hr; injection hr with hr; subst hr
            obtain ⟨z', hz', hzr⟩ := k4 off u hov
            refine ⟨z', ?_, fun q ω' _ => hzr.ro _ _⟩
            have hagg : (isAgg t).run P w = .ok false w := by
              unfold isAgg; rw [Sem.run_bind, run_underlying hdt w]
              have : dt.isRow = false := by rw [hrow]; simpa using hrw
              cases dt <;> simp_all
            have hc : w.cell? ⟨b, off, none⟩ = some z' := (cell_of_heap k1 off).trans hz'
            simp only [resSem, hb']
            rw [Sem.run_bind]
            simp [asAddr, loadVar, hagg, load, Sem.run, hc]
      · cases hr
    · cases hr

/-- What is left at a function's end. -/
def endQ (P : Program) [GT P] (rs : List ResultVar) (n0 : Nat) (out : Out) (mem' : List (List AV)) : AEx → St → Prop
  | .normal, st => match out with
    | .ret v => (match resAV P st rs with | some u => Wk u v | none => False) ∧ leMem st.mem mem' ∧ n0 ≤ mem'.length
    | .panic _ => False
  | .ret, st => match out with
    | .ret v => (match resAV P st rs with | some u => Wk u v | none => False) ∧ leMem st.mem mem' ∧ n0 ≤ mem'.length
    | .panic _ => False
  | .panic v, st => match out with
    | .panic u => (v = u ∧ leMem st.mem mem') ∧ n0 ≤ mem'.length
    | .ret _ => False
  | _, _ => False

def argFr (i : Nat) : List AV → List (Nat × AV)
  | [] => []
  | v :: r => (i, v.ro) :: argFr (i + 1) r
theorem argFr_get : ∀ (l : List AV) (i d : Nat) (v : AV), getA (argFr i l) d = some v → ∃ u, i ≤ d ∧ l[d - i]? = some u ∧ v = u.ro
  | [], i, d, v, h => by cases h
  | u :: l, i, d, v, h => by
    simp only [argFr, getA] at h
    split at h
    · rename_i he; subst he; injection h with h; exact ⟨u, Nat.le_refl _, by simp, h.symm⟩
    · rename_i he
      obtain ⟨u', h1, h2, h3⟩ := argFr_get l (i + 1) d v h
      refine ⟨u', by omega, ?_, h3⟩
      rw [show d - i = (d - (i + 1)) + 1 from by omega, List.getElem?_cons_succ]; exact h2

theorem less_lv {mem mem' : List (List AV)} (hle : leMem mem mem') {o : Nat} (h : lv (vw mem') o) : lv (vw mem) o := by
  obtain ⟨m1, m2⟩ := leMem_get hle
  obtain ⟨c, l, hc⟩ := h
  obtain ⟨obj, hobj, hwk⟩ := m2 o _ hc
  refine lv_some (m := vw mem) hobj ?_
  rintro rfl
  exact hwk.elim
theorem mr_less {w : World} {R : Ext0} {ι : Nat → Option Nat} {ω : Nat → Option (List Nat)} {mem mem' : List (List AV)} (h : MR w R ι ω (fun o => mem[o]?)) (hle : leMem mem mem') : MR w R ι ω (vw mem') := by
  obtain ⟨m1, m2⟩ := leMem_get hle
  refine ⟨fun o obj' ho => ?_, fun o obj' ho hne => ?_, fun o o' b l1 l2 => h.inj o o' b (less_lv hle l1) (less_lv hle l2), fun k p hk o hl => h.sep k p hk o (less_lv hle hl), h.ilt, h.olt⟩
  · obtain ⟨obj, hobj, hwk⟩ := m2 o obj' ho
    exact h.dom o obj hobj
  obtain ⟨obj, hobj, hwk⟩ := m2 o obj' ho
  obtain ⟨w1, w2⟩ := WkL_get hwk
  have hne2 : obj ≠ [] := by rintro rfl; cases obj' with | nil => exact hne rfl | cons => simp at w1
  obtain ⟨b, arr, e, h1, h2, h3, h4, h5⟩ := h.objs o obj hobj hne2
  refine ⟨b, arr, e, h1, h2, by omega, h4, fun c v hv => ?_⟩
  have hlt := (List.getElem?_eq_some_iff.1 hv).1
  have hu : obj[c]? = some (obj[c]'(by omega)) := List.getElem?_eq_getElem (by omega)
  obtain ⟨x, hx, hxr⟩ := h5 c _ hu
  exact ⟨x, hx, hxr.wk (w2 c _ v hu hv)⟩

theorem ctr_of {P : Program} [GT P] {n : FuncId} {fn : Func} {code : Code} {args : List AV} {mem mem' : List (List AV)} {out : Out} {nt : Nat} {rs : List ResultVar} (hf : P.funcs[n]? = some fn) (hb : fn.body = some code) (hnt : fn.ntmps = nt) (hen : Enters P n)
    (hrs : fn.results.toList = rs) (hnd : (slotsOf rs).Nodup) (hargs : args.length ≤ nt) (hmm : mem.length ≤ mem'.length) (h : AW P nt mem.length code (endQ P rs mem.length out mem') ⟨argFr 0 args, mem⟩) : Ctr P n args mem out mem' where
  len := hmm
  run := fun w R ι ω vs hl hvs hmr hdom hgk => by
    refine .inl ⟨hen _ _, calls_of_wp hf hb ?_⟩
    let Γ : Gam := ⟨w, R, ι, fun b => (∃ o, lv (vw mem) o ∧ ι o = some b) ∨ ∃ p, ω b = some p, nt⟩
    have hsize : (vs ++ Array.replicate (fn.ntmps - vs.size) undef).size = nt := by simp; omega
    have hrel : RelV Γ (St.view ⟨argFr 0 args, mem⟩) { tmps := vs ++ Array.replicate (fn.ntmps - vs.size) undef, defers := [] } w := by
      refine ⟨R, ι, ω, ⟨fun d v hv => ?_, hsize, rfl, hmr, ⟨Ext.refl _ _, rfl, rfl, rfl, fun _ _ _ => ⟨rfl, rfl⟩, fun o b hl hb => .inl (.inl ⟨o, hl, hb⟩), fun o b hb => hb, fun k p hp => .inr (.inr ⟨p, hp⟩)⟩⟩, fun o b hb => ?_⟩
      · obtain ⟨u, h1, h2, rfl⟩ := argFr_get args 0 d v hv
        simp only [Nat.sub_zero] at h2
        have hlt := (List.getElem?_eq_some_iff.1 h2).1
        have hx : vs[d]? = some (vs[d]'(by omega)) := Array.getElem?_eq_getElem (by omega)
        exact ⟨vs[d]'(by omega), by rw [Array.getElem?_append_left (by omega)]; exact hx, (hvs d u _ h2 hx).ro _ _⟩
      · exact ⟨mem[o]'(hdom o b hb), List.getElem?_eq_getElem (hdom o b hb)⟩
    -- the end
    have fin : ∀ (st : St) (a' : Act) (w' : World) (v : AV), RelV Γ st.view a' w' → (match resAV P st rs with | some u => Wk u v | none => False) → leMem st.mem mem' →
        a'.defers = [] ∧ ∃ x, (results fn a'.tmps).run P w' = .ok x w' ∧ ∃ R' ι' ω', Post w R ι ω (vw mem) w' R' ι' ω' mem' ∧ OutIs w' R' ι' ω' (.ret v) (.returned x) := by
      rintro st a' w' v ⟨R', ι', ω', hr, hdom'⟩ hres hlm
      refine ⟨hr.nodef, ?_⟩
      split at hres
      · rename_i u hu
        have hrl : ∃ vs', resL P st rs = some vs' ∧ ((vs'.length = 1 ∧ vs' = [u]) ∨ (vs'.length ≠ 1 ∧ u = .tup vs')) := by
          unfold resAV at hu
          split at hu
          · rename_i v' hv'; injection hu with hu; subst hu; exact ⟨_, hv', .inl ⟨rfl, rfl⟩⟩
          · rename_i vs' hne hv'
            injection hu with hu
            refine ⟨vs', hv', .inr ⟨fun h1 => ?_, hu.symm⟩⟩
            obtain ⟨z, rfl⟩ := List.length_eq_one_iff.1 h1
            exact hne z rfl
          · cases hu
        obtain ⟨vs', hvs', hcase⟩ := hrl
        obtain ⟨l1, l2⟩ := resL_spec hvs'
        -- the places
        let f : Nat → List Nat := fun i => if vs'.length = 1 then [2] else [2, i]
        have hone : ∀ (i : Nat) r, rs[i]? = some r → ∃ v' x, vs'[i]? = some v' ∧ (resSem a'.tmps r).run P w' = .ok x w' ∧ Rep w' R' ι' (fun k => (ω' k).map (resPath rs f)) (f i) v' x := by
          intro i r hi
          obtain ⟨v', hv', hr1⟩ := l2 i r hi
          obtain ⟨x, hx, hxr⟩ := resOne_run hr hr1
          refine ⟨v', x, hv', hx, hxr _ _ (fun t ht k s hk => ?_)⟩
          subst ht
          have hs := resSlot_at rs 0 i t hnd hi
          simp only [hk, Option.map_some, List.cons_append, List.nil_append, resPath, hs, Nat.zero_add]
        have hex : ∃ ws : List Value, ws.length = rs.length ∧ ∀ (i : Nat) r, rs[i]? = some r → ∃ v' x, vs'[i]? = some v' ∧ ws[i]? = some x ∧ (resSem a'.tmps r).run P w' = .ok x w' ∧ Rep w' R' ι' (fun k => (ω' k).map (resPath rs f)) (f i) v' x := by
          have : ∀ (m : Nat), m ≤ rs.length → ∃ ws : List Value, ws.length = m ∧ ∀ (i : Nat) r, i < m → rs[i]? = some r → ∃ v' x, vs'[i]? = some v' ∧ ws[i]? = some x ∧ (resSem a'.tmps r).run P w' = .ok x w' ∧ Rep w' R' ι' (fun k => (ω' k).map (resPath rs f)) (f i) v' x := by
            intro m
            induction m with
            | zero => intro _; exact ⟨[], rfl, fun i r h => by omega⟩
            | succ m ih =>
              intro hm
              obtain ⟨ws, w1, w2⟩ := ih (by omega)
              obtain ⟨v', x, h1, h2, h3⟩ := hone m _ (List.getElem?_eq_getElem (show m < rs.length by omega))
              refine ⟨ws ++ [x], by simp [w1], fun i r hi hri => ?_⟩
              by_cases him : i = m
              · subst him
                rw [List.getElem?_eq_getElem (show i < rs.length by omega)] at hri; injection hri with hri; subst hri
                exact ⟨v', x, h1, by rw [List.getElem?_append_right (by omega), w1]; simp, h2, h3⟩
              · obtain ⟨v2, x2, g1, g2, g3, g4⟩ := w2 i r (by omega) hri
                exact ⟨v2, x2, g1, by rw [List.getElem?_append_left (by omega)]; exact g2, g3, g4⟩
          obtain ⟨ws, w1, w2⟩ := this rs.length (Nat.le_refl _)
          exact ⟨ws, w1, fun i r hi => w2 i r (List.getElem?_eq_some_iff.1 hi).1 hi⟩
        obtain ⟨ws, w1, w2⟩ := hex
        have hrun := results_run (P := P) (fn := fn) (tmps := a'.tmps) (w := w') (vs := ws) (by rw [← Array.length_toList, hrs]; exact w1)
          (fun i r hi => by
            have hi' : rs[i]? = some r := by rw [← hrs]; simpa using hi
            obtain ⟨v', x, g1, g2, g3, g4⟩ := w2 i r hi'
            exact ⟨x, g2, g3⟩)
        refine ⟨_, hrun, R', ι', fun k => (ω' k).map (resPath rs f), ?_, ?_⟩
        · have hmr' := (hr.mr.remap (resPath rs f) (fun o c s => rfl))
          refine ⟨hr.env.ext, hr.env.os, hr.env.tape, hr.env.output, fun b hb ho hw => hr.env.kept b hb (fun hM => ?_), mr_less hmr' hlm, fun o b hb => hr.env.i0 o b hb, fun o b hl hb => ?_, fun k p hk => ?_⟩
          · rcases hM with ⟨o, hl, h1⟩ | ⟨p, h1⟩
            · exact ho o hl h1
            · rw [hw] at h1; cases h1
          · rcases hr.env.inew o b (less_lv hlm hl) hb with (⟨o2, h1, h2⟩ | ⟨p, h1⟩) | h1
            · exact .inl ⟨o2, h1, h2⟩
            · exact .inr (.inr ⟨p, h1⟩)
            · exact .inr (.inl h1)
          · cases hw : ω' k with
            | none => simp [hw] at hk
            | some q =>
              rcases hr.env.oold k q hw with h1 | h1
              · exact .inl h1
              · rcases h1 with ⟨o, h2, h3⟩ | ⟨p2, h2⟩
                · exact .inr (.inr ⟨o, h2, h3⟩)
                · exact .inr (.inl ⟨p2, h2⟩)
        · refine ⟨_, rfl, Rep.wk ?_ hres⟩
          rcases hcase with ⟨c1, rfl⟩ | ⟨c1, rfl⟩
          · have hws : ws.length = 1 := by omega
            rw [if_pos hws]
            have hr0 : rs[0]? = some (rs[0]'(by omega)) := List.getElem?_eq_getElem (by omega)
            obtain ⟨v', x, g1, g2, g3, g4⟩ := w2 0 _ hr0
            simp at g1; subst g1
            have : ws.getD 0 undef = x := by rw [List.getD_eq_getElem?_getD, g2]; rfl
            rw [this]
            simpa [f] using g4
          · have hws : ¬ ws.length = 1 := by omega
            rw [if_neg hws]
            refine .tup _ _ _ (by simp; omega) (fun i v' x hv' hx => ?_)
            have hlt := (List.getElem?_eq_some_iff.1 hv').1
            have hri : rs[i]? = some (rs[i]'(by omega)) := List.getElem?_eq_getElem (by omega)
            obtain ⟨v2, x2, g1, g2, g3, g4⟩ := w2 i _ hri
            rw [hv'] at g1; injection g1 with g1; subst g1
            have : x2 = x := by
              simp only [List.getElem?_toArray] at hx
              rw [g2] at hx; injection hx
            subst this
            simpa [f, c1] using g4
      · exact hres.elim
    refine wp_mono (h Γ _ w ⟨rfl, hgk⟩ hdom hrel) (fun e a' w' he => ?_)
    cases e with
    | normal =>
      obtain ⟨st, h1, h2⟩ := he
      cases out with
      | ret v =>
        obtain ⟨h3, h4, h5⟩ := h1
        obtain ⟨g1, x, g2, g3⟩ := fin st a' w' v h2 h3 h4
        exact ⟨g1, x, g2, g3⟩
      | panic v => exact h1.elim
    | ret =>
      obtain ⟨st, h1, h2⟩ := he
      cases out with
      | ret v =>
        obtain ⟨h3, h4, h5⟩ := h1
        obtain ⟨g1, x, g2, g3⟩ := fin st a' w' v h2 h3 h4
        exact ⟨g1, x, g2, g3⟩
      | panic v => exact h1.elim
    | exit id => obtain ⟨st, h1, _⟩ := he; exact h1.elim
    | goto l => obtain ⟨st, h1, _⟩ := he; exact h1.elim
    | panic chain =>
      obtain ⟨v, st, h1, ⟨R', ι', ω', x, rfl, hmr', henv, hxr, hd⟩, hdef⟩ := he
      cases out with
      | ret v => exact h1.elim
      | panic u =>
        obtain ⟨⟨rfl, h3⟩, h4⟩ := h1
        refine ⟨hdef, R', ι', ω', ⟨henv.ext, henv.os, henv.tape, henv.output, fun b hb ho hw => henv.kept b hb (fun hM => ?_), mr_less hmr' h3, fun o b hb => henv.i0 o b hb, fun o b hl hb => ?_, fun k p hk => ?_⟩, x, rfl, hxr⟩
        · rcases hM with ⟨o, hl, h1⟩ | ⟨p, h1⟩
          · exact ho o hl h1
          · rw [hw] at h1; cases h1
        · rcases henv.inew o b (less_lv h3 hl) hb with (⟨o2, h1, h2⟩ | ⟨p, h1⟩) | h1
          · exact .inl ⟨o2, h1, h2⟩
          · exact .inr (.inr ⟨p, h1⟩)
          · exact .inr (.inl h1)
        · rcases henv.oold k p hk with h1 | h1
          · exact .inl h1
          · rcases h1 with ⟨o, h2, h3⟩ | ⟨p2, h2⟩
            · exact .inr (.inr ⟨o, h2, h3⟩)
            · exact .inr (.inl ⟨p2, h2⟩)
    | outgrown => exact he.elim

end Go.Aw
end
