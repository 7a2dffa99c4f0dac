/-
  A part of the proof of SideOrderCardSaid (see the last text, Om): no statement of its own, no condition.
-/
import Derived.Test.YtchgjamonjfjhaaGreatDoorFg
import Derived.LoopN
import Derived.Test.YtchgjamonjfjhaaGreatDoorFe
import Derived.Lib.ReflectliteSlice
import Derived.Lib.ReflectliteSwap
import Derived.Laws.Externs
set_option linter.unusedSimpArgs false
set_option linter.unusedVariables false
section
set_option linter.unusedSimpArgs false
set_option linter.unusedVariables false
namespace Go.Aw
open Go.RowKit

def xOld (P : Program) [GT P] (nt : Nat) (rest : List Oper) (o : Oper) (st : St) : RW :=
  match o.op with
  | .move x => xMove nt false rest o.dst x st
  | .assign x => xMove nt true rest o.dst x st
  | .load t x => xLoad P nt rest o.dst t x st
  | .store t x y => xStore P o.dst t x y st
  | .alloc t => xAlloc P nt o.dst t st
  | .box _ x => xBox nt o.dst x st
  | .build t parts => xBuild P nt o.dst t parts st
  | .buildSlice t n parts => xBuildSlice P nt o.dst t n parts st
  | .fieldAddr s x f => xFieldAddr P nt o.dst s x f st
  | .indexAddr t x i => xIndexAddr P nt o.dst t x i st
  | .binOp op t x y _ => xBinOp P nt o.dst op t x y st
  | .unOp u _ x => xUnOp nt o.dst u x st
  | .convert s t x => xConvert P nt o.dst s t x st
  | .slice t x lo hi mx => xSlice P nt o.dst t x lo hi mx st
  | .extract x i => xExtract nt o.dst x i st
  | .nilCheck x => xNilCheck nt o.dst x st
  | .makeFunc fn first cap => xMakeFunc nt o.dst fn first cap st
  | .makeInterface t x => xMakeInterface P nt o.dst t x st
  | .call { callee := .builtin .len, args := ⟨[x]⟩, argTypes := tys } => xLen P nt o.dst tys x st
  | .call { callee := .builtin .append, args := ⟨[s, x]⟩, argTypes := tys } => xAppend P nt o.dst tys s x st
  | _ => none
theorem xOld_s {P : Program} [GT P] {nt : Nat} {rest : List Oper} {o : Oper} {st : St} {r : List Rd} {w : List Wr} (h : xOld P nt rest o st = some (r, w)) (k : K2) (hk : k r w) : oldOp P nt rest o st k := by
  unfold xOld at h
  unfold oldOp
  split at h <;> rename_i hop <;> simp only [hop] <;> first
    | exact xMove_s h k hk
    | exact xLoad_s h k hk
    | exact xStore_s h k hk
    | exact xAlloc_s h k hk
    | exact xBox_s h k hk
    | exact xBuild_s h k hk
    | exact xBuildSlice_s h k hk
    | exact xFieldAddr_s h k hk
    | exact xIndexAddr_s h k hk
    | exact xBinOp_s h k hk
    | exact xUnOp_s h k hk
    | exact xConvert_s h k hk
    | exact xSlice_s h k hk
    | exact xExtract_s h k hk
    | exact xNilCheck_s h k hk
    | exact xMakeFunc_s h k hk
    | exact xMakeInterface_s h k hk
    | exact xLen_s h k hk
    | exact xAppend_s h k hk
    | cases h

def xOp (P : Program) [GT P] (nt : Nat) (rest : List Oper) (o : Oper) (st : St) : RW :=
  match xNew P nt o st with
  | some (c, r, w) => if c then some (r, w) else none
  | none => xOld P nt rest o st
theorem xOp_s {P : Program} [GT P] {nt : Nat} {rest : List Oper} {o : Oper} {st : St} {r : List Rd} {w : List Wr} (h : xOp P nt rest o st = some (r, w)) (k : K2) (hk : k r w) : stepOp P nt rest o st k := by
  unfold xOp at h
  unfold stepOp
  cases hx : xNew P nt o st with
  | some p =>
    obtain ⟨c, r', w'⟩ := p
    rw [hx] at h
    simp only at h
    split at h
    · rename_i hc; injection h with h; injection h with h1 h2; subst h1; subst h2; exact ⟨hc, hk⟩
    · cases h
  | none =>
    rw [hx] at h
    exact xOld_s h k hk

abbrev Callee := FuncId → List AV → List (List AV) → Option (AV × List (List AV))

def natMem (x : Nat) : List Nat → Bool
  | [] => false
  | y :: r => Nat.beq x y || natMem x r
theorem natMem_iff {x : Nat} : ∀ {l : List Nat}, natMem x l = true → x ∈ l
  | [], h => by cases h
  | y :: r, h => by
    simp only [natMem, Bool.or_eq_true, Nat.beq_eq] at h
    rcases h with h | h
    · simp [h]
    · simp [natMem_iff h]
def withinB (fp : List Nat) : List Nat → Bool
  | [] => true
  | x :: r => natMem x fp && withinB fp r
def allLtB (n : Nat) : List Nat → Bool
  | [] => true
  | x :: r => Nat.blt x n && allLtB n r
theorem allLtB_s {n : Nat} : ∀ {l : List Nat}, allLtB n l = true → allLt n l
  | [], _ => trivial
  | x :: r, h => by simp only [allLtB, Bool.and_eq_true, Nat.blt_eq] at h; exact ⟨h.1, allLtB_s h.2⟩
def dstLtB (nt : Nat) : Option Nat → Bool
  | none => true
  | some d => Nat.blt d nt

def xPick (nt : Nat) (dst : Option Nat) (c x y : Operand) (st : St) : RW :=
  match st.ev c with
  | some (.bool true) => match dst, st.ev x with
    | some d, some v => gd (lt d nt) (rdOf c (.bool true) ++ rdOf x v) [.s d (some v.ro)]
    | _, _ => none
  | some (.bool false) => match dst, st.ev y with
    | some d, some v => gd (lt d nt) (rdOf c (.bool false) ++ rdOf y v) [.s d (some v.ro)]
    | _, _ => none
  | _ => none

def xCall (nt : Nat) (call : Callee) (dst : Option Nat) (f : Operand) (args : List Operand) (st : St) : RW :=
  match st.ev f, st.evs args with
  | some (.func n first cap), some avs =>
    let av := AV.roL (first ++ avs ++ cap)
    let fp := reach st.mem av
    match objsOf st.mem fp with
    | some objs => match call n (AV.renL (toCallee fp) av) (renM (toCallee fp) objs) with
      | some (v, mem') =>
        let N := st.mem.length
        gd (withinB fp (AV.ptrsL av) && withinB fp (ptrsM objs) && allLtB mem'.length v.ptrs && allLtB mem'.length (ptrsM mem') && dstLtB nt dst)
          (rdOf f (.func n first cap) ++ rdsOf args avs ++ (rdsObjs fp objs ++ newRds N (mem'.length - fp.length)))
          (wrsObjs N fp (renM (toCaller fp N) mem') ++ dstW dst (v.ren (toCaller fp N)))
      | none => none
    | none => none
  | _, _ => none

def opO (P : Program) [GT P] (nt : Nat) (call : Callee) (rest : List Oper) (o : Oper) (st : St) : RW :=
  match o.op with
  | .pick c x y => xPick nt o.dst c x y st
  | .call { callee := .value f, args := args, .. } => xCall nt call o.dst f args.toList st
  | _ => xOp P nt rest o st

def wantO (all : List Oper) (o : Oper) (st : St) : Option Bool :=
  match o.guard with
  | none => some true
  | some (j, want) => match gslot all j with
    | some d => match getA st.fr d with
      | some (.bool b) => some (b == want)
      | some (.tup []) => some false
      | _ => none
    | none => none

def evalO (P : Program) [GT P] (nt : Nat) (call : Callee) (all : List Oper) : List Oper → St → List Fp → Option (List Fp × St)
  | [], st, acc => some (acc, st)
  | o :: rest, st, acc => match wantO all o st with
    | some true => match opO P nt call rest o st with
      | some (r, w) => evalO P nt call all rest (st.puts w) (mkFp r w :: acc)
      | none => none
    | some false => if dstLtB nt o.dst then evalO P nt call all rest (st.puts (skipW o.dst)) (⟨guardR all o, wrLocs (skipW o.dst)⟩ :: acc) else none
    | none => none

theorem withinB_s {fp : List Nat} : ∀ {l : List Nat}, withinB fp l = true → within fp l
  | [], _ => trivial
  | x :: r, h => by
    simp only [withinB, Bool.and_eq_true] at h
    exact ⟨by first | exact natMem_iff h.1 | (have := natMem_iff h.1; simpa using this), withinB_s h.2⟩

def CalleeOk (P : Program) [GT P] (call : Callee) : Prop := ∀ n args mem v mem', call n args mem = some (v, mem') → Ctr P n args mem (.ret v) mem'

theorem evalO_s {P : Program} [GT P] {nt : Nat} {call : Callee} (hc : CalleeOk P call) {all : List Oper} {K : List Fp → St → Prop} {KP : List Fp → AV → St → Prop} : ∀ (ops : List Oper) (st : St) (acc acc' : List Fp) (st' : St),
    evalO P nt call all ops st acc = some (acc', st') → K acc' st' → evalOps P nt all ops st acc K KP
  | [], st, acc, acc', st', h, hk => by simp only [evalO] at h; injection h with h; injection h with h1 h2; subst h1; subst h2; exact hk
  | o :: rest, st, acc, acc', st', h, hk => by
    simp only [evalO] at h
    unfold evalOps guardP
    have perf : (∃ r w, opO P nt call rest o st = some (r, w) ∧ evalO P nt call all rest (st.puts w) (mkFp r w :: acc) = some (acc', st')) →
        perfP P nt rest o st (fun rds wrs => evalOps P nt all rest (st.puts wrs) (mkFp rds wrs :: acc) K KP) (fun v wrs => KP acc v (st.puts wrs)) := fun hp => (by
      obtain ⟨r, w, h1, h2⟩ := hp
      have h3 := evalO_s (K := K) (KP := KP) hc rest _ _ _ _ h2 hk
      unfold perfP
      unfold opO at h1
      split at h1
      · rename_i c x y hop
        simp only [hop]
        unfold xPick at h1
        split at h1
        · rename_i hcv
          simp only [hcv]
          refine ⟨fun _ => ?_, fun h => by cases h⟩
          unfold pickK
          split at h1
          · rename_i d v hd hx
            obtain ⟨g1, rfl, rfl⟩ := gd_some h1
            rw [lt_iff] at g1
            simp only [hd, hx]
            exact ⟨g1, h3⟩
          · cases h1
        · rename_i hcv
          simp only [hcv]
          refine ⟨fun h => by (first | cases h | (exact absurd h (by decide))), fun _ => ?_⟩
          unfold pickK
          split at h1
          · rename_i d v hd hx
            obtain ⟨g1, rfl, rfl⟩ := gd_some h1
            rw [lt_iff] at g1
            simp only [hd, hx]
            exact ⟨g1, h3⟩
          · cases h1
        · cases h1
      · rename_i f args tys hop
        simp only [hop]
        unfold xCall at h1
        split at h1
        · rename_i n first cap avs hf hargs
          simp only [hf, hargs]
          simp only at h1
          split at h1
          · rename_i objs hobjs
            simp only [hobjs]
            split at h1
            · rename_i v mem' hcall
              obtain ⟨g1, rfl, rfl⟩ := gd_some h1
              simp only [Bool.and_eq_true] at g1
              obtain ⟨⟨⟨⟨g1, g2⟩, g3⟩, g4⟩, g5⟩ := g1
              refine ⟨⟨withinB_s g1, withinB_s g2⟩, CallK_intro (hc _ _ _ _ _ hcall) ⟨⟨⟨allLtB_s g3, allLtB_s g4⟩, ?_⟩, h3⟩⟩
              cases hd : o.dst with
              | none => trivial
              | some d => rw [hd] at g5; have : d < nt := by simpa [dstLtB, Nat.blt_eq] using g5
                          exact this
            · cases h1
          · cases h1
        · cases h1
      · rename_i hn1 hn2
        split
        · rename_i c x y hop; exact absurd hop (hn1 _ _ _)
        · rename_i f args tys hop; exact absurd hop (hn2 _ _ _)
        · exact xOp_s h1 _ h3)
    unfold wantO at h
    split at h
    · rename_i hw
      split at h
      · rename_i r w ho
        have := perf ⟨r, w, ho, h⟩
        split at hw
        · rename_i hg; simp only [hg]; exact this
        · rename_i j want hg
          simp only [hg]
          split at hw
          · rename_i d hd
            simp only [hd]
            split at hw
            · rename_i b hb
              simp only [hb]
              injection hw with hw
              have hbw : b = want := by simpa using hw
              exact ⟨fun _ => this, fun h => by subst hbw; cases b <;> cases h⟩
            · cases hw
            · cases hw
          · cases hw
      · cases h
    · rename_i hw
      split at h
      case isFalse => cases h
      rename_i hdl
      have hdl' : dstLt nt o.dst := by
        cases hd : o.dst with
        | none => trivial
        | some d => rw [hd] at hdl; have : d < nt := by simpa [dstLtB, Nat.blt_eq] using hdl
                    exact this
      have h3 := evalO_s (K := K) (KP := KP) hc rest _ _ _ _ h hk
      split at hw
      · cases hw
      · rename_i j want hg
        simp only [hg]
        split at hw
        · rename_i d hd
          simp only [hd]
          split at hw
          · rename_i b hb
            simp only [hb]
            injection hw with hw
            have hbw : b ≠ want := by simpa using hw
            exact ⟨fun h => absurd h hbw, fun _ => ⟨hdl', h3⟩⟩
          · rename_i hb
            simp only [hb]
            exact ⟨hdl', h3⟩
          · cases hw
        · cases hw
    · cases h

end Go.Aw
end
section
set_option linter.unusedSimpArgs false
set_option linter.unusedVariables false
namespace Go.Aw
open Go.RowKit

/-- Code, carried out. -/
def runO (P : Program) [GT P] (nt : Nat) (call : Callee) : Nat → Code → St → Option (AEx × St)
  | 0, _, _ => none
  | f + 1, c, st => match c with
    | .seq x y => match runO P nt call f x st with
      | some (.normal, st') => runO P nt call f y st'
      | r => r
    | .skip => some (.normal, st)
    | .label _ => some (.normal, st)
    | .exit id => some (.exit id, st)
    | .ret => some (.ret, st)
    | .cond c x y => match st.ev c with
      | some (.bool true) => runO P nt call f x st
      | some (.bool false) => runO P nt call f y st
      | _ => none
    | .block id c => match runO P nt call f c st with
      | some (.exit id', st') => if id' = id then some (.normal, st') else some (.exit id', st')
      | r => r
    | .scope c => match runO P nt call f c st with
      | some (.goto l, st') => none
      | r => r
    | .loop c => match runO P nt call f c st with
      | some (.normal, st') => runO P nt call f (.loop c) st'
      | r => r
    | .region _ ops draw => match evalO P nt call ops.toList ops.toList st [] with
      | some (acc, st') => if draw then (if drawOk ops.toList acc.reverse then some (.normal, st') else none) else some (.normal, st')
      | none => none
    | _ => none

/-- What a run tells. -/
def oneQ (e : AEx) (s : St) : AEx → St → Prop := fun e' s' => e' = e ∧ s' = s

theorem AW_mono {P : Program} [GT P] {nt n0 : Nat} {c : Code} {Q Q' : AEx → St → Prop} {st : St} (h : AW P nt n0 c Q st) (hq : ∀ e s, Q e s → Q' e s) : AW P nt n0 c Q' st := by
  intro Γ a w hnt hn hrel
  refine wp_mono (h Γ a w hnt hn hrel) (fun e a' w' he => ?_)
  cases e with
  | normal => obtain ⟨st', h1, h2⟩ := he; exact ⟨st', hq _ _ h1, h2⟩
  | exit id => obtain ⟨st', h1, h2⟩ := he; exact ⟨st', hq _ _ h1, h2⟩
  | goto l => obtain ⟨st', h1, h2⟩ := he; exact ⟨st', hq _ _ h1, h2⟩
  | ret => obtain ⟨st', h1, h2⟩ := he; exact ⟨st', hq _ _ h1, h2⟩
  | panic ch => obtain ⟨v, st', h1, h2⟩ := he; exact ⟨v, st', hq _ _ h1, h2⟩
  | outgrown => exact he

/-- A ghost step behind code that does not panic. -/
theorem AW_post {P : Program} [GT P] {nt n0 : Nat} {c : Code} {Q Q' : AEx → St → Prop} {st : St} (h : AW P nt n0 c Q st)
    (hq : ∀ e s, Q e s → (∀ v, e ≠ .panic v) ∧ ∃ s', Q' e s' ∧ ∀ Γ a w, RelV Γ s.view a w → RelV Γ s'.view a w) : AW P nt n0 c Q' st := by
  intro Γ a w hnt hn hrel
  refine wp_mono (h Γ a w hnt hn hrel) (fun e a' w' he => ?_)
  cases e with
  | normal => obtain ⟨s, h1, h2⟩ := he; obtain ⟨_, s', h3, h4⟩ := hq _ _ h1; exact ⟨s', h3, h4 _ _ _ h2⟩
  | exit id => obtain ⟨s, h1, h2⟩ := he; obtain ⟨_, s', h3, h4⟩ := hq _ _ h1; exact ⟨s', h3, h4 _ _ _ h2⟩
  | goto l => obtain ⟨s, h1, h2⟩ := he; obtain ⟨_, s', h3, h4⟩ := hq _ _ h1; exact ⟨s', h3, h4 _ _ _ h2⟩
  | ret => obtain ⟨s, h1, h2⟩ := he; obtain ⟨_, s', h3, h4⟩ := hq _ _ h1; exact ⟨s', h3, h4 _ _ _ h2⟩
  | panic ch => obtain ⟨v, s, h1, h2⟩ := he; exact absurd rfl ((hq _ _ h1).1 v)
  | outgrown => exact he
theorem AW_freeze {P : Program} [GT P] {nt n0 : Nat} {c : Code} {Q : AEx → St → Prop} {st : St} {o : Nat} {obj : List AV} (ho : st.mem[o]? = some obj) (hne : obj ≠ []) (hd : obj.all AV.data = true)
    (h1 : frzFrOk o obj.length st.fr = true) (h2 : frzMemOk o obj.length st.mem = true) (h : AW P nt n0 c Q (st.freeze o obj)) : AW P nt n0 c Q st :=
  fun Γ a w hnt hn hrel => h Γ a w hnt hn (relV_freeze ho hne hd h1 h2 hrel)

/-- So many times round a loop. -/
def AWR (P : Program) [GT P] (nt n0 : Nat) (c : Code) (Q : AEx → St → Prop) (n : Nat) (st : St) : Prop :=
  ∀ (Γ : Gam) (a : Act) (w : World), Γ.Fit P nt → (∀ o b, Γ.ι0 o = some b → o < n0) → RelV Γ st.view a w → Code.rounds P c (ExV Γ Q) n a w

theorem AWR_loop {P : Program} [GT P] {nt n0 n : Nat} {c : Code} {Q : AEx → St → Prop} {st : St} (h : AWR P nt n0 c Q n st) : AW P nt n0 (.loop c) Q st :=
  fun Γ a w hnt hn hrel => wp_loop_rounds n (h Γ a w hnt hn hrel)
theorem AWR_on {P : Program} [GT P] {nt n0 n : Nat} {c : Code} {Q : AEx → St → Prop} {st st' : St} (h : AW P nt n0 c (oneQ .normal st') st) (h2 : AWR P nt n0 c Q n st') : AWR P nt n0 c Q (n + 1) st := by
  intro Γ a w hnt hn hrel
  rw [rounds_succ]
  refine wp_mono (h Γ a w hnt hn hrel) (fun e a' w' he => ?_)
  cases e with
  | normal => obtain ⟨s, ⟨_, rfl⟩, h1⟩ := he; exact h2 Γ a' w' hnt hn h1
  | exit id => obtain ⟨s, ⟨h1, _⟩, _⟩ := he; cases h1
  | goto l => obtain ⟨s, ⟨h1, _⟩, _⟩ := he; cases h1
  | ret => obtain ⟨s, ⟨h1, _⟩, _⟩ := he; cases h1
  | panic ch => obtain ⟨v, s, ⟨h1, _⟩, _⟩ := he; cases h1
  | outgrown => exact he.elim
theorem AWR_out {P : Program} [GT P] {nt n0 : Nat} {c : Code} {st : St} {e : AEx} {st' : St} (hne : e ≠ .normal) (h : AW P nt n0 c (oneQ e st') st) : AWR P nt n0 c (oneQ e st') 1 st := by
  intro Γ a w hnt hn hrel
  rw [rounds_succ]
  refine wp_mono (h Γ a w hnt hn hrel) (fun e' a' w' he => ?_)
  cases e' with
  | normal => obtain ⟨s, ⟨h1, _⟩, _⟩ := he; exact absurd h1.symm hne
  | exit id => exact he
  | goto l => exact he
  | ret => exact he
  | panic ch => exact he
  | outgrown => exact he.elim

theorem runO_s {P : Program} [GT P] (hm : P.follows .mixedOrders = true) {nt n0 : Nat} {call : Callee} (hc : CalleeOk P call) : ∀ (f : Nat) (c : Code) (st : St) (e : AEx) (st' : St),
    runO P nt call f c st = some (e, st') → AW P nt n0 c (oneQ e st') st ∧ (∀ c', c = .loop c' → ∃ n, AWR P nt n0 c' (oneQ e st') n st)
  | 0, c, st, e, st', h => by simp [runO] at h
  | f + 1, c, st, e, st', h => by
    have nl : ∀ {c : Code} {X : Prop}, AW P nt n0 c (oneQ e st') st → (∀ c', c ≠ .loop c') → AW P nt n0 c (oneQ e st') st ∧ (∀ c', c = .loop c' → ∃ n, AWR P nt n0 c' (oneQ e st') n st) :=
      fun h h2 => ⟨h, fun c' hc' => absurd hc' (h2 c')⟩
    unfold runO at h
    split at h
    · -- seq
      rename_i x y
      refine nl (X := True) (AW_seq ?_) (by simp)
      split at h
      · rename_i st1 h1
        refine AW_mono (runO_s hm hc f x st _ _ h1).1 ?_
        rintro e s ⟨rfl, rfl⟩
        exact (runO_s hm hc f y _ _ _ h).1
      · rename_i r hne
        refine AW_mono (runO_s hm hc f x st _ _ h).1 ?_
        rintro e2 s ⟨rfl, rfl⟩
        cases e2 with
        | normal => exact absurd h (hne _)
        | _ => exact ⟨rfl, rfl⟩
    · injection h with h; injection h with h1 h2; subst h1; subst h2; exact nl (X := True) (AW_skip ⟨rfl, rfl⟩) (by simp)
    · injection h with h; injection h with h1 h2; subst h1; subst h2; exact nl (X := True) (AW_label ⟨rfl, rfl⟩) (by simp)
    · injection h with h; injection h with h1 h2; subst h1; subst h2; exact nl (X := True) (AW_exit ⟨rfl, rfl⟩) (by simp)
    · injection h with h; injection h with h1 h2; subst h1; subst h2; exact nl (X := True) (AW_ret ⟨rfl, rfl⟩) (by simp)
    · -- cond
      rename_i c x y
      refine nl (X := True) (AW_cond fun X Y hX hY => ?_) (by simp)
      unfold condP
      split at h
      · rename_i hb
        have h1 := hX (runO_s hm hc f x st _ _ h).1
        simp [hb, h1]
      · rename_i hb
        have h1 := hY (runO_s hm hc f y st _ _ h).1
        simp [hb, h1]
      · cases h
    · -- block
      rename_i id c
      refine nl (X := True) (AW_block ?_) (by simp)
      split at h
      · rename_i id' st1 h1
        refine AW_mono (runO_s hm hc f c st _ _ h1).1 ?_
        rintro e2 s ⟨rfl, rfl⟩
        simp only [blockQ]
        split at h
        · rename_i hid
          rw [if_pos hid]
          injection h with h; injection h with h1 h2; subst h1; subst h2; exact ⟨rfl, rfl⟩
        · rename_i hid
          rw [if_neg hid]
          injection h with h; injection h with h1 h2; subst h1; subst h2; exact ⟨rfl, rfl⟩
      · rename_i r hne
        refine AW_mono (runO_s hm hc f c st _ _ h).1 ?_
        rintro e2 s ⟨rfl, rfl⟩
        cases e2 with
        | exit id' => exact absurd h (hne _ _)
        | _ => exact ⟨rfl, rfl⟩
    · -- scope
      rename_i c
      refine nl (X := True) (AW_scope ?_) (by simp)
      split at h
      · cases h
      · rename_i r hne
        refine AW_mono (runO_s hm hc f c st _ _ h).1 ?_
        rintro e2 s ⟨rfl, rfl⟩
        cases e2 with
        | goto l => exact absurd h (hne _ _)
        | _ => exact ⟨rfl, rfl⟩
    · -- loop
      rename_i c
      have key : ∃ n, AWR P nt n0 c (oneQ e st') n st := by
        split at h
        · rename_i st1 h1
          obtain ⟨n, hn⟩ := (runO_s hm hc f (.loop c) st1 _ _ h).2 c rfl
          exact ⟨n + 1, AWR_on (runO_s hm hc f c st _ _ h1).1 hn⟩
        · rename_i r hne
          exact ⟨1, AWR_out (by rintro rfl; exact hne _ h) (runO_s hm hc f c st _ _ h).1⟩
      obtain ⟨n, hn⟩ := key
      exact ⟨AWR_loop hn, fun c' hc' => by injection hc' with hc'; subst hc'; exact ⟨n, hn⟩⟩
    · -- region
      rename_i id ops draw
      refine nl (X := True) ?_ (by simp)
      split at h
      · rename_i acc st1 h1
        have hops : ops = ops.toList.toArray := by simp
        cases draw with
        | true =>
          simp only [if_true] at h
          split at h
          · rename_i hd
            injection h with h; injection h with g1 g2; subst g1; subst g2
            rw [hops]
            exact AW_draw hm (fun K hK => evalO_s hc _ _ _ _ _ h1 (hK _ _ hd ⟨rfl, rfl⟩))
          · cases h
        | false =>
          simp only [Bool.false_eq_true, if_false] at h
          injection h with h; injection h with g1 g2; subst g1; subst g2
          rw [hops]
          exact AW_region (fun K KP hK hKP => evalO_s hc _ _ _ _ _ h1 (hK _ _ ⟨rfl, rfl⟩))
      · cases h
    · cases h

/-! ### Calls, carried out -/
def noDupB : List Nat → Bool
  | [] => true
  | x :: r => !natMem x r && noDupB r
/-- How much of the memory is told: all that was there at first, and what is pointed to. -/
def cutM (n0 : Nat) (v : AV) (mem : List (List AV)) : List (List AV) :=
  let m := mem.take n0
  if allLtB n0 v.ptrs && allLtB n0 (ptrsM m) then m else mem
def nameOk (fn : Func) : Bool := !(fn.name == "runtime.NumGoroutine")

mutual
def AV.raw : AV → List Nat
  | .ptr o _ => [o]
  | .func _ a c => AV.rawL a ++ AV.rawL c
  | .iface _ v => v.raw
  | .agg cs => AV.rawL cs
  | .tup vs => AV.rawL vs
  | _ => []
def AV.rawL : List AV → List Nat
  | [] => []
  | v :: r => v.raw ++ AV.rawL r
end
/-- Object o frozen, if that may be. -/
def frzTry (n0 : Nat) (v : AV) (st : St) (o : Nat) : St :=
  match st.mem[o]? with
  | some (c :: l) => if (natMem o v.ptrs && !natMem o v.raw && !natMem o (ptrsM (st.mem.take n0)) && (c :: l).all AV.data && frzFrOk o (c :: l).length st.fr && frzMemOk o (c :: l).length st.mem) = true then st.freeze o (c :: l) else st
  | _ => st
theorem frzTry_ok {n0 : Nat} {v : AV} {st : St} {o : Nat} {Γ : Gam} {a : Act} {w : World} (h : RelV Γ st.view a w) : RelV Γ (frzTry n0 v st o).view a w := by
  unfold frzTry
  split
  · rename_i c l ho
    split
    · rename_i hc
      simp only [Bool.and_eq_true] at hc
      exact relV_freeze ho (by simp) hc.1.1.2 hc.1.2 hc.2 h
    · exact h
  · exact h
def frzAll (n0 : Nat) (v : AV) : List Nat → St → St
  | [], st => st
  | o :: r, st => frzAll n0 v r (frzTry n0 v st o)
theorem frzAll_ok {n0 : Nat} {v : AV} {Γ : Gam} {a : Act} {w : World} : ∀ {l : List Nat} {st : St}, RelV Γ st.view a w → RelV Γ (frzAll n0 v l st).view a w
  | [], st, h => h
  | o :: r, st, h => frzAll_ok (l := r) (frzTry_ok h)
def frzEnd (P : Program) [GT P] (n : FuncId) (n0 : Nat) (rs : List ResultVar) (st : St) : St :=
  match GT.frzF P n, resAV P st rs with
  | true, some v => frzAll n0 v (List.range' n0 (st.mem.length - n0)) st
  | _, _ => st
theorem frzEnd_ok {P : Program} [GT P] {n : FuncId} {n0 : Nat} {rs : List ResultVar} {st : St} {Γ : Gam} {a : Act} {w : World} (h : RelV Γ st.view a w) : RelV Γ (frzEnd P n n0 rs st).view a w := by
  unfold frzEnd
  split
  · exact frzAll_ok h
  · exact h

def endOk : AEx → Bool
  | .normal => true
  | .ret => true
  | _ => false

def callO (P : Program) [GT P] (ext : Callee) : Nat → Nat → Callee
  | 0, _, _, _, _ => none
  | d + 1, f, n, args, mem => match ext n args mem with
   | some r => some r
   | none => match P.funcs[n]? with
    | some fn => match fn.body with
      | some code => if (nameOk fn && Nat.ble args.length fn.ntmps && noDupB (slotsOf fn.results.toList)) = true then match runO P fn.ntmps (callO P ext d f) f code ⟨argFr 0 args, mem⟩ with
        | some (e, st) => if endOk e = true then match resAV P (frzEnd P n mem.length fn.results.toList st) fn.results.toList with
          | some v => if Nat.ble mem.length (frzEnd P n mem.length fn.results.toList st).mem.length then some (v, cutM mem.length v (frzEnd P n mem.length fn.results.toList st).mem) else none
          | none => none else none
        | none => none else none
      | none => none
    | none => none


theorem WkL_refl : ∀ (l : List AV), WkL l l
  | [] => trivial
  | _ :: l => ⟨.refl _, WkL_refl l⟩
theorem leMem_refl : ∀ (m : List (List AV)), leMem m m
  | [] => trivial
  | a :: m => ⟨WkL_refl a, leMem_refl m⟩
theorem leMem_take : ∀ (m : List (List AV)) (n : Nat), leMem m (m.take n)
  | [], 0 => trivial
  | _ :: _, 0 => trivial
  | [], _ + 1 => trivial
  | a :: m, n + 1 => ⟨WkL_refl a, leMem_take m n⟩
theorem cutM_le (n0 : Nat) (v : AV) (mem : List (List AV)) (h : n0 ≤ mem.length) : leMem mem (cutM n0 v mem) ∧ n0 ≤ (cutM n0 v mem).length := by
  unfold cutM
  simp only
  split
  · exact ⟨leMem_take _ _, by simp; omega⟩
  · exact ⟨leMem_refl _, h⟩

theorem noDupB_s : ∀ {l : List Nat}, noDupB l = true → l.Nodup
  | [], _ => List.nodup_nil
  | x :: r, h => by
    simp only [noDupB, Bool.and_eq_true, Bool.not_eq_true'] at h
    refine List.nodup_cons.2 ⟨fun hx => ?_, noDupB_s h.2⟩
    have : ∀ {l : List Nat}, x ∈ l → natMem x l = true := by
      intro l
      induction l with
      | nil => intro h; cases h
      | cons y r ih =>
        intro h
        simp only [natMem, Bool.or_eq_true, Nat.beq_eq]
        rcases List.mem_cons.1 h with h | h
        · exact .inl h
        · exact .inr (ih h)
    rw [this hx] at h; cases h.1
theorem callO_s {P : Program} [GT P] (hm : P.follows .mixedOrders = true) {ext : Callee} (hext : CalleeOk P ext) : ∀ (d f : Nat), CalleeOk P (callO P ext d f)
  | 0, f => fun n args mem v mem' h => by simp [callO] at h
  | d + 1, f => fun n args mem v mem' h => by
    unfold callO at h
    split at h
    · rename_i r hr
      injection h with h; subst h
      exact hext _ _ _ _ _ hr
    split at h
    · rename_i fn hf
      split at h
      · rename_i code hb
        split at h
        · rename_i hok
          simp only [Bool.and_eq_true, Nat.ble_eq] at hok
          obtain ⟨⟨ho1, ho2⟩, ho3⟩ := hok
          split at h
          · rename_i e st hrun
            split at h
            · rename_i he
              split at h
              · rename_i u hu
                split at h
                · rename_i hlen
                  rw [Nat.ble_eq] at hlen
                  injection h with h; injection h with h1 h2; subst h1; subst h2
                  obtain ⟨c1, c2⟩ := cutM_le mem.length u _ hlen
                  refine ctr_of hf hb rfl (enters_of hf hb (by simpa [nameOk] using ho1)) rfl (noDupB_s ho3) ho2 c2 ?_
                  refine AW_post (runO_s hm (callO_s hm hext d f) f code _ _ _ hrun).1 ?_
                  rintro e2 s ⟨rfl, rfl⟩
                  refine ⟨fun v hv => (by subst hv; cases he), frzEnd P n mem.length fn.results.toList s, ?_, fun Γ a w h => frzEnd_ok h⟩
                  cases e2 with
                  | normal => exact ⟨by rw [hu]; exact .refl _, c1, c2⟩
                  | ret => exact ⟨by rw [hu]; exact .refl _, c1, c2⟩
                  | _ => cases he
                · cases h
              · cases h
            · cases h
          · cases h
        · cases h
      · cases h
    · cases h

end Go.Aw
end
section
set_option linter.unusedVariables false
set_option linter.unusedSimpArgs false
namespace Go.Aw
open Go.RowKit Go.Lib

/-- How a call of no function of ours begins. -/
def callG (w : World) (R : Ext0) (ι : Nat → Option Nat) (ω : Nat → Option (List Nat)) (mem : List (List AV)) (nt : Nat) : Gam :=
  ⟨w, R, ι, fun b => (∃ o, lv (vw mem) o ∧ ι o = some b) ∨ ∃ p, ω b = some p, nt⟩

theorem rel_start {args : List AV} {mem : List (List AV)} {w : World} {R : Ext0} {ι : Nat → Option Nat} {ω : Nat → Option (List Nat)} {vs : Array Value} (hl : args.length = vs.size)
    (hvs : ∀ (i : Nat) v x, args[i]? = some v → vs[i]? = some x → Rep w R ι ω [3, i] v x) (hmr : MR w R ι ω (vw mem)) :
    Rel (callG w R ι ω mem vs.size) (getA (argFr 0 args)) (vw mem) { tmps := vs, defers := [] } w R ι ω where
  slots := fun d v hv => by
    obtain ⟨u, h1, h2, rfl⟩ := argFr_get args 0 d v hv
    simp only [Nat.sub_zero] at h2
    have hlt := (List.getElem?_eq_some_iff.1 h2).1
    have hx : vs[d]? = some (vs[d]'(by omega)) := Array.getElem?_eq_getElem (by omega)
    exact ⟨_, hx, (hvs d u _ h2 hx).ro _ _⟩
  nt := rfl
  nodef := rfl
  mr := hmr
  env := ⟨Ext.refl _ _, rfl, rfl, rfl, fun _ _ _ => ⟨rfl, rfl⟩, fun o b hl hb => .inl (.inl ⟨o, hl, hb⟩), fun o b hb => hb, fun k p hp => .inr (.inr ⟨p, hp⟩)⟩

theorem rel_post {mem mem' : List (List AV)} {w w' : World} {R R' : Ext0} {ι ι' : Nat → Option Nat} {ω ω' : Nat → Option (List Nat)} {nt : Nat} {g : Nat → Option AV} {m : Nat → Option (List AV)} {a : Act}
    (hr : Rel (callG w R ι ω mem nt) g m a w' R' ι' ω') (hm : ∀ o, m o = vw mem' o) : Post w R ι ω (vw mem) w' R' ι' ω' mem' := by
  have hm' : m = vw mem' := funext hm
  subst hm'
  refine ⟨hr.env.ext, hr.env.os, hr.env.tape, hr.env.output, fun b hb ho hw => hr.env.kept b hb (fun hM => ?_), hr.mr, fun o b hb => hr.env.i0 o b hb, fun o b hl hb => ?_, fun k p hk => ?_⟩
  · rcases hM with ⟨o, hl, h1⟩ | ⟨p, h1⟩
    · exact ho o hl h1
    · rw [hw] at h1; cases h1
  · rcases hr.env.inew o b hl hb with (⟨o2, h1, h2⟩ | ⟨p, h1⟩) | h1
    · exact .inl ⟨o2, h1, h2⟩
    · exact .inr (.inr ⟨p, h1⟩)
    · exact .inr (.inl h1)
  · rcases hr.env.oold k p hk with h1 | h1
    · exact .inl h1
    · rcases h1 with ⟨o, h2, h3⟩ | ⟨p2, h2⟩
      · exact .inr (.inr ⟨o, h2, h3⟩)
      · exact .inr (.inl ⟨p2, h2⟩)

theorem vw_append (mem : List (List AV)) (obj : List AV) (o : Nat) : vw (mem ++ [obj]) o = upd (vw mem) mem.length (some obj) o := by
  simp only [vw, upd]
  by_cases h : o = mem.length
  · subst h; simp
  · rw [if_neg h]
    by_cases h2 : o < mem.length
    · rw [List.getElem?_append_left h2]
    · rw [List.getElem?_eq_none (by simp; omega), List.getElem?_eq_none (by omega)]
theorem vw_set (mem : List (List AV)) (n : Nat) (obj : List AV) (h : n < mem.length) (o : Nat) : vw (mem.set n obj) o = upd (vw mem) n (some obj) o := by
  simp only [vw, upd, List.getElem?_set]
  by_cases h1 : n = o
  · subst h1; simp [h]
  · rw [if_neg h1, if_neg (fun e => h1 e.symm)]

theorem Rep.iface_inv {w : World} {R : Ext0} {ι : Nat → Option Nat} {ω : Nat → Option (List Nat)} {p : List Nat} {t : TypeId} {v : AV} {x : Value} (h : Rep w R ι ω p (.iface t v) x) :
    ∃ y, x = .iface t y ∧ Rep w R ι ω (p ++ [0]) v y := by
  cases h with
  | pure _ _ _ hp => cases hp
  | iface _ _ _ y hy => exact ⟨y, rfl, hy⟩
theorem Rep.rawp_inv {w : World} {R : Ext0} {ι : Nat → Option Nat} {ω : Nat → Option (List Nat)} {p : List Nat} {a : Addr} {x : Value} (h : Rep w R ι ω p (.rawp a) x) : x = .pointer (some a) := by
  cases h with
  | pure _ _ _ hp => cases hp; rfl

/-- A function that leaves all as it was, but for new blocks. -/
theorem ctr_below {P : Program} [GT P] {n : FuncId} {args : List AV} {mem : List (List AV)} {v : AV} (hen : Enters P n)
    (h : ∀ (w : World) (R : Ext0) (ι : Nat → Option Nat) (ω : Nat → Option (List Nat)) (vs : Array Value), args.length = vs.size → (∀ (i : Nat) v x, args[i]? = some v → vs[i]? = some x → Rep w R ι ω [3, i] v x) →
      Calls P n vs w fun e w' => (∃ x, e = .returned x ∧ ∀ R, PRep w' R v x) ∧ Below w.heap.size w w') : Ctr P n args mem (.ret v) mem where
  len := Nat.le_refl _
  run := fun w R ι ω vs hl hvs hmr hdom hgk => .inl ⟨hen _ _, (h w R ι ω vs hl hvs).mono (by
    rintro e w' ⟨⟨x, rfl, hx⟩, hB⟩
    have hcell : ∀ b, b < w.heap.size → w'.heap[b]? = w.heap[b]? := fun b hb => hB.block b hb
    have hlt : ∀ {b : Nat} {ob : Obj}, w.heap[b]? = some ob → b < w.heap.size := fun hh => (Array.getElem?_eq_some_iff.1 hh).1
    have hext : Ext w R w' R := by
      refine ⟨hB.size, fun b off v hv hs => ⟨?_, hs⟩, fun b arr e fz hb => ⟨arr, e, fz, by rw [hcell b (hlt hb)]; exact hb, Nat.le_refl _⟩⟩
      have : b < w.heap.size := by
        simp only [World.cell?] at hv
        cases hh : w.heap[b]? with
        | none => rw [hh] at hv; cases hv
        | some ob => exact hlt hh
      simpa [World.cell?, hcell b this] using hv
    have hO : ∀ k q, ω k = some q → w'.heap[k]? = w.heap[k]? ∧ R k = R k ∧ ω k = ω k := fun k q hk => ⟨hcell k (hmr.olt k q hk), rfl, rfl⟩
    refine ⟨R, ι, ω, ⟨hext, hB.os, hB.tape, hB.output, fun b hb _ _ => ⟨hcell b hb, rfl⟩, ⟨hmr.dom, fun o obj ho hne => ?_, hmr.inj, hmr.sep, fun o b hb => Nat.lt_of_lt_of_le (hmr.ilt o b hb) hB.size, fun k p hk => Nat.lt_of_lt_of_le (hmr.olt k p hk) hB.size⟩,
      fun o b hb => hb, fun o b hl hb => .inl ⟨o, hl, hb⟩, fun k p hk => .inr (.inl ⟨p, hk⟩)⟩, ⟨x, rfl, .pure _ _ _ (hx R)⟩⟩
    obtain ⟨b, arr, e, h1, h2, h3, h4, h5⟩ := hmr.objs o obj ho hne
    refine ⟨b, arr, e, h1, by rw [hcell b (hlt h2)]; exact h2, h3, h4, fun c v hv => ?_⟩
    obtain ⟨y, hy, hyr⟩ := h5 c v hv
    exact ⟨y, hy, hyr.ext hext (fun _ _ h => h) (fun k q hk _ => hO k q hk)⟩)⟩

/-- How long a slice is. -/
def slLen : AV → Option Nat
  | .msl _ _ n _ => some n
  | .nilsl => some 0
  | .nils => some 0
  | .list _ xs => some xs.length
  | _ => none
theorem slLen_inv {v : AV} {len : Nat} (h : slLen v = some len) {w : World} {R : Ext0} {ι : Nat → Option Nat} {ω : Nat → Option (List Nat)} {p : List Nat} {x : Value} (hr : Rep w R ι ω p v x) :
    ∃ a c, x = .slice a len c := by
  unfold slLen at h
  split at h
  · injection h with h; subst h
    obtain ⟨b, c, rfl, _⟩ := hr.msl_inv
    exact ⟨_, _, rfl⟩
  · injection h with h; subst h
    cases hr with
    | pure _ _ _ hp => cases hp; exact ⟨_, _, rfl⟩
  · injection h with h; subst h
    cases hr with
    | pure _ _ _ hp => cases hp; exact ⟨_, _, rfl⟩
  · injection h with h; subst h
    have := hr.data rfl
    cases this with
    | empty a c => exact ⟨_, _, rfl⟩
    | list => exact ⟨_, _, rfl⟩
  · cases h
theorem slLen_ro (v : AV) : slLen v.ro = slLen v := by
  cases v <;> first | rfl | simp [AV.ro, slLen]

section
variable {P : Program} [GT P] {n : FuncId} {fn : Func} {e : Array Value → Sem Value}

/-- reflectlite.ValueOf of a slice. -/
theorem ctr_valueOf {t el : TypeId} {i : TypeInfo} {v : AV} {len : Nat} {mem : List (List AV)}
    (hx : ∀ args w, (callFunc n args).run P w = ((Extern.ReflectliteValue.unpack (args.getD 0 (.tuple #[]))).run P w).andThen fun v w' => .ok (.value v) w')
    (hi : P.info? t = some i) (hd : i.desc = .slice el) (hv : slLen v = some len) :
    Ctr P n [.iface t v] mem (.ret (.agg [.rawp ⟨P.globals.size, t, none⟩, .ptr mem.length 0, .int .u64 151])) (mem ++ [[v.ro]]) where
  len := by simp
  run := fun w R ι ω vs hl hvs hmr hdom hgk => .inr (by
    have hsz : vs.size = 1 := by simpa using hl.symm
    have h0 : vs[0]? = some (vs[0]'(by omega)) := Array.getElem?_eq_getElem (by omega)
    obtain ⟨y, hy, hyr⟩ := (hvs 0 _ _ rfl h0).iface_inv
    obtain ⟨a, c, rfl⟩ := slLen_inv hv hyr
    have hrun := run_valueOf_slice (P := P) t el i hi hd a len c w
    have hge : vs.getD 0 (.tuple #[]) = .iface t (.slice a len c) := by
      rw [Array.getD_eq_getD_getElem?, h0, hy]; rfl
    refine ⟨_, _, by rw [hx, hge, hrun]; rfl, ?_⟩
    have hrel := rel_start hl hvs hmr
    have hι : ι mem.length = none := by
      cases hh : ι mem.length with
      | none => rfl
      | some b => have := hdom _ _ hh; omega
    have h2 := hrel.newObj (o := mem.length) hι (cells := [v.ro]) (arr := #[.slice a len c]) t (by simp) (fun q u hu => by
      cases q with
      | zero => injection hu with hu; subst hu; exact ⟨_, rfl, hyr.ro _ _⟩
      | succ q => cases hu)
    refine ⟨_, _, _, rel_post h2 (fun o => (vw_append mem _ o).symm), _, rfl, ?_⟩
    refine .agg _ _ _ rfl (fun q v x hv hx => ?_)
    match q with
    | 0 => injection hv with hv; injection hx with hx; subst hv; subst hx; exact .pure _ _ _ (.rawp _)
    | 1 => injection hv with hv; injection hx with hx; subst hv; subst hx; exact .ptr _ _ _ _ (upd_same _ _ _)
    | 2 => injection hv with hv; injection hx with hx; subst hv; subst hx; exact .pure _ _ _ (.int _ _)
    | q + 3 => cases hv)

/-- A call that answers, and leaves all as it was. -/
theorem ctr_answer {args : List AV} {mem : List (List AV)} {v : AV}
    (h : ∀ (w : World) (R : Ext0) (ι : Nat → Option Nat) (ω : Nat → Option (List Nat)) (vs : Array Value), args.length = vs.size → (∀ (i : Nat) v x, args[i]? = some v → vs[i]? = some x → Rep w R ι ω [3, i] v x) → MR w R ι ω (vw mem) →
      ∃ x, (callFunc n vs).run P w = .ok (.value x) w ∧ Rep w R ι ω [2] v x) : Ctr P n args mem (.ret v) mem where
  len := Nat.le_refl _
  run := fun w R ι ω vs hl hvs hmr hdom hgk => .inr (by
    obtain ⟨x, hx, hr⟩ := h w R ι ω vs hl hvs hmr
    exact ⟨x, w, hx, R, ι, ω, rel_post (rel_start hl hvs hmr) (fun _ => rfl), x, rfl, hr⟩)

/-- reflectlite.Value.Len of such a value. -/
theorem ctr_valueLen {t el : TypeId} {i : TypeInfo} {v : AV} {len k : Nat} {mem : List (List AV)} {rest : List AV}
    (hx : ∀ args w, (callFunc n args).run P w = ((Extern.ReflectliteValue.method (Extern.ReflectliteValue.valueError "reflectlite.Value.Len" 0) Extern.ReflectliteValue.len args).run P w).andThen fun v w' => .ok (.value v) w')
    (hi : P.info? t = some i) (hd : i.desc = .slice el) (hpk : P.packed t = false) (hv : slLen v = some len) (hk : mem[k]? = some (v :: rest)) :
    Ctr P n [.agg [.rawp ⟨P.globals.size, t, none⟩, .ptr k 0, .int .u64 151]] mem (.ret (.int .i64 len)) mem :=
  ctr_answer fun w R ι ω vs hl hvs hmr => by
    have hsz : vs.size = 1 := by simpa using hl.symm
    have h0 : vs[0]? = some (vs[0]'(by omega)) := Array.getElem?_eq_getElem (by omega)
    have hr := hvs 0 _ _ rfl h0
    generalize hX : vs[0]'(by omega) = X at hr h0
    cases hr with
    | pure _ _ _ hp => cases hp
    | agg _ _ xs hxl hxs =>
      have hs3 : xs.size = 3 := by simpa using hxl.symm
      have g0 := hxs 0 _ _ rfl (Array.getElem?_eq_getElem (by omega))
      have g1 := hxs 1 _ _ rfl (Array.getElem?_eq_getElem (by omega))
      have g2 := hxs 2 _ _ rfl (Array.getElem?_eq_getElem (by omega))
      have e0 := g0.rawp_inv
      obtain ⟨bk, e1, hbk⟩ := g1.ptr_inv
      have e2 := g2.int_inv
      have hxe : xs = #[typeHandle P t, .pointer (some ⟨bk, 0, none⟩), .int .u64 151] := by
        apply Array.ext
        · simp [hs3]
        · intro i h1 h2
          match i with
          | 0 => exact e0
          | 1 => exact e1
          | 2 => exact e2
          | i + 3 => omega
      obtain ⟨b2, arr, e, k1, k2, k3, k4, k5⟩ := hmr.objs k _ hk (by simp)
      rw [hbk] at k1; injection k1 with k1; subst k1
      obtain ⟨y, hy, hyr⟩ := k5 0 _ rfl
      obtain ⟨a, c, rfl⟩ := slLen_inv hv hyr
      have hc : w.cell? ⟨bk, 0, none⟩ = some (.slice a len c) := by rw [cell_of_heap k2]; exact hy
      have hrun := run_valueLen_slice (P := P) t el i hi hd hpk ⟨bk, 0, none⟩ a len c w hc
      have hvse : vs = #[.agg #[typeHandle P t, .pointer (some ⟨bk, 0, none⟩), .int .u64 151]] := by
        apply Array.ext
        · simp [hsz]
        · intro i h1 h2
          have : i = 0 := by omega
          subst this
          rw [hX, hxe]; rfl
      exact ⟨.int .i64 len, by rw [hx, hvse, hrun]; rfl, .pure _ _ _ (.int _ _)⟩

/-- reflectlite.Swapper of a slice. -/
theorem ctr_swapper {t el : TypeId} {i ie : TypeInfo} {v : AV} {len ke f : Nat} {mem : List (List AV)}
    (hx : ∀ args w, (callFunc n args).run P w = ((Extern.ReflectliteSwapper.swapper "internal/reflectlite" (Extern.ReflectliteValue.valueError "Swapper") args).run P w).andThen fun v w' => .ok (.value v) w')
    (hi : P.info? t = some i) (hd : i.desc = .slice el) (hie : P.info? el = some ie) (hke : ∀ w, (Extern.Rtype.kind el).run P w = .ok ke w) (hv : slLen v = some len)
    (hf : P.funcs.findIdx? (·.name == "internal/reflectlite" ++ ".Swapper$" ++ toString (swapperK len ie ke)) = some f) :
    Ctr P n [.iface t v] mem (.ret (.func f [] (if swapperK len ie ke ≤ 2 then [] else [v.ro, .rawp ⟨P.globals.size, el, none⟩]))) mem :=
  ctr_answer fun w R ι ω vs hl hvs hmr => by
    have hsz : vs.size = 1 := by simpa using hl.symm
    have h0 : vs[0]? = some (vs[0]'(by omega)) := Array.getElem?_eq_getElem (by omega)
    obtain ⟨y, hy, hyr⟩ := (hvs 0 _ _ rfl h0).iface_inv
    obtain ⟨a, c, rfl⟩ := slLen_inv hv hyr
    have hrun := run_swapper_slice (P := P) t el i ie hi hd hie ke hke a len c f hf w
    have hvse : vs = #[.iface t (.slice a len c)] := by
      apply Array.ext
      · simp [hsz]
      · intro i h1 h2
        have : i = 0 := by omega
        subst this
        rw [hy]; rfl
    refine ⟨_, by rw [hx, hvse, hrun]; rfl, ?_⟩
    refine .func _ _ _ _ _ _ rfl (by split <;> rfl) (fun q u x hu _ => by cases hu) (fun q u x hu hxx => ?_)
    split at hu
    · cases hu
    · rename_i hk
      rw [if_neg hk] at hxx
      match q with
      | 0 => injection hu with hu; injection hxx with hxx; subst hu; subst hxx; exact hyr.ro _ _
      | 1 => injection hu with hu; injection hxx with hxx; subst hu; subst hxx; exact .pure _ _ _ (.rawp _)
      | q + 2 => cases hu
end
end Go.Aw
end
section
set_option linter.unusedVariables false
set_option linter.unusedSimpArgs false
namespace Go.Aw
open Go.RowKit Go.Lib

/-- Two rows of an object exchanged. -/
def swapRows (obj : List AV) (sz i j : Nat) : List AV := splice (splice obj (i * sz) ((obj.drop (j * sz)).take sz)) (j * sz) ((obj.drop (i * sz)).take sz)

theorem take_drop_get {α : Type} (l : List α) (a n k : Nat) (h : k < n) : ((l.drop a).take n)[k]? = l[a + k]? := by
  rw [List.getElem?_take_of_lt h, List.getElem?_drop]

/-- Swapper's literal at elements of several cells. -/
theorem ctr_swap {P : Program} [GT P] {n : FuncId} {el : TypeId} {ie : TypeInfo} {gS : Bool} {o len sz i j : Nat} {mem : List (List AV)} {obj : List AV}
    (hx : ∀ args w, (callFunc n args).run P w = ((Extern.ReflectliteSwapper.swap gS args).run P w).andThen fun v w' => .ok (.value v) w')
    (hie : P.info? el = some ie) (hsize : ie.size = sz) (hagg : ∀ w, (isAgg el).run P w = .ok true w) (hm : mem[o]? = some obj) (h0 : 0 < sz) (hlen : len * sz ≤ obj.length)
    (hpl : ∀ (c : Nat) v, obj[c]? = some v → v.plain = true ∧ v.ro = v) (hi : i < len) (hj : j < len) :
    Ctr P n [.int .i64 i, .int .i64 j, .msl o 0 len sz, .rawp ⟨P.globals.size, el, none⟩] mem (.ret (.tup [])) (mem.set o (swapRows obj sz i j)) where
  len := by simp
  run := fun w R ι ω vs hl hvs hmr hdom hgk => .inr (by
    have hsz : vs.size = 4 := by simpa using hl.symm
    have hle : ∀ k, k < len → k * sz + sz ≤ obj.length := fun k hk => by
      have : (k + 1) * sz ≤ len * sz := Nat.mul_le_mul_right _ hk
      rw [Nat.succ_mul] at this; omega
    have hii := hle i hi
    have hjj := hle j hj
    have g0 := (hvs 0 _ _ rfl (Array.getElem?_eq_getElem (by omega))).int_inv
    have g1 := (hvs 1 _ _ rfl (Array.getElem?_eq_getElem (by omega))).int_inv
    obtain ⟨b, c, g2, hb, hlc, _⟩ := (hvs 2 _ _ rfl (Array.getElem?_eq_getElem (by omega))).msl_inv
    have g3 := (hvs 3 _ _ rfl (Array.getElem?_eq_getElem (by omega))).rawp_inv
    have hne : obj ≠ [] := by rintro rfl; simp at hii; omega
    obtain ⟨b2, arr, e, k1, k2, k3, k4, k5⟩ := hmr.objs o obj hm hne
    rw [hb] at k1; injection k1 with k1; subst k1
    have hvse : vs = #[.int .i64 i, .int .i64 j, .slice (some ⟨b, 0, none⟩) len c, typeHandle P el] := by
      apply Array.ext
      · simp [hsz]
      · intro q h1 h2
        match q with
        | 0 => exact g0
        | 1 => exact g1
        | 2 => exact g2
        | 3 => exact g3
        | q + 4 => omega
    have hfz : ∀ q, w.frozen? ⟨b, q, none⟩ = false := fun q => by simp [World.frozen?, k2]
    let X : List Value := (arr.toList.drop (i * sz)).take sz
    let Y : List Value := (arr.toList.drop (j * sz)).take sz
    have hX : X.length = sz := by simp only [X, List.length_take, List.length_drop, Array.length_toList]; omega
    have hY : Y.length = sz := by simp only [Y, List.length_take, List.length_drop, Array.length_toList]; omega
    have gX : ∀ k, k < sz → X[k]? = arr[i * sz + k]? := fun k hk => by simp only [X]; rw [take_drop_get _ _ _ _ hk]; simp
    have gY : ∀ k, k < sz → Y[k]? = arr[j * sz + k]? := fun k hk => by simp only [Y]; rw [take_drop_get _ _ _ _ hk]; simp
    have one : ∀ q (z : Value), q < obj.length → arr[q]? = some z → z.oneCell' = true := fun q z hq hz => by
      have ho : obj[q]? = some (obj[q]'hq) := List.getElem?_eq_getElem hq
      obtain ⟨z', hz', hr⟩ := k5 q _ ho
      rw [hz] at hz'; injection hz' with hz'; subst hz'
      have := plain_ne (hpl q _ ho).1
      exact (hr.oneCell this.1 this.2).1
    have oX : ∀ v ∈ X, v.oneCell' = true := fun v hv => by
      obtain ⟨k, hk, he⟩ := List.getElem_of_mem hv
      have : X[k]? = some v := by rw [List.getElem?_eq_getElem hk, he]
      rw [gX k (by omega)] at this
      exact one _ _ (by omega) this
    have oY : ∀ v ∈ Y, v.oneCell' = true := fun v hv => by
      obtain ⟨k, hk, he⟩ := List.getElem_of_mem hv
      have : Y[k]? = some v := by rw [List.getElem?_eq_getElem hk, he]
      rw [gY k (by omega)] at this
      exact one _ _ (by omega) this
    have hrun := run_swap_cells (P := P) gS el ie hie hagg b 0 len c i j hi hj X Y (by rw [hX, hsize]) (by rw [hY, hsize]) oX oY w
      (fun k v hk => by
        have hlt := (List.getElem?_eq_some_iff.1 hk).1
        rw [gX k (by omega)] at hk
        rw [cell_of_heap k2, hsize, Nat.zero_add]; exact hk)
      (fun k v hk => by
        have hlt := (List.getElem?_eq_some_iff.1 hk).1
        rw [gY k (by omega)] at hk
        rw [cell_of_heap k2, hsize, Nat.zero_add]; exact hk)
      (fun k hk => hfz _) (fun k hk => hfz _)
    rw [hsize, Nat.zero_add, Nat.zero_add] at hrun
    refine ⟨_, _, by rw [hx, hvse, hrun]; rfl, ?_⟩
    obtain ⟨arr1, p1, p2, p3⟩ := heap_setCells_at Y (i * sz) arr w k2 (by omega)
    obtain ⟨arr2, q1, q2, q3⟩ := heap_setCells_at X (j * sz) arr1 _ p1 (by omega)
    obtain ⟨a1, a2, a3, a4, a5⟩ := setCells_same Y b (i * sz) w
    obtain ⟨c1, c2, c3, c4, c5⟩ := setCells_same X b (j * sz) (w.setCells b (i * sz) Y)
    have hrel := rel_start hl hvs hmr
    have lY : ((obj.drop (j * sz)).take sz).length = sz := by rw [List.length_take, List.length_drop]; omega
    have lX : ((obj.drop (i * sz)).take sz).length = sz := by rw [List.length_take, List.length_drop]; omega
    have l1 : (splice obj (i * sz) ((obj.drop (j * sz)).take sz)).length = obj.length := splice_length (by rw [lY]; omega)
    have l2 : (swapRows obj sz i j).length = obj.length := by unfold swapRows; rw [splice_length (by rw [lX, l1]; omega), l1]
    have hom : o < mem.length := (List.getElem?_eq_some_iff.1 hm).1
    have h2 := hrel.storeObj (obj' := swapRows obj sz i j) (arr' := arr2) (e := e) hm hne hb k4
      (fun arr0 e0 fz0 h0 => by rw [k2] at h0; injection h0 with h0; injection h0 with h0; subst h0; omega) q1 (c1.trans a1) (fun k hk => (c5 k hk).trans (a5 k hk)) (c2.trans a2) (c3.trans a3) (c4.trans a4)
      (fun p => p) (fun _ => none) (by omega) (fun cc u hu => by
        rw [map_id_fun]
        have plc : ∀ q, q < obj.length → obj[q]? = some u → ∃ x, arr[q]? = some x ∧ ∀ ω' pth, Rep w R ι ω' pth u x := fun q hq ho => by
          obtain ⟨z, hz, hr⟩ := k5 q u ho
          have := (hpl q u ho).2
          exact ⟨z, hz, fun ω' pth => by have h3 := hr.ro ω' pth; rwa [this] at h3⟩
        unfold swapRows at hu
        rw [splice_get (by rw [lX, l1]; omega), lX, splice_get (by rw [lY]; omega), lY] at hu
        rw [q3 cc, hX, p3 cc, hY]
        by_cases d1 : cc < j * sz
        · rw [if_pos d1] at hu ⊢
          by_cases d3 : cc < i * sz
          · rw [if_pos d3] at hu ⊢
            obtain ⟨x, hx1, hx2⟩ := plc cc (by omega) hu
            exact ⟨x, hx1, hx2 _ _⟩
          · rw [if_neg d3] at hu ⊢
            by_cases d4 : cc < i * sz + sz
            · rw [if_pos d4] at hu ⊢
              rw [take_drop_get _ _ _ _ (by omega)] at hu
              rw [gY _ (by omega)]
              obtain ⟨x, hx1, hx2⟩ := plc _ (by omega) hu
              exact ⟨x, hx1, hx2 _ _⟩
            · rw [if_neg d4] at hu ⊢
              obtain ⟨x, hx1, hx2⟩ := plc cc (by omega) hu
              exact ⟨x, hx1, hx2 _ _⟩
        · rw [if_neg d1] at hu ⊢
          by_cases d2 : cc < j * sz + sz
          · rw [if_pos d2] at hu ⊢
            rw [take_drop_get _ _ _ _ (by omega)] at hu
            rw [gX _ (by omega)]
            obtain ⟨x, hx1, hx2⟩ := plc _ (by omega) hu
            exact ⟨x, hx1, hx2 _ _⟩
          · rw [if_neg d2] at hu ⊢
            have hlt : cc < obj.length := by
              by_cases d3 : cc < i * sz
              · rw [if_pos d3] at hu; exact (List.getElem?_eq_some_iff.1 hu).1
              · rw [if_neg d3] at hu
                by_cases d4 : cc < i * sz + sz
                · omega
                · rw [if_neg d4] at hu; exact (List.getElem?_eq_some_iff.1 hu).1
            by_cases d3 : cc < i * sz
            · rw [if_pos d3] at hu ⊢
              obtain ⟨x, hx1, hx2⟩ := plc cc hlt hu
              exact ⟨x, hx1, hx2 _ _⟩
            · rw [if_neg d3] at hu ⊢
              by_cases d4 : cc < i * sz + sz
              · rw [if_pos d4] at hu ⊢
                rw [take_drop_get _ _ _ _ (by omega)] at hu
                rw [gY _ (by omega)]
                obtain ⟨x, hx1, hx2⟩ := plc _ (by omega) hu
                exact ⟨x, hx1, hx2 _ _⟩
              · rw [if_neg d4] at hu ⊢
                obtain ⟨x, hx1, hx2⟩ := plc cc hlt hu
                exact ⟨x, hx1, hx2 _ _⟩)
      (fun d v hv => by cases hv) (fun o' c s _ => rfl)
    exact ⟨_, _, _, rel_post h2 (fun o' => (vw_set mem o _ hom o').symm), _, rfl, .tup _ _ _ rfl (fun q u x hu _ => by cases hu)⟩)
end Go.Aw
end
