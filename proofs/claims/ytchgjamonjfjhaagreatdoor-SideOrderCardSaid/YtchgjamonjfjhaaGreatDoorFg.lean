/-
  A part of the proof of SideOrderCardSaid (see the last text, Om): no statement of its own, no condition.
-/
import Derived.Test.YtchgjamonjfjhaaGreatDoorFf
import Derived.Orders
set_option linter.unusedSimpArgs false
set_option linter.unusedVariables false
section
set_option linter.unusedSimpArgs false
namespace Go.Aw
open Go.RowKit

/-! ### Regions that draw their order -/
structure Evt where
  r : List Rd
  w : List Wr

def guardRds (all : List Oper) (o : Oper) : List Rd → Prop := fun rds => ∀ l, l ∈ guardR all o → ∃ r, r ∈ rds ∧ r.loc = l

/-- One operation of the region, run as the guard says. -/
def EvRun (P : Program) [GT P] (nt : Nat) (all : List Oper) (o : Oper) (e : Evt) : Prop :=
  ∀ (Γ : Gam) (S : Vw) (a : Act) (w : World) (K : Act → World → Prop) (Q : Exit → Act → World → Prop), Γ.Fit P nt → (∀ r, r ∈ e.r → S.has r) → RelV Γ S a w →
    (∀ a' w', RelV Γ (S.puts e.w) a' w' → K a' w') →
    if Region.wanted o (yielded all.toArray a.tmps) then o.wp P a w K Q ∨ (o.asks P a w ∧ LetsOut Q) else K (a.put o.dst undef) w

def Vw.at (S : Vw) (l : Bool × Nat) : Option AV × Option (List AV) := if l.1 then (none, S.m l.2) else (S.g l.2, none)
theorem Vw.ext_at {S T : Vw} (h : ∀ l, S.at l = T.at l) : S = T := by
  cases S; cases T
  congr 1
  · funext d; have := h (false, d); simpa [Vw.at] using this
  · funext n; have := h (true, n); simpa [Vw.at] using this
theorem has_at {S T : Vw} {r : Rd} (h : S.at r.loc = T.at r.loc) : S.has r ↔ T.has r := by
  cases r <;> simp only [Rd.loc, Vw.at, Vw.has] at h ⊢ <;> simp at h <;> rw [h]
theorem put_at_ne {S : Vw} {x : Wr} {l : Bool × Nat} (h : l ≠ x.loc) : (S.put x).at l = S.at l := by
  obtain ⟨b, n⟩ := l
  cases x with
  | s d v =>
    cases b with
    | true => rfl
    | false =>
      have : n ≠ d := fun e => h (by subst e; rfl)
      simp [Vw.at, Vw.put, upd, this]
  | o m obj =>
    cases b with
    | false => rfl
    | true =>
      have : n ≠ m := fun e => h (by subst e; rfl)
      simp [Vw.at, Vw.put, upd, this]
theorem put_at_eq {S T : Vw} {x : Wr} {l : Bool × Nat} (h : l = x.loc) : (S.put x).at l = (T.put x).at l := by
  subst h
  cases x <;> simp [Vw.at, Vw.put, upd, Wr.loc]
theorem puts_at_ne {l : Bool × Nat} : ∀ {W : List Wr} {S : Vw}, l ∉ wrLocs W → (S.puts W).at l = S.at l
  | [], S, _ => rfl
  | x :: W, S, h => by
    simp only [wrLocs, List.mem_cons, not_or] at h
    rw [puts_cons, puts_at_ne h.2, put_at_ne h.1]
theorem puts_at_same {l : Bool × Nat} : ∀ {W : List Wr} {S T : Vw}, S.at l = T.at l → (S.puts W).at l = (T.puts W).at l
  | [], S, T, h => h
  | x :: W, S, T, h => by
    rw [puts_cons, puts_cons]
    refine puts_at_same ?_
    by_cases hl : l = x.loc
    · exact put_at_eq hl
    · rw [put_at_ne hl, put_at_ne hl, h]
theorem puts_at_eq {l : Bool × Nat} : ∀ {W : List Wr} {S T : Vw}, l ∈ wrLocs W → (S.puts W).at l = (T.puts W).at l
  | [], S, T, h => by cases h
  | x :: W, S, T, h => by
    rw [puts_cons, puts_cons]
    simp only [wrLocs, List.mem_cons] at h
    by_cases hl : l = x.loc
    · exact puts_at_same (put_at_eq hl)
    · exact puts_at_eq (h.resolve_left hl)

/-- The events of a set, in the text's order. -/
def fold (D : Nat → Bool) : Nat → List Evt → Vw → Vw
  | _, [], S => S
  | k, e :: r, S => fold D (k + 1) r (if D k then S.puts e.w else S)

theorem fold_agree {D D' : Nat → Bool} {l : Bool × Nat} : ∀ {evs : List Evt} {k : Nat} {S S' : Vw}, S.at l = S'.at l → (∀ j e, evs[j]? = some e → l ∈ wrLocs e.w → D (k + j) = D' (k + j)) →
    (fold D k evs S).at l = (fold D' k evs S').at l
  | [], k, S, S', h, _ => h
  | e :: r, k, S, S', h, hd => by
    simp only [fold]
    refine fold_agree ?_ (fun j e' he hl => by have := hd (j + 1) e' (by simpa using he) hl; rwa [show k + (j + 1) = k + 1 + j from by omega] at this)
    by_cases hl : l ∈ wrLocs e.w
    · have h0 := hd 0 e rfl hl
      simp only [Nat.add_zero] at h0
      rw [h0]
      split
      · exact puts_at_eq hl
      · exact h
    · have e1 : (if D k = true then S.puts e.w else S).at l = S.at l := by split <;> first | exact puts_at_ne hl | rfl
      have e2 : (if D' k = true then S'.puts e.w else S').at l = S'.at l := by split <;> first | exact puts_at_ne hl | rfl
      rw [e1, e2, h]

theorem fold_last {D : Nat → Bool} {l : Bool × Nat} : ∀ {evs : List Evt} {k i : Nat} {S T : Vw} {e : Evt}, evs[i]? = some e → D (k + i) = true → l ∈ wrLocs e.w →
    (∀ j e', i < j → evs[j]? = some e' → D (k + j) = true → l ∉ wrLocs e'.w) → (fold D k evs S).at l = (T.puts e.w).at l
  | [], k, i, S, T, e, h, _, _, _ => by simp at h
  | x :: r, k, 0, S, T, e, h, hd, hl, hj => by
    simp at h; subst h
    simp only [fold, Nat.add_zero] at hd ⊢
    rw [if_pos hd]
    have : (fold D (k + 1) r (S.puts x.w)).at l = (fold (fun _ => false) (k + 1) r (S.puts x.w)).at l := by
      refine fold_agree rfl (fun j e' he hl' => ?_)
      cases hD : D (k + 1 + j) with
      | false => rfl
      | true => exact absurd hl' (hj (j + 1) e' (by omega) (by simpa using he) (by rwa [show k + (j + 1) = k + 1 + j from by omega]))
    rw [this]
    have h2 : ∀ (r : List Evt) (k : Nat) (S : Vw), fold (fun _ => false) k r S = S := by
      intro r
      induction r with
      | nil => intro k S; rfl
      | cons e r ih => intro k S; simp only [fold]; rw [ih]; rfl
    rw [h2]
    exact puts_at_eq hl
  | x :: r, k, i + 1, S, T, e, h, hd, hl, hj => by
    simp only [fold]
    exact fold_last (evs := r) (k := k + 1) (i := i) (by simpa using h) (by rwa [show k + 1 + i = k + (i + 1) from by omega]) hl
      (fun j e' hij he hD => hj (j + 1) e' (by omega) (by simpa using he) (by rwa [show k + (j + 1) = k + 1 + j from by omega]))

theorem fold_take {n : Nat} : ∀ {evs : List Evt} {k : Nat} {S : Vw}, fold (fun j => decide (j < k + n)) k evs S = (evs.take n).foldl (fun S e => S.puts e.w) S := by
  have h2 : ∀ (r : List Evt) (k : Nat) (S : Vw) (m : Nat), m ≤ k → fold (fun j => decide (j < m)) k r S = S := by
    intro r
    induction r with
    | nil => intro k S m _; rfl
    | cons e r ih => intro k S m hm; simp only [fold]; rw [ih _ _ _ (by omega)]; simp; omega
  induction n with
  | zero => intro evs k S; simpa using h2 evs k S k (Nat.le_refl k)
  | succ n ih =>
    intro evs k S
    cases evs with
    | nil => rfl
    | cons e r =>
      simp only [fold, List.take_succ_cons, List.foldl_cons]
      have : k < k + (n + 1) := by omega
      simp only [this, decide_true, if_true]
      rw [← ih (k := k + 1)]
      rw [show k + 1 + n = k + (n + 1) from by omega]

/-! ### The check -/
def locMem (l : Bool × Nat) : List (Bool × Nat) → Bool
  | [] => false
  | x :: r => (x.1 == l.1 && x.2 == l.2) || locMem l r
theorem locMem_iff {l : Bool × Nat} : ∀ {L : List (Bool × Nat)}, locMem l L = true ↔ l ∈ L
  | [] => by simp [locMem]
  | x :: r => by
    simp only [locMem, Bool.or_eq_true, Bool.and_eq_true, beq_iff_eq, List.mem_cons, locMem_iff (L := r)]
    constructor
    · rintro (⟨h1, h2⟩ | h)
      · exact .inl (Prod.ext h1.symm h2.symm)
      · exact .inr h
    · rintro (rfl | h)
      · exact .inl ⟨rfl, rfl⟩
      · exact .inr h
def locDis : List (Bool × Nat) → List (Bool × Nat) → Bool
  | [], _ => true
  | x :: r, L => !locMem x L && locDis r L
theorem locDis_iff : ∀ {A B : List (Bool × Nat)}, locDis A B = true → ∀ l, l ∈ A → l ∉ B
  | [], B, _, l, h => by cases h
  | x :: r, B, h, l, hl => by
    simp only [locDis, Bool.and_eq_true, Bool.not_eq_true'] at h
    rcases List.mem_cons.1 hl with rfl | hl
    · intro hb; rw [locMem_iff.2 hb] at h; exact absurd h.1 (by simp)
    · exact locDis_iff h.2 l hl

def indep (a b : Fp) : Bool := locDis a.w b.r && locDis a.w b.w && locDis b.w a.r
def maskOf : List Edge → List Nat → Nat
  | [], _ => 0
  | e :: r, acc => if Region.binds .any e then (2 ^ e.on ||| acc.getD e.on 0) ||| maskOf r acc else maskOf r acc
def masks : List Oper → List Nat → List Nat
  | [], acc => acc
  | o :: r, acc => masks r (acc ++ [maskOf o.after.toList acc])
/-- Each of the earlier ones is bound to come first, or has nothing to do with it. -/
def pairOk (m : Nat) (f : Fp) : Nat → List Fp → Bool
  | _, [] => true
  | i, x :: r => (m.testBit i || indep x f) && pairOk m f (i + 1) r
def pairsOk : List Nat → List Fp → List Fp → Bool
  | m :: ms, f :: fs, seen => pairOk m f 0 seen && pairsOk ms fs (seen ++ [f])
  | _, [], _ => true
  | [], _ :: _, _ => false
def withG (all : List Oper) : List Oper → List Fp → List Fp
  | o :: r, f :: fs => ⟨guardR all o ++ f.r, f.w⟩ :: withG all r fs
  | _, _ => []
def backOk : Nat → List Oper → Bool
  | _, [] => true
  | i, o :: r => (o.after.toList.all fun e => !Region.binds .any e || decide (e.on < i)) && backOk (i + 1) r
theorem backOk_spec : ∀ {l : List Oper} {k : Nat}, backOk k l = true → ∀ (i : Nat) o e, l[i]? = some o → e ∈ o.after.toList → Region.binds .any e = true → e.on < k + i
  | [], k, _, i, o, e, h, _, _ => by simp at h
  | x :: r, k, hb, i, o, e, h, he, hbi => by
    simp only [backOk, Bool.and_eq_true] at hb
    cases i with
    | zero =>
      simp at h; subst h
      have := List.all_eq_true.1 hb.1 e he
      simpa [hbi] using this
    | succ i => simp at h; have := backOk_spec hb.2 i o e h he hbi; omega
def drawOk (all : List Oper) (fps : List Fp) : Bool := backOk 0 all && pairsOk (masks all []) (withG all all fps) []

def Closed (ops : List Oper) (D : Nat → Bool) : Prop := ∀ (i : Nat) o e, ops[i]? = some o → D i = true → e ∈ o.after.toList → Region.binds .any e = true → D e.on = true

theorem maskOf_bit {acc : List Nat} {j : Nat} : ∀ {es : List Edge}, (maskOf es acc).testBit j = true → ∃ e, e ∈ es ∧ Region.binds .any e = true ∧ (e.on = j ∨ (acc.getD e.on 0).testBit j = true)
  | [], h => by simp [maskOf] at h
  | e :: r, h => by
    simp only [maskOf] at h
    split at h
    · rename_i hb
      simp only [Nat.testBit_or, Bool.or_eq_true] at h
      rcases h with (h | h) | h
      · exact ⟨e, by simp, hb, .inl (by simpa [Nat.testBit_two_pow] using h)⟩
      · exact ⟨e, by simp, hb, .inr h⟩
      · obtain ⟨e', h1, h2⟩ := maskOf_bit h; exact ⟨e', by simp [h1], h2⟩
    · obtain ⟨e', h1, h2⟩ := maskOf_bit h; exact ⟨e', by simp [h1], h2⟩

theorem masks_sound {D : Nat → Bool} (all : List Oper) (hD : Closed all D) : ∀ (r pre : List Oper) (acc : List Nat), all = pre ++ r → acc.length = pre.length →
    (∀ i m j, acc[i]? = some m → D i = true → m.testBit j = true → D j = true) →
    (masks r acc).length = all.length ∧ ∀ i m j, (masks r acc)[i]? = some m → D i = true → m.testBit j = true → D j = true
  | [], pre, acc, he, hl, h => ⟨by simp [masks, he, hl], h⟩
  | o :: r, pre, acc, he, hl, h => by
    refine masks_sound all hD r (pre ++ [o]) _ (by simp [he]) (by simp [hl]) (fun i m j hi hd hb => ?_)
    by_cases hlt : i < acc.length
    · rw [List.getElem?_append_left hlt] at hi; exact h i m j hi hd hb
    · have hi2 : i = acc.length := by
        have := (List.getElem?_eq_some_iff.1 hi).1; simp at this; omega
      subst hi2
      simp at hi; subst hi
      obtain ⟨e, h1, h2, h3⟩ := maskOf_bit hb
      have hon := hD acc.length o e (by rw [he, hl]; simp) hd h1 h2
      rcases h3 with rfl | h3
      · exact hon
      · cases hg : acc[e.on]? with
        | none => rw [List.getD_eq_getElem?_getD, hg] at h3; simp at h3
        | some m' => rw [List.getD_eq_getElem?_getD, hg] at h3; exact h e.on m' j hg hon h3

theorem pairOk_spec {m : Nat} {f : Fp} : ∀ {seen : List Fp} {k : Nat}, pairOk m f k seen = true → ∀ i x, seen[i]? = some x → m.testBit (k + i) = true ∨ indep x f = true
  | [], k, _, i, x, h => by simp at h
  | y :: r, k, hp, i, x, h => by
    simp only [pairOk, Bool.and_eq_true, Bool.or_eq_true] at hp
    cases i with
    | zero => simp at h; subst h; simpa using hp.1
    | succ i => simp at h; have := pairOk_spec hp.2 i x h; rwa [show k + 1 + i = k + (i + 1) from by omega] at this

theorem pairsOk_spec : ∀ {ms : List Nat} {fs seen : List Fp}, pairsOk ms fs seen = true → ∀ i j x f m, i < seen.length + j → (seen ++ fs)[i]? = some x → fs[j]? = some f → ms[j]? = some m → m.testBit i = true ∨ indep x f = true
  | _, [], seen, _, i, j, x, f, m, _, _, hf, _ => by simp at hf
  | [], _ :: _, seen, h, _, _, _, _, _, _, _, _, _ => by cases h
  | m0 :: ms, f0 :: fs, seen, h, i, j, x, f, m, hij, hx, hf, hm => by
    simp only [pairsOk, Bool.and_eq_true] at h
    cases j with
    | zero =>
      simp at hf hm; subst hf; subst hm
      rw [List.getElem?_append_left (by omega)] at hx
      simpa using pairOk_spec h.1 i x hx
    | succ j =>
      simp at hf hm
      exact pairsOk_spec h.2 i j x f m (by simp; omega) (by simpa using hx) hf hm

def Evt.fp (e : Evt) : Fp := mkFp e.r e.w
theorem withG_get {all : List Oper} : ∀ {ops : List Oper} {fs : List Fp} {i : Nat} {o : Oper} {f : Fp}, ops[i]? = some o → fs[i]? = some f → (withG all ops fs)[i]? = some ⟨guardR all o ++ f.r, f.w⟩
  | [], _, i, _, _, h, _ => by simp at h
  | _ :: _, [], i, _, _, _, h => by simp at h
  | x :: r, y :: fs, i, o, f, h1, h2 => by
    cases i with
    | zero => simp at h1 h2; subst h1; subst h2; rfl
    | succ i => simp at h1 h2; simp only [withG, List.getElem?_cons_succ]; exact withG_get h1 h2

theorem rdLocs_mem {r : Rd} : ∀ {l : List Rd}, r ∈ l → r.loc ∈ rdLocs l
  | x :: l, h => by
    simp only [rdLocs, List.mem_cons]
    rcases List.mem_cons.1 h with rfl | h
    · exact .inl rfl
    · exact .inr (rdLocs_mem h)

/-- What a walk in the text's order tells of each operation. -/
structure Told (P : Program) [GT P] (nt : Nat) (all : List Oper) (S : Vw) (evs : List Evt) (fps : List Fp) : Prop where
  len : evs.length = all.length
  flen : fps.length = all.length
  run : ∀ (i : Nat) o e, all[i]? = some o → evs[i]? = some e → EvRun P nt all o e
  has : ∀ (i : Nat) e, evs[i]? = some e → ∀ r, r ∈ e.r → ((evs.take i).foldl (fun S e => S.puts e.w) S).has r
  fp : ∀ (i : Nat) o e f, all[i]? = some o → evs[i]? = some e → fps[i]? = some f → (∀ r, r ∈ e.r → r.loc ∈ guardR all o ++ f.r) ∧ wrLocs e.w = f.w

theorem told_any {P : Program} [GT P] {nt : Nat} {all : List Oper} {S : Vw} {evs : List Evt} {fps : List Fp} (ht : Told P nt all S evs fps) (hok : drawOk all fps = true)
    {Γ : Gam} (hnt : Γ.Fit P nt) {Q : Exit → Act → World → Prop} (hQ : ∀ a w, RelV Γ (evs.foldl (fun S e => S.puts e.w) S) a w → Q .normal a w) :
    ∀ (fuel : Nat) (listed : Array Bool) (a : Act) (w : World), listed.size = all.length → (List.range all.length).countP (fun i => !listed.getD i true) ≤ fuel → Closed all (fun i => listed.getD i false) → RelV Γ (fold (fun i => listed.getD i false) 0 evs S) a w →
      wpAny P .any all.toArray Q fuel listed a w := by
  -- when nothing is ready, all is listed
  have allDone : ∀ (listed : Array Bool) (a : Act) (w : World), listed.size = all.length → RelV Γ (fold (fun i => listed.getD i false) 0 evs S) a w → (∀ i, i < all.length → listed.getD i false = true) → Q .normal a w := by
    intro listed a w hs hr hall
    have : fold (fun i => listed.getD i false) 0 evs S = evs.foldl (fun S e => S.puts e.w) S := by
      have h1 := fold_take (n := evs.length) (evs := evs) (k := 0) (S := S)
      rw [List.take_length] at h1
      rw [← h1]
      refine Vw.ext_at (fun l => fold_agree rfl (fun j e he _ => ?_))
      have := (List.getElem?_eq_some_iff.1 he).1
      have hlt : j < all.length := by rw [← ht.len]; exact this
      simp only [Nat.zero_add]
      rw [hall j hlt]; simp [this]
    rw [this] at hr
    exact hQ a w hr
  simp only [drawOk, Bool.and_eq_true] at hok
  obtain ⟨hback, hpairs⟩ := hok
  have readyIff : ∀ (listed : Array Bool) (i : Nat), i ∈ Region.ready .any all.toArray listed ↔ i < all.length ∧ listed.getD i true = false ∧ ∃ o, all[i]? = some o ∧ ∀ e, e ∈ o.after.toList → Region.binds .any e = true → listed.getD e.on false = true := by
    intro listed i
    simp only [Region.ready, List.mem_filter, List.mem_range, List.size_toArray, Bool.and_eq_true, Bool.not_eq_true', List.getElem?_toArray]
    constructor
    · rintro ⟨h1, h2, h3⟩
      refine ⟨h1, h2, ?_⟩
      cases ho : all[i]? with
      | none => rw [ho] at h3; simp at h3
      | some o =>
        rw [ho] at h3
        refine ⟨o, rfl, fun e he hb => ?_⟩
        simp only [Option.map_some, Option.getD_some, Array.all_eq_true_iff_forall_mem] at h3
        have := h3 e (by simpa using he)
        simpa [hb] using this
    · rintro ⟨h1, h2, o, ho, h3⟩
      refine ⟨h1, h2, ?_⟩
      rw [ho]
      simp only [Option.map_some, Option.getD_some, Array.all_eq_true_iff_forall_mem]
      intro e he
      cases hb : Region.binds .any e with
      | false => simp
      | true => simpa using h3 e (by simpa using he) hb
  have doneOf : ∀ (listed : Array Bool), listed.size = all.length → Region.ready .any all.toArray listed = [] → ∀ i, i < all.length → listed.getD i false = true := by
    intro listed hs hr i
    induction i using Nat.strongRecOn with
    | ind i ih =>
      intro hi
      cases hl : listed.getD i false with
      | true => rfl
      | false =>
        exfalso
        have hmem : i ∈ Region.ready .any all.toArray listed := by
          refine (readyIff listed i).2 ⟨hi, ?_, all[i], List.getElem?_eq_getElem hi, fun e he hb => ?_⟩
          · rw [Array.getD_eq_getD_getElem?, Array.getElem?_eq_getElem (by omega)] at hl ⊢
            simpa using hl
          · have := backOk_spec hback i _ e (List.getElem?_eq_getElem hi) he hb
            exact ih e.on (by omega) (by omega)
        rw [hr] at hmem; cases hmem
  intro fuel
  have onStep : ∀ (listed : Array Bool) (a : Act) (w : World) (i : Nat) (K : Act → World → Prop), listed.size = all.length → Closed all (fun i => listed.getD i false) →
      RelV Γ (fold (fun i => listed.getD i false) 0 evs S) a w → i ∈ Region.ready .any all.toArray listed →
      (∀ a' w', RelV Γ (fold (fun j => (listed.setIfInBounds i true).getD j false) 0 evs S) a' w' → K a' w') → wpOp P all.toArray Q i K a w := by
    intro listed a w i K hs hcl hr hi hK
    obtain ⟨hlt, hun, o, ho, hpre⟩ := (readyIff listed i).1 hi
    have hef : ∃ e, evs[i]? = some e := ⟨_, List.getElem?_eq_getElem (show i < evs.length by rw [ht.len]; exact hlt)⟩
    obtain ⟨e, he⟩ := hef
    have hff : ∃ f, fps[i]? = some f := ⟨_, List.getElem?_eq_getElem (show i < fps.length by rw [ht.flen]; exact hlt)⟩
    obtain ⟨f, hf⟩ := hff
    have hunf : listed.getD i false = false := by
      rw [Array.getD_eq_getD_getElem?, Array.getElem?_eq_getElem (by omega)] at hun ⊢
      simpa using hun
    -- closed with i
    let D : Nat → Bool := fun j => listed.getD j false
    let D' : Nat → Bool := fun j => (listed.setIfInBounds i true).getD j false
    have hD' : ∀ j, D' j = if j = i then true else D j := by
      intro j
      show (listed.setIfInBounds i true).getD j false = _
      rw [Array.getD_eq_getD_getElem?, Array.getElem?_setIfInBounds]
      by_cases hji : i = j
      · subst hji; simp [hs, hlt]
      · simp only [if_neg hji]
        rw [if_neg (fun h => hji h.symm)]
        show _ = listed.getD j false
        rw [Array.getD_eq_getD_getElem?]
    have hcl' : Closed all D' := by
      intro j o' e' hj hd he' hb
      rw [hD'] at hd ⊢
      split
      · rfl
      · split at hd
        · rename_i _ hji; subst hji
          rw [ho] at hj; injection hj with hj; subst hj
          exact hpre e' he' hb
        · exact hcl j o' e' hj hd he' hb
    obtain ⟨m1, m2⟩ := masks_sound (D := D') all hcl' all [] [] rfl rfl (fun i m j h => by simp at h)
    obtain ⟨_, n2⟩ := masks_sound (D := D) all hcl all [] [] rfl rfl (fun i m j h => by simp at h)
    -- what any two have to do with each other
    have two : ∀ (x y : Nat), x < y → ∀ ox oy ex ey fx fy, all[x]? = some ox → all[y]? = some oy → evs[x]? = some ex → evs[y]? = some ey → fps[x]? = some fx → fps[y]? = some fy →
        (∃ m, (masks all [])[y]? = some m ∧ m.testBit x = true) ∨ indep ⟨guardR all ox ++ fx.r, fx.w⟩ ⟨guardR all oy ++ fy.r, fy.w⟩ = true := by
      intro x y hxy ox oy ex ey fx fy hox hoy hex hey hfx hfy
      have hy : y < all.length := (List.getElem?_eq_some_iff.1 hoy).1
      have hm : (masks all [])[y]? = some ((masks all [])[y]'(by omega)) := List.getElem?_eq_getElem (by omega)
      rcases pairsOk_spec hpairs x y _ _ _ (by simpa using hxy) (by simpa using withG_get hox hfx) (withG_get hoy hfy) hm with h | h
      · exact .inl ⟨_, hm, h⟩
      · exact .inr h
    have get3 : ∀ (j : Nat) e', evs[j]? = some e' → ∃ o' f', all[j]? = some o' ∧ fps[j]? = some f' := by
      intro j e' he'
      have := (List.getElem?_eq_some_iff.1 he').1
      rw [ht.len] at this
      exact ⟨_, _, List.getElem?_eq_getElem this, List.getElem?_eq_getElem (by rw [ht.flen]; exact this)⟩
    obtain ⟨hfr, hfw⟩ := ht.fp i o e f ho he hf
    have hreads : ∀ r, r ∈ e.r → (fold D 0 evs S).has r := by
      intro r hr'
      refine (has_at (?_ : _ = ((evs.take i).foldl (fun S e => S.puts e.w) S).at r.loc)).2 (ht.has i e he r hr')
      have h1 := fold_take (n := i) (evs := evs) (k := 0) (S := S)
      rw [← h1]
      refine fold_agree rfl (fun j e' he' hl => ?_)
      simp only [Nat.zero_add]
      obtain ⟨o', f', ho', hf'⟩ := get3 j e' he'
      obtain ⟨_, hfw'⟩ := ht.fp j o' e' f' ho' he' hf'
      by_cases hji : j < i
      · -- an earlier one: it has run
        simp only [hji, decide_true]
        rcases two j i hji _ _ _ _ _ _ ho' ho he' he hf' hf with ⟨m, hm, hb⟩ | hin
        · have hd : D' i = true := by rw [hD']; simp
          have := m2 i m j hm hd hb
          rw [hD'] at this
          rw [if_neg (by omega)] at this
          exact this
        · exfalso
          simp only [indep, Bool.and_eq_true] at hin
          exact locDis_iff hin.1.1 _ (by rw [← hfw']; exact hl) (hfr r hr')
      · simp only [hji, decide_false]
        by_cases hjeq : j = i
        · subst hjeq; exact hunf
        · cases hdj : D j with
          | false => rfl
          | true =>
            exfalso
            rcases two i j (by omega) _ _ _ _ _ _ ho ho' he he' hf hf' with ⟨m, hm, hb⟩ | hin
            · have := n2 j m i hm hdj hb
              have h2 : D i = false := hunf
              rw [h2] at this; cases this
            · simp only [indep, Bool.and_eq_true] at hin
              exact locDis_iff hin.2 _ (by rw [← hfw']; exact hl) (hfr r hr')
    have hwrites : (fold D 0 evs S).puts e.w = fold D' 0 evs S := by
      refine Vw.ext_at (fun l => ?_)
      by_cases hl : l ∈ wrLocs e.w
      · rw [fold_last (D := D') (T := fold D 0 evs S) he (by rw [hD']; simp) hl (fun j e' hij he' hd => ?_)]
        obtain ⟨o', f', ho', hf'⟩ := get3 j e' he'
        obtain ⟨_, hfw'⟩ := ht.fp j o' e' f' ho' he' hf'
        intro hl'
        simp only [Nat.zero_add] at hd
        rw [hD', if_neg (by omega)] at hd
        rcases two i j hij _ _ _ _ _ _ ho ho' he he' hf hf' with ⟨m, hm, hb⟩ | hin
        · have := n2 j m i hm hd hb
          have h2 : D i = false := hunf
          rw [h2] at this; cases this
        · simp only [indep, Bool.and_eq_true] at hin
          exact locDis_iff hin.1.2 l (by rw [← hfw]; exact hl) (by rw [← hfw']; exact hl')
      · rw [puts_at_ne hl]
        refine fold_agree rfl (fun j e' he' hl' => ?_)
        simp only [Nat.zero_add]
        rw [hD', if_neg]
        intro hji
        subst hji
        rw [he] at he'; injection he' with he'; subst he'
        exact hl hl'
    unfold wpOp
    simp only [List.getElem?_toArray, ho]
    refine ht.run i o e ho he Γ (fold D 0 evs S) a w K Q hnt hreads hr (fun a' w' hr' => hK a' w' ?_)
    rw [hwrites] at hr'
    exact hr'
  induction fuel with
  | zero =>
    intro listed a w hs hc hcl hr
    have hrd : Region.ready .any all.toArray listed = [] := by
      cases hrd : Region.ready .any all.toArray listed with
      | nil => rfl
      | cons x xs =>
        exfalso
        obtain ⟨h1, h2, _⟩ := (readyIff listed x).1 (by rw [hrd]; simp)
        have : 0 < (List.range all.length).countP (fun i => !listed.getD i true) := List.countP_pos_iff.2 ⟨x, by simpa using h1, by simpa using h2⟩
        omega
    exact ⟨hrd, allDone listed a w hs hr (doneOf listed hs hrd)⟩
  | succ fuel ih =>
    intro listed a w hs hc hcl hr
    refine ⟨fun hrd => allDone listed a w hs hr (doneOf listed hs hrd), fun i hi => ?_⟩
    refine onStep listed a w i _ hs hcl hr hi (fun a' w' hr' => ih _ a' w' (by simpa using hs) ?_ ?_ hr')
    · obtain ⟨hlt, hun, _⟩ := (readyIff listed i).1 hi
      have hcount : ∀ (n : Nat) , i < n → (List.range n).countP (fun j => !(listed.setIfInBounds i true).getD j true) + 1 ≤ (List.range n).countP (fun j => !listed.getD j true) := by
        intro n hn
        have key : ∀ j, (listed.setIfInBounds i true).getD j true = if j = i then true else listed.getD j true := by
          intro j
          rw [Array.getD_eq_getD_getElem?, Array.getElem?_setIfInBounds]
          by_cases hji : i = j
          · subst hji; simp [hs, hlt]
          · simp only [if_neg hji]
            rw [if_neg (fun h => hji h.symm), Array.getD_eq_getD_getElem?]
        induction n with
        | zero => omega
        | succ n ihn =>
          rw [List.range_succ, List.countP_append, List.countP_append]
          by_cases hin : i = n
          · subst hin
            have h1 : (List.range i).countP (fun j => !(listed.setIfInBounds i true).getD j true) = (List.range i).countP (fun j => !listed.getD j true) := by
              refine List.countP_congr (fun j hj => ?_)
              rw [key, if_neg (by simp at hj; omega)]
            rw [h1]
            simp only [List.countP_cons, List.countP_nil, key, hun, if_true]
            simp
          · have := ihn (by omega)
            have h2 : [n].countP (fun j => !(listed.setIfInBounds i true).getD j true) = [n].countP (fun j => !listed.getD j true) := by
              refine List.countP_congr (fun j hj => ?_)
              rw [key, if_neg (by simp at hj; omega)]
            omega
      have := hcount all.length hlt
      omega
    · intro j o' e' hj hd he' hb
      obtain ⟨hlt, hun, o, ho, hpre⟩ := (readyIff listed i).1 hi
      have hD' : ∀ j, (listed.setIfInBounds i true).getD j false = if j = i then true else listed.getD j false := by
        intro j
        rw [Array.getD_eq_getD_getElem?, Array.getElem?_setIfInBounds]
        by_cases hji : i = j
        · subst hji; simp [hs, hlt]
        · simp only [if_neg hji]
          rw [if_neg (fun h => hji h.symm), Array.getD_eq_getD_getElem?]
      simp only [hD'] at hd ⊢
      split
      · rfl
      · split at hd
        · rename_i _ hji; subst hji
          rw [ho] at hj; injection hj with hj; subst hj
          exact hpre e' he' hb
        · exact hcl j o' e' hj hd he' hb

end Go.Aw
end
section
set_option linter.unusedSimpArgs false
namespace Go.Aw
open Go.RowKit

theorem foldl_snoc {S : Vw} (evs : List Evt) (e : Evt) : (evs ++ [e]).foldl (fun S e => S.puts e.w) S = (evs.foldl (fun S e => S.puts e.w) S).puts e.w := by
  rw [List.foldl_append]; rfl

/-- What has been told so far. -/
structure TS (P : Program) [GT P] (nt : Nat) (all pre : List Oper) (S : Vw) (evs : List Evt) (fps : List Fp) (V : Vw) : Prop where
  len : evs.length = pre.length
  flen : fps.length = pre.length
  run : ∀ (i : Nat) o e, pre[i]? = some o → evs[i]? = some e → EvRun P nt all o e
  has : ∀ (i : Nat) e, evs[i]? = some e → ∀ r, r ∈ e.r → ((evs.take i).foldl (fun S e => S.puts e.w) S).has r
  fp : ∀ (i : Nat) o e f, pre[i]? = some o → evs[i]? = some e → fps[i]? = some f → (∀ r, r ∈ e.r → r.loc ∈ guardR all o ++ f.r) ∧ wrLocs e.w = f.w
  view : V = evs.foldl (fun S e => S.puts e.w) S

theorem TS.snoc {P : Program} [GT P] {nt : Nat} {all pre : List Oper} {S : Vw} {evs : List Evt} {fps : List Fp} {V : Vw} (h : TS P nt all pre S evs fps V) {o : Oper} {e : Evt} {f : Fp}
    (hr : EvRun P nt all o e) (hh : ∀ r, r ∈ e.r → V.has r) (hf : (∀ r, r ∈ e.r → r.loc ∈ guardR all o ++ f.r) ∧ wrLocs e.w = f.w) : TS P nt all (pre ++ [o]) S (evs ++ [e]) (fps ++ [f]) (V.puts e.w) where
  len := by simp [h.len]
  flen := by simp [h.flen]
  run := fun i o' e' ho he => by
    by_cases hlt : i < pre.length
    · rw [List.getElem?_append_left hlt] at ho
      rw [List.getElem?_append_left (by rw [h.len]; exact hlt)] at he
      exact h.run i o' e' ho he
    · have : i = pre.length := by have := (List.getElem?_eq_some_iff.1 ho).1; simp at this; omega
      subst this
      have he2 : evs.length = pre.length := h.len
      rw [List.getElem?_append_right (by omega)] at ho
      rw [List.getElem?_append_right (by omega), he2] at he
      simp at ho he; subst ho; subst he; exact hr
  has := fun i e' he r hr' => by
    by_cases hlt : i < evs.length
    · rw [List.getElem?_append_left hlt] at he
      rw [List.take_append_of_le_length (by omega)]
      exact h.has i e' he r hr'
    · have : i = evs.length := by have := (List.getElem?_eq_some_iff.1 he).1; simp at this; omega
      subst this
      rw [List.getElem?_append_right (by omega)] at he
      simp at he; subst he
      rw [List.take_left, ← h.view]
      exact hh r hr'
  fp := fun i o' e' f' ho he hf' => by
    by_cases hlt : i < pre.length
    · rw [List.getElem?_append_left hlt] at ho
      rw [List.getElem?_append_left (by rw [h.len]; exact hlt)] at he
      rw [List.getElem?_append_left (by rw [h.flen]; exact hlt)] at hf'
      exact h.fp i o' e' f' ho he hf'
    · have : i = pre.length := by have := (List.getElem?_eq_some_iff.1 ho).1; simp at this; omega
      subst this
      have he2 : evs.length = pre.length := h.len
      have he3 : fps.length = pre.length := h.flen
      rw [List.getElem?_append_right (by omega)] at ho
      rw [List.getElem?_append_right (by omega), he2] at he
      rw [List.getElem?_append_right (by omega), he3] at hf'
      simp at ho he hf'; subst ho; subst he; subst hf'; exact hf
  view := by rw [foldl_snoc, ← h.view]

theorem guard_wanted {Γ : Gam} {S : Vw} {a : Act} {w : World} (hrel : RelV Γ S a w) {all : List Oper} {o : Oper} {j : Nat} {want b : Bool} {d : Nat} (hg : o.guard = some (j, want)) (hd : gslot all j = some d)
    (hb : S.g d = some (.bool b)) : Region.wanted o (yielded all.toArray a.tmps) = (b == want) := by
  obtain ⟨R, ι, ω, hr, hdom⟩ := hrel
  obtain ⟨x, hx, hxr⟩ := hr.slots d (.bool b) hb
  have hxb := hxr.bool_inv
  subst hxb
  have hy : yielded all.toArray a.tmps j = some b := by
    unfold gslot at hd
    simp only [yielded, List.getElem?_toArray, hd, Option.bind_some, hx]
  simp [Region.wanted, hg, hy]

theorem guard_undef {Γ : Gam} {S : Vw} {a : Act} {w : World} (hrel : RelV Γ S a w) {all : List Oper} {o : Oper} {j : Nat} {want : Bool} {d : Nat} (hg : o.guard = some (j, want)) (hd : gslot all j = some d)
    (hb : S.g d = some (.tup [])) : Region.wanted o (yielded all.toArray a.tmps) = false := by
  obtain ⟨R, ι, ω, hr, hdom⟩ := hrel
  obtain ⟨x, hx, hxr⟩ := hr.slots d _ hb
  have hxb := tup_nil_inv hxr
  subst hxb
  have hy : yielded all.toArray a.tmps j = none := by
    unfold gslot at hd
    simp only [yielded, List.getElem?_toArray, hd, Option.bind_some, hx]
  simp [Region.wanted, hg, hy]

theorem evalOps_told {P : Program} [GT P] {nt : Nat} {all : List Oper} {S : Vw} : ∀ (ops pre : List Oper) (st : St) (fps : List Fp) (evs : List Evt) (K : List Fp → St → Prop),
    evalOps P nt all ops st fps.reverse K (fun _ _ _ => False) → TS P nt all pre S evs fps st.view →
    ∃ evs' fps' st', TS P nt all (pre ++ ops) S evs' fps' st'.view ∧ K fps'.reverse st'
  | [], pre, st, fps, evs, K, h, ht => ⟨evs, fps, st, by simpa using ht, h⟩
  | o :: rest, pre, st, fps, evs, K, h, ht => by
    have perf : ∀ (gr : List Rd), (∀ r, r ∈ gr → st.view.has r) → (∀ r, r ∈ gr → r.loc ∈ guardR all o) →
        (∀ (Γ : Gam) (V : Vw) (a : Act) (w : World), (∀ r, r ∈ gr → V.has r) → RelV Γ V a w → Region.wanted o (yielded all.toArray a.tmps) = true) →
        ∀ (h' : _), ∃ evs' fps' st', TS P nt all (pre ++ o :: rest) S evs' fps' st'.view ∧ K fps'.reverse st' := fun gr g1 g2 g3 h' => by
      rcases perform_step (P := P) (nt := nt) (all := all) (o := o) (rest := rest) (st := st) (acc := fps.reverse) (K := K) (KP := fun _ _ _ => False) h' with ⟨rds, wrs, d1, d2, d3, d4⟩ | ⟨rds, wrs, v, d1, d2, d3, d4⟩
      · have hs := ht.snoc (o := o) (e := ⟨gr ++ rds, wrs⟩) (f := mkFp rds wrs)
          (fun Γ V a w K Q hnt hr hrel hK => by
            obtain ⟨r1, r2⟩ := mem_app hr
            rw [if_pos (g3 Γ V a w r1 hrel)]
            exact .inl (d1 Γ V a w K Q hnt r2 hrel hK))
          (fun r hr => by
            rcases List.mem_append.1 hr with hr | hr
            · exact g1 r hr
            · exact d2 r hr)
          ⟨fun r hr => by
            rcases List.mem_append.1 hr with hr | hr
            · exact List.mem_append.2 (.inl (g2 r hr))
            · exact List.mem_append.2 (.inr (rdLocs_mem hr)), rfl⟩
        rw [← view_puts st wrs d3] at hs
        have := evalOps_told rest (pre ++ [o]) (st.puts wrs) (fps ++ [mkFp rds wrs]) _ K (by simpa using d4) hs
        simpa using this
      · exact d4.elim
    unfold evalOps guardP at h
    split at h
    · rename_i hg
      exact perf [] (by simp) (by simp) (fun Γ V a w _ _ => by simp [Region.wanted, hg]) h
    · rename_i j want hg
      split at h
      · rename_i d hd
        split at h
        · rename_i b hb
          have hgr : guardR all o = [(false, d)] := by simp [guardR, hg, hd]
          by_cases hbw : b = want
          · refine perf [.s d (.bool b)] (fun r hr => by simp at hr; subst hr; exact hb) (fun r hr => by simp at hr; subst hr; simp [hgr, Rd.loc]) (fun Γ V a w hr hrel => ?_) (h.1 hbw)
            rw [guard_wanted hrel hg hd (hr (.s d (.bool b)) (by simp))]
            simp [hbw]
          · have h2 := h.2 (by cases b <;> cases want <;> simp_all)
            have hs := ht.snoc (o := o) (e := ⟨[.s d (.bool b)], skipW o.dst⟩) (f := ⟨guardR all o, wrLocs (skipW o.dst)⟩)
              (fun Γ V a w K Q hnt hr hrel hK => by
                rw [if_neg (by rw [guard_wanted hrel hg hd (hr (.s d (.bool b)) (by simp))]; simp [hbw])]
                exact hK _ _ (skip_rel hrel hnt.1 h2.1))
              (fun r hr => by simp at hr; subst hr; exact hb) ⟨fun r hr => by simp at hr; subst hr; simp [hgr, Rd.loc], rfl⟩
            rw [← view_puts st (skipW o.dst) (by cases o.dst <;> trivial)] at hs
            have := evalOps_told rest (pre ++ [o]) (st.puts (skipW o.dst)) (fps ++ [⟨guardR all o, wrLocs (skipW o.dst)⟩]) _ K (by simpa using h2.2) hs
            simpa using this
        · rename_i hb
          have hgr : guardR all o = [(false, d)] := by simp [guardR, hg, hd]
          have hs := ht.snoc (o := o) (e := ⟨[.s d (.tup [])], skipW o.dst⟩) (f := ⟨guardR all o, wrLocs (skipW o.dst)⟩)
            (fun Γ V a w K Q hnt hr hrel hK => by
              rw [if_neg (by rw [guard_undef hrel hg hd (hr (.s d (.tup [])) (by simp))]; simp)]
              exact hK _ _ (skip_rel hrel hnt.1 h.1))
            (fun r hr => by simp at hr; subst hr; exact hb) ⟨fun r hr => by simp at hr; subst hr; simp [hgr, Rd.loc], rfl⟩
          rw [← view_puts st (skipW o.dst) (by cases o.dst <;> trivial)] at hs
          have := evalOps_told rest (pre ++ [o]) (st.puts (skipW o.dst)) (fps ++ [⟨guardR all o, wrLocs (skipW o.dst)⟩]) _ K (by simpa using h.2) hs
          simpa using this
        · exact h.elim
      · exact h.elim

theorem relV_drew {Γ : Gam} {S : Vw} {a : Act} {w : World} (h : RelV Γ S a w) {n : Nat} : RelV Γ S a { w with drawn := n } := by
  obtain ⟨R, ι, ω, hr, hdom⟩ := h
  have he : Ext w R { w with drawn := n } R := ⟨Nat.le_refl _, fun _ _ _ h hs => ⟨h, hs⟩, fun _ arr e fz h => ⟨arr, e, fz, h, Nat.le_refl _⟩⟩
  have hrep : ∀ {p : List Nat} {v : AV} {x : Value}, Rep w R ι ω p v x → Rep { w with drawn := n } R ι ω p v x := fun h => h.ext he (fun _ _ h => h) (fun _ _ _ _ => ⟨rfl, rfl, rfl⟩)
  refine ⟨R, ι, ω, ⟨fun d v hv => ?_, hr.nt, hr.nodef, ⟨hr.mr.dom, fun o obj ho hne => ?_, hr.mr.inj, hr.mr.sep, hr.mr.ilt, hr.mr.olt⟩,
    hr.env.step he rfl rfl rfl (fun _ _ _ _ => ⟨rfl, rfl⟩) (fun _ _ h => h) (fun o _ hl h => .inl ⟨o, hl, h⟩) (fun k p h => .inl ⟨p, h⟩)⟩, hdom⟩
  · obtain ⟨x, h1, h2⟩ := hr.slots d v hv; exact ⟨x, h1, hrep h2⟩
  · obtain ⟨b, arr, e, h1, h2, h3, h4, h5⟩ := hr.mr.objs o obj ho hne
    exact ⟨b, arr, e, h1, h2, h3, h4, fun c v hv => by obtain ⟨x, g1, g2⟩ := h5 c v hv; exact ⟨x, g1, hrep g2⟩⟩

/-- A region that draws its order. -/
theorem AW_draw {P : Program} [GT P] {nt n0 : Nat} {Q : AEx → St → Prop} {st : St} (hm : P.follows .mixedOrders = true) {id : Nat} {l : List Oper}
    (h : ∀ K : List Fp → St → Prop, (∀ acc st', drawOk l acc.reverse = true → Q .normal st' → K acc st') → evalOps P nt l l st [] K (fun _ _ _ => False)) : AW P nt n0 (.region id l.toArray true) Q st := by
  intro Γ a w hnt hn hrel
  obtain ⟨evs, fps, st', ht, hok, hq⟩ := evalOps_told (P := P) (nt := nt) (all := l) (S := st.view) l [] st [] [] (fun acc st' => drawOk l acc.reverse = true ∧ Q .normal st') (h _ (fun acc st' h1 h2 => ⟨h1, h2⟩))
    ⟨rfl, rfl, fun i o e h => by simp at h, fun i e h => by simp at h, fun i o e f h => by simp at h, rfl⟩
  simp only [List.nil_append, List.reverse_reverse] at ht hok
  refine wp_region_any hm ?_
  have hrel' : RelV Γ st.view a { w with drawn := w.drawn + 1 } := relV_drew hrel
  refine told_any (S := st.view) (evs := evs) (fps := fps) ⟨ht.len, ht.flen, ht.run, ht.has, ht.fp⟩ hok hnt (Q := ExV Γ Q) (fun a' w' hr => ⟨st', hq, by rw [ht.view]; exact hr⟩) _ _ a _ (by simp) ?_ ?_ ?_
  · have := List.countP_le_length (p := fun i => !(Array.replicate l.toArray.size false).getD i true) (l := List.range l.length)
    simpa using this
  · intro i o e ho hd
    simp [Array.getD_eq_getD_getElem?, Array.getElem?_replicate] at hd
    split at hd <;> simp at hd
  · have : fold (fun i => (Array.replicate l.toArray.size false).getD i false) 0 evs st.view = st.view := by
      have h1 := fold_take (n := 0) (evs := evs) (k := 0) (S := st.view)
      simp only [List.take_zero, List.foldl_nil] at h1
      refine Eq.trans ?_ h1
      refine Vw.ext_at (fun l' => fold_agree rfl (fun j e _ _ => ?_))
      simp [Array.getD_eq_getD_getElem?, Array.getElem?_replicate]
      split <;> simp
    rw [this]
    exact hrel'

end Go.Aw
end
section
set_option linter.unusedSimpArgs false
namespace Go.Aw
open Go.RowKit

theorem enters_of {P : Program} {n : FuncId} {fn : Func} {code : Code} (hf : P.funcs[n]? = some fn) (hb : fn.body = some code) (hn : (fn.name == "runtime.NumGoroutine") = false) : Enters P n := by
  intro args w
  unfold callFunc
  have hn' : ¬ fn.name = "runtime.NumGoroutine" := by simpa using hn
  simp [program, Sem.run, hf, hn', hb]

end Go.Aw
end
section
set_option linter.unusedSimpArgs false
set_option linter.unusedVariables false
namespace Go.Aw
open Go.RowKit

/-! ### The walk, carried out -/
abbrev RW := Option (List Rd × List Wr)
def gd (c : Bool) (r : List Rd) (w : List Wr) : RW := if c then some (r, w) else none
theorem gd_some {c : Bool} {r r' : List Rd} {w w' : List Wr} (h : gd c r w = some (r', w')) : c = true ∧ r = r' ∧ w = w' := by
  unfold gd at h
  split at h
  · rename_i hc; injection h with h; injection h with h1 h2; exact ⟨hc, h1, h2⟩
  · cases h
def isBoolT (P : Program) [GT P] (t : TypeId) : Bool := match tdOf P t with | some .bool => true | _ => false
theorem isBoolT_spec {P : Program} [GT P] {t : TypeId} (h : isBoolT P t = true) : tdOf P t = some .bool := by unfold isBoolT at h; split at h <;> simp_all
def isU8T (P : Program) [GT P] (t : TypeId) : Bool := match tdOf P t with | some (.int .u8) => true | _ => false
theorem isU8T_spec {P : Program} [GT P] {t : TypeId} (h : isU8T P t = true) : tdOf P t = some (.int .u8) := by unfold isU8T at h; split at h <;> simp_all
def xMove (nt : Nat) (asg : Bool) (rest : List Oper) (dst : Option Nat) (x : Operand) (st : St) : RW :=
  match dst, x with
  | some d, .tmp s => match getA st.fr s with
    | some v => if (asg || consumed rest d) && owns v && s != d then gd (lt d nt) [.s s v] [.s s (some v.ro), .s d (some v)] else gd (lt d nt) [.s s v] [.s d (some v.ro)]
    | none => none
  | some d, .const c => match constAV c with
    | some v => gd (lt d nt) [] [.s d (some v)]
    | none => none
  | some d, .func f => gd (lt d nt) [] [.s d (some (.func f [] []))]
  | _, _ => none
theorem xMove_s {nt : Nat} {asg : Bool} {rest : List Oper} {dst : Option Nat} {x : Operand} {st : St} {r : List Rd} {w : List Wr} (h : xMove nt asg rest dst x st = some (r, w)) (k : K2) (hk : k r w) : stMove nt asg rest dst x st k := by
  unfold xMove at h
  unfold stMove
  repeat' split at h
  all_goals first
    | (obtain ⟨h1, rfl, rfl⟩ := gd_some h; rw [lt_iff] at h1; simp_all)
    | cases h


theorem srcKindB_s' {P : Program} [GT P] {size : Nat} {tx : TypeId} {v : AV} (h : srcKindB P size tx v = true) : srcKind P size tx v := by
  cases v <;> first
    | exact isSliceT_spec h
    | (simp only [srcKindB, Bool.and_eq_true, decide_eq_true_eq] at h; exact ⟨isStrT_spec h.1, h.2⟩)
theorem allLen_s {n : Nat} {xs : List (List AV)} (h : (xs.all fun y => decide (y.length = n)) = true) : allLen n xs := by
  intro j y hy
  have := List.all_eq_true.1 h y (List.mem_of_getElem? hy)
  simpa using this

def xLoad (P : Program) [GT P] (nt : Nat) (rest : List Oper) (dst : Option Nat) (t : TypeId) (x : Operand) (st : St) : RW :=
  match dst, st.ev x, tiOf P t with
  | some d, some (.ptr n off), some ti => match st.mem[n]? with
    | some obj =>
      if ti.d.row = true then gd (lt d nt && (Nat.blt 0 ti.size && decide (off + ti.size ≤ obj.length))) (rdOf x (.ptr n off) ++ [.o n obj]) [.s d (some (.agg (AV.roL ((obj.drop off).take ti.size))))]
      else match obj[off]? with
        | some v => if (consumed rest d && owns v) = true then gd (lt d nt) (rdOf x (.ptr n off) ++ [.o n obj]) [.o n (obj.set off v.ro), .s d (some v)]
          else gd (lt d nt) (rdOf x (.ptr n off) ++ [.o n obj]) [.s d (some v.ro)]
        | none => none
    | none => none
  | some d, some (.eptr y off), some ti =>
    if ti.d.row = true then gd (lt d nt && decide (off + ti.size ≤ y.length)) (rdOf x (.eptr y off)) [.s d (some (.agg ((y.drop off).take ti.size)))]
    else match y[off]? with
      | some v => gd (lt d nt) (rdOf x (.eptr y off)) [.s d (some v)]
      | none => none
  | _, _, _ => none
theorem xLoad_s {P : Program} [GT P] {nt : Nat} {rest : List Oper} {dst : Option Nat} {t : TypeId} {x : Operand} {st : St} {r : List Rd} {w : List Wr} (h : xLoad P nt rest dst t x st = some (r, w)) (k : K2) (hk : k r w) : stLoad P nt rest dst t x st k := by
  unfold xLoad at h
  unfold stLoad
  repeat' split at h
  all_goals first
    | (obtain ⟨h1, rfl, rfl⟩ := gd_some h; simp only [Bool.and_eq_true, lt_iff, decide_eq_true_eq, Nat.blt_eq] at h1; simp_all; done)
    | (obtain ⟨h1, rfl, rfl⟩ := gd_some h; simp only [Bool.and_eq_true, lt_iff] at h1; have hb := isBoolT_spec h1.2; simp_all; done)
    | (obtain ⟨h1, rfl, rfl⟩ := gd_some h; simp only [Bool.and_eq_true, lt_iff] at h1; have hb := isU8T_spec h1.2; simp_all; done)
    | (obtain ⟨h1, rfl, rfl⟩ := gd_some h; simp only [Bool.and_eq_true, lt_iff] at h1; have hb := isStrT_spec h1.2; simp_all; done)
    | (obtain ⟨h1, rfl, rfl⟩ := gd_some h; simp only [Bool.and_eq_true, lt_iff] at h1; obtain ⟨e, he⟩ := isSliceT_spec h1.2; simp_all; done)
    | (obtain ⟨h1, rfl, rfl⟩ := gd_some h; simp only [Bool.and_eq_true, lt_iff, decide_eq_true_eq] at h1; have hb := allLen_s h1.1.2; simp_all; done)
    | (obtain ⟨h1, rfl, rfl⟩ := gd_some h; simp only [Bool.and_eq_true, lt_iff, Nat.blt_eq, Nat.ble_eq, bne_iff_ne, ne_eq] at h1; have ha := allLen_s h1.2.1; have hs := srcKindB_s' h1.1.2.2; simp_all; done)
    | cases h

def xStore (P : Program) [GT P] (dst : Option Nat) (t : TypeId) (x y : Operand) (st : St) : RW :=
  match dst, st.ev x, st.ev y, tiOf P t with
  | none, some (.ptr n off), some (.agg cs), some ti => match st.mem[n]? with
    | some obj => gd (decide (ti.size = cs.length) && (Nat.blt 0 cs.length && decide (off + cs.length ≤ obj.length)) && cs.all AV.plain) (rdOf x (.ptr n off) ++ rdOf y (.agg cs) ++ [.o n obj]) [.o n (splice obj off (AV.roL cs))]
    | none => none
  | none, some (.ptr n off), some v, some ti => match st.mem[n]? with
    | some obj =>
      match y with
      | .tmp s => if owns v = true then gd (decide (ti.size = 1) && lt off obj.length && v.plain) (rdOf x (.ptr n off) ++ [.s s v] ++ [.o n obj]) [.o n (obj.set off v), .s s (some v.ro)]
        else gd (decide (ti.size = 1) && lt off obj.length && v.plain) (rdOf x (.ptr n off) ++ rdOf (.tmp s) v ++ [.o n obj]) [.o n (obj.set off v.ro)]
      | y => gd (decide (ti.size = 1) && lt off obj.length && v.plain) (rdOf x (.ptr n off) ++ rdOf y v ++ [.o n obj]) [.o n (obj.set off v.ro)]
    | none => none
  | _, _, _, _ => none
theorem xStore_s {P : Program} [GT P] {dst : Option Nat} {t : TypeId} {x y : Operand} {st : St} {r : List Rd} {w : List Wr} (h : xStore P dst t x y st = some (r, w)) (k : K2) (hk : k r w) : stStore P dst t x y st k := by
  unfold xStore at h
  unfold stStore
  repeat' split at h
  all_goals first
    | (obtain ⟨h1, rfl, rfl⟩ := gd_some h; simp only [Bool.and_eq_true, lt_iff, decide_eq_true_eq, Nat.blt_eq] at h1; simp_all; done)
    | (obtain ⟨h1, rfl, rfl⟩ := gd_some h; simp only [Bool.and_eq_true, lt_iff] at h1; have hb := isBoolT_spec h1.2; simp_all; done)
    | (obtain ⟨h1, rfl, rfl⟩ := gd_some h; simp only [Bool.and_eq_true, lt_iff] at h1; have hb := isU8T_spec h1.2; simp_all; done)
    | (obtain ⟨h1, rfl, rfl⟩ := gd_some h; simp only [Bool.and_eq_true, lt_iff] at h1; have hb := isStrT_spec h1.2; simp_all; done)
    | (obtain ⟨h1, rfl, rfl⟩ := gd_some h; simp only [Bool.and_eq_true, lt_iff] at h1; obtain ⟨e, he⟩ := isSliceT_spec h1.2; simp_all; done)
    | (obtain ⟨h1, rfl, rfl⟩ := gd_some h; simp only [Bool.and_eq_true, lt_iff, decide_eq_true_eq] at h1; have hb := allLen_s h1.1.2; simp_all; done)
    | (obtain ⟨h1, rfl, rfl⟩ := gd_some h; simp only [Bool.and_eq_true, lt_iff, Nat.blt_eq, Nat.ble_eq, bne_iff_ne, ne_eq] at h1; have ha := allLen_s h1.2.1; have hs := srcKindB_s' h1.1.2.2; simp_all; done)
    | cases h

def xAlloc (P : Program) [GT P] (nt : Nat) (dst : Option Nat) (t : TypeId) (st : St) : RW :=
  match dst, tiOf P t with
  | some d, some ti => gd (lt d nt) [.new st.mem.length] [.o st.mem.length ti.zero, .s d (some (.ptr st.mem.length 0))]
  | _, _ => none
theorem xAlloc_s {P : Program} [GT P] {nt : Nat} {dst : Option Nat} {t : TypeId} {st : St} {r : List Rd} {w : List Wr} (h : xAlloc P nt dst t st = some (r, w)) (k : K2) (hk : k r w) : stAlloc P nt dst t st k := by
  unfold xAlloc at h
  unfold stAlloc
  repeat' split at h
  all_goals first
    | (obtain ⟨h1, rfl, rfl⟩ := gd_some h; simp only [Bool.and_eq_true, lt_iff, decide_eq_true_eq, Nat.blt_eq] at h1; simp_all; done)
    | (obtain ⟨h1, rfl, rfl⟩ := gd_some h; simp only [Bool.and_eq_true, lt_iff] at h1; have hb := isBoolT_spec h1.2; simp_all; done)
    | (obtain ⟨h1, rfl, rfl⟩ := gd_some h; simp only [Bool.and_eq_true, lt_iff] at h1; have hb := isU8T_spec h1.2; simp_all; done)
    | (obtain ⟨h1, rfl, rfl⟩ := gd_some h; simp only [Bool.and_eq_true, lt_iff] at h1; have hb := isStrT_spec h1.2; simp_all; done)
    | (obtain ⟨h1, rfl, rfl⟩ := gd_some h; simp only [Bool.and_eq_true, lt_iff] at h1; obtain ⟨e, he⟩ := isSliceT_spec h1.2; simp_all; done)
    | (obtain ⟨h1, rfl, rfl⟩ := gd_some h; simp only [Bool.and_eq_true, lt_iff, decide_eq_true_eq] at h1; have hb := allLen_s h1.1.2; simp_all; done)
    | (obtain ⟨h1, rfl, rfl⟩ := gd_some h; simp only [Bool.and_eq_true, lt_iff, Nat.blt_eq, Nat.ble_eq, bne_iff_ne, ne_eq] at h1; have ha := allLen_s h1.2.1; have hs := srcKindB_s' h1.1.2.2; simp_all; done)
    | cases h

def xBox (nt : Nat) (dst : Option Nat) (x : Operand) (st : St) : RW :=
  match dst, st.ev x with
  | some d, some (.agg cs) => gd (lt d nt) (rdOf x (.agg cs) ++ [.new st.mem.length]) [.o st.mem.length (AV.roL cs), .s d (some (.ptr st.mem.length 0))]
  | some d, some v => gd (lt d nt && v.plain) (rdOf x v ++ [.new st.mem.length]) [.o st.mem.length [v.ro], .s d (some (.ptr st.mem.length 0))]
  | _, _ => none
theorem xBox_s {nt : Nat} {dst : Option Nat} {x : Operand} {st : St} {r : List Rd} {w : List Wr} (h : xBox nt dst x st = some (r, w)) (k : K2) (hk : k r w) : stBox nt dst x st k := by
  unfold xBox at h
  unfold stBox
  repeat' split at h
  all_goals first
    | (obtain ⟨h1, rfl, rfl⟩ := gd_some h; simp only [Bool.and_eq_true, lt_iff, decide_eq_true_eq, Nat.blt_eq] at h1; simp_all; done)
    | (obtain ⟨h1, rfl, rfl⟩ := gd_some h; simp only [Bool.and_eq_true, lt_iff] at h1; have hb := isBoolT_spec h1.2; simp_all; done)
    | (obtain ⟨h1, rfl, rfl⟩ := gd_some h; simp only [Bool.and_eq_true, lt_iff] at h1; have hb := isU8T_spec h1.2; simp_all; done)
    | (obtain ⟨h1, rfl, rfl⟩ := gd_some h; simp only [Bool.and_eq_true, lt_iff] at h1; have hb := isStrT_spec h1.2; simp_all; done)
    | (obtain ⟨h1, rfl, rfl⟩ := gd_some h; simp only [Bool.and_eq_true, lt_iff] at h1; obtain ⟨e, he⟩ := isSliceT_spec h1.2; simp_all; done)
    | (obtain ⟨h1, rfl, rfl⟩ := gd_some h; simp only [Bool.and_eq_true, lt_iff, decide_eq_true_eq] at h1; have hb := allLen_s h1.1.2; simp_all; done)
    | (obtain ⟨h1, rfl, rfl⟩ := gd_some h; simp only [Bool.and_eq_true, lt_iff, Nat.blt_eq, Nat.ble_eq, bne_iff_ne, ne_eq] at h1; have ha := allLen_s h1.2.1; have hs := srcKindB_s' h1.1.2.2; simp_all; done)
    | cases h

def xBuild (P : Program) [GT P] (nt : Nat) (dst : Option Nat) (t : TypeId) (parts : Array (Nat × Operand)) (st : St) : RW :=
  match dst, tiOf P t, st.evs (parts.toList.map (·.2)) with
  | some d, some ti, some vs => match placeTD P ti.d, pairAV parts.toList vs with
    | some pl, some ps => match fillAV pl ti.zero ps with
      | some r => gd (lt d nt && vs.all notTup) (rdsOf (parts.toList.map (·.2)) vs) [.s d (some (.agg (AV.roL r)))]
      | none => none
    | _, _ => none
  | _, _, _ => none
theorem xBuild_s {P : Program} [GT P] {nt : Nat} {dst : Option Nat} {t : TypeId} {parts : Array (Nat × Operand)} {st : St} {r : List Rd} {w : List Wr} (h : xBuild P nt dst t parts st = some (r, w)) (k : K2) (hk : k r w) : stBuild P nt dst t parts st k := by
  unfold xBuild at h
  unfold stBuild
  repeat' split at h
  all_goals first
    | (obtain ⟨h1, rfl, rfl⟩ := gd_some h; simp only [Bool.and_eq_true, lt_iff, decide_eq_true_eq, Nat.blt_eq] at h1; simp_all; done)
    | (obtain ⟨h1, rfl, rfl⟩ := gd_some h; simp only [Bool.and_eq_true, lt_iff] at h1; have hb := isBoolT_spec h1.2; simp_all; done)
    | (obtain ⟨h1, rfl, rfl⟩ := gd_some h; simp only [Bool.and_eq_true, lt_iff] at h1; have hb := isU8T_spec h1.2; simp_all; done)
    | (obtain ⟨h1, rfl, rfl⟩ := gd_some h; simp only [Bool.and_eq_true, lt_iff] at h1; have hb := isStrT_spec h1.2; simp_all; done)
    | (obtain ⟨h1, rfl, rfl⟩ := gd_some h; simp only [Bool.and_eq_true, lt_iff] at h1; obtain ⟨e, he⟩ := isSliceT_spec h1.2; simp_all; done)
    | (obtain ⟨h1, rfl, rfl⟩ := gd_some h; simp only [Bool.and_eq_true, lt_iff, decide_eq_true_eq] at h1; have hb := allLen_s h1.1.2; simp_all; done)
    | (obtain ⟨h1, rfl, rfl⟩ := gd_some h; simp only [Bool.and_eq_true, lt_iff, Nat.blt_eq, Nat.ble_eq, bne_iff_ne, ne_eq] at h1; have ha := allLen_s h1.2.1; have hs := srcKindB_s' h1.1.2.2; simp_all; done)
    | cases h

def xBuildSlice (P : Program) [GT P] (nt : Nat) (dst : Option Nat) (t : TypeId) (n : Nat) (parts : Array (Nat × Operand)) (st : St) : RW :=
  match dst, tdOf P t, st.evs (parts.toList.map (·.2)) with
  | some d, some (.slice e), some vs => match tiOf P e, pairAV parts.toList vs with
    | some te, some ps => match fillAV (fun j => some (j * te.size, te.size)) (repl te.zero n) ps with
      | some r => gd (lt d nt && Nat.ble (n * te.size) 16777216 && vs.all notTup && r.all AV.data) (rdsOf (parts.toList.map (·.2)) vs) [.s d (some (.list (some te.size) (chunks te.size (AV.roL r) n)))]
      | none => none
    | _, _ => none
  | _, _, _ => none
theorem xBuildSlice_s {P : Program} [GT P] {nt : Nat} {dst : Option Nat} {t : TypeId} {n : Nat} {parts : Array (Nat × Operand)} {st : St} {r : List Rd} {w : List Wr} (h : xBuildSlice P nt dst t n parts st = some (r, w)) (k : K2) (hk : k r w) : stBuildSlice P nt dst t n parts st k := by
  unfold xBuildSlice at h
  unfold stBuildSlice
  repeat' split at h
  all_goals first
    | (obtain ⟨h1, rfl, rfl⟩ := gd_some h; simp only [Bool.and_eq_true, lt_iff, decide_eq_true_eq, Nat.blt_eq] at h1; simp_all; done)
    | (obtain ⟨h1, rfl, rfl⟩ := gd_some h; simp only [Bool.and_eq_true, lt_iff] at h1; have hb := isBoolT_spec h1.2; simp_all; done)
    | (obtain ⟨h1, rfl, rfl⟩ := gd_some h; simp only [Bool.and_eq_true, lt_iff] at h1; have hb := isU8T_spec h1.2; simp_all; done)
    | (obtain ⟨h1, rfl, rfl⟩ := gd_some h; simp only [Bool.and_eq_true, lt_iff] at h1; have hb := isStrT_spec h1.2; simp_all; done)
    | (obtain ⟨h1, rfl, rfl⟩ := gd_some h; simp only [Bool.and_eq_true, lt_iff] at h1; obtain ⟨e, he⟩ := isSliceT_spec h1.2; simp_all; done)
    | (obtain ⟨h1, rfl, rfl⟩ := gd_some h; simp only [Bool.and_eq_true, lt_iff, decide_eq_true_eq] at h1; have hb := allLen_s h1.1.2; simp_all; done)
    | (obtain ⟨h1, rfl, rfl⟩ := gd_some h; simp only [Bool.and_eq_true, lt_iff, Nat.blt_eq, Nat.ble_eq, bne_iff_ne, ne_eq] at h1; have ha := allLen_s h1.2.1; have hs := srcKindB_s' h1.1.2.2; simp_all; done)
    | cases h

def xFieldAddr (P : Program) [GT P] (nt : Nat) (dst : Option Nat) (s : TypeId) (x : Operand) (f : Nat) (st : St) : RW :=
  match dst, tdOf P s, st.ev x with
  | some d, some (.struct places), some v => match places[f]? with
    | some (off, sz) => match addPtr off v with
      | some r => gd (lt d nt && decide (sz ≠ 0)) (rdOf x v) [.s d (some r)]
      | none => none
    | none => none
  | _, _, _ => none
theorem xFieldAddr_s {P : Program} [GT P] {nt : Nat} {dst : Option Nat} {s : TypeId} {x : Operand} {f : Nat} {st : St} {r : List Rd} {w : List Wr} (h : xFieldAddr P nt dst s x f st = some (r, w)) (k : K2) (hk : k r w) : stFieldAddr P nt dst s x f st k := by
  unfold xFieldAddr at h
  unfold stFieldAddr
  repeat' split at h
  all_goals first
    | (obtain ⟨h1, rfl, rfl⟩ := gd_some h; simp only [Bool.and_eq_true, lt_iff, decide_eq_true_eq, Nat.blt_eq] at h1; simp_all; done)
    | (obtain ⟨h1, rfl, rfl⟩ := gd_some h; simp only [Bool.and_eq_true, lt_iff] at h1; have hb := isBoolT_spec h1.2; simp_all; done)
    | (obtain ⟨h1, rfl, rfl⟩ := gd_some h; simp only [Bool.and_eq_true, lt_iff] at h1; have hb := isU8T_spec h1.2; simp_all; done)
    | (obtain ⟨h1, rfl, rfl⟩ := gd_some h; simp only [Bool.and_eq_true, lt_iff] at h1; have hb := isStrT_spec h1.2; simp_all; done)
    | (obtain ⟨h1, rfl, rfl⟩ := gd_some h; simp only [Bool.and_eq_true, lt_iff] at h1; obtain ⟨e, he⟩ := isSliceT_spec h1.2; simp_all; done)
    | (obtain ⟨h1, rfl, rfl⟩ := gd_some h; simp only [Bool.and_eq_true, lt_iff, decide_eq_true_eq] at h1; have hb := allLen_s h1.1.2; simp_all; done)
    | (obtain ⟨h1, rfl, rfl⟩ := gd_some h; simp only [Bool.and_eq_true, lt_iff, Nat.blt_eq, Nat.ble_eq, bne_iff_ne, ne_eq] at h1; have ha := allLen_s h1.2.1; have hs := srcKindB_s' h1.1.2.2; simp_all; done)
    | cases h

def xIndexAddr (P : Program) [GT P] (nt : Nat) (dst : Option Nat) (t : TypeId) (x i : Operand) (st : St) : RW :=
  match dst, tdOf P t, st.ev x, st.ev i with
  | some d, some (.slice e), some (.list own xs), some (.int kd n) => match tiOf P e, xs[n.toNat]? with
    | some te, some y => gd (lt d nt && decide (y.length = te.size) && decide (0 ≤ n)) (rdOf x (.list own xs) ++ rdOf i (.int kd n)) [.s d (some (.eptr y 0))]
    | _, _ => none
  | some d, some (.array len e), some v, some (.int kd n) => match tiOf P e with
    | some te => match addPtr (n.toNat * te.size) v with
      | some r => gd (lt d nt && decide (0 ≤ n) && decide (n < len)) (rdOf x v ++ rdOf i (.int kd n)) [.s d (some r)]
      | none => none
    | none => none
  | _, _, _, _ => none
theorem xIndexAddr_s {P : Program} [GT P] {nt : Nat} {dst : Option Nat} {t : TypeId} {x i : Operand} {st : St} {r : List Rd} {w : List Wr} (h : xIndexAddr P nt dst t x i st = some (r, w)) (k : K2) (hk : k r w) : stIndexAddr P nt dst t x i st k := by
  unfold xIndexAddr at h
  unfold stIndexAddr
  repeat' split at h
  all_goals first
    | (obtain ⟨h1, rfl, rfl⟩ := gd_some h; simp only [Bool.and_eq_true, lt_iff, decide_eq_true_eq, Nat.blt_eq] at h1; simp_all; done)
    | (obtain ⟨h1, rfl, rfl⟩ := gd_some h; simp only [Bool.and_eq_true, lt_iff] at h1; have hb := isBoolT_spec h1.2; simp_all; done)
    | (obtain ⟨h1, rfl, rfl⟩ := gd_some h; simp only [Bool.and_eq_true, lt_iff] at h1; have hb := isU8T_spec h1.2; simp_all; done)
    | (obtain ⟨h1, rfl, rfl⟩ := gd_some h; simp only [Bool.and_eq_true, lt_iff] at h1; have hb := isStrT_spec h1.2; simp_all; done)
    | (obtain ⟨h1, rfl, rfl⟩ := gd_some h; simp only [Bool.and_eq_true, lt_iff] at h1; obtain ⟨e, he⟩ := isSliceT_spec h1.2; simp_all; done)
    | (obtain ⟨h1, rfl, rfl⟩ := gd_some h; simp only [Bool.and_eq_true, lt_iff, decide_eq_true_eq] at h1; have hb := allLen_s h1.1.2; simp_all; done)
    | (obtain ⟨h1, rfl, rfl⟩ := gd_some h; simp only [Bool.and_eq_true, lt_iff, Nat.blt_eq, Nat.ble_eq, bne_iff_ne, ne_eq] at h1; have ha := allLen_s h1.2.1; have hs := srcKindB_s' h1.1.2.2; simp_all; done)
    | cases h

def xBinOp (P : Program) [GT P] (nt : Nat) (dst : Option Nat) (op : BinOp) (t : TypeId) (x y : Operand) (st : St) : RW :=
  match dst, st.ev x, st.ev y with
  | some d, some (.bool p), some (.bool q) => match op with
    | .eql => gd (lt d nt && isBoolT P t) (rdOf x (.bool p) ++ rdOf y (.bool q)) [.s d (some (.bool (p == q)))]
    | .neq => gd (lt d nt && isBoolT P t) (rdOf x (.bool p) ++ rdOf y (.bool q)) [.s d (some (.bool (!(p == q))))]
    | _ => none
  | some d, some u, some v => match binAV op u v with
    | some r => gd (lt d nt) (rdOf x u ++ rdOf y v) [.s d (some r)]
    | none => none
  | _, _, _ => none
theorem xBinOp_s {P : Program} [GT P] {nt : Nat} {dst : Option Nat} {op : BinOp} {t : TypeId} {x y : Operand} {st : St} {r : List Rd} {w : List Wr} (h : xBinOp P nt dst op t x y st = some (r, w)) (k : K2) (hk : k r w) : stBinOp P nt dst op t x y st k := by
  unfold xBinOp at h
  unfold stBinOp
  repeat' split at h
  all_goals first
    | (obtain ⟨h1, rfl, rfl⟩ := gd_some h; simp only [Bool.and_eq_true, lt_iff, decide_eq_true_eq, Nat.blt_eq] at h1; simp_all; done)
    | (obtain ⟨h1, rfl, rfl⟩ := gd_some h; simp only [Bool.and_eq_true, lt_iff] at h1; have hb := isBoolT_spec h1.2; simp_all; done)
    | (obtain ⟨h1, rfl, rfl⟩ := gd_some h; simp only [Bool.and_eq_true, lt_iff] at h1; have hb := isU8T_spec h1.2; simp_all; done)
    | (obtain ⟨h1, rfl, rfl⟩ := gd_some h; simp only [Bool.and_eq_true, lt_iff] at h1; have hb := isStrT_spec h1.2; simp_all; done)
    | (obtain ⟨h1, rfl, rfl⟩ := gd_some h; simp only [Bool.and_eq_true, lt_iff] at h1; obtain ⟨e, he⟩ := isSliceT_spec h1.2; simp_all; done)
    | (obtain ⟨h1, rfl, rfl⟩ := gd_some h; simp only [Bool.and_eq_true, lt_iff, decide_eq_true_eq] at h1; have hb := allLen_s h1.1.2; simp_all; done)
    | (obtain ⟨h1, rfl, rfl⟩ := gd_some h; simp only [Bool.and_eq_true, lt_iff, Nat.blt_eq, Nat.ble_eq, bne_iff_ne, ne_eq] at h1; have ha := allLen_s h1.2.1; have hs := srcKindB_s' h1.1.2.2; simp_all; done)
    | cases h

def xUnOp (nt : Nat) (dst : Option Nat) (u : UnOp) (x : Operand) (st : St) : RW :=
  match dst, st.ev x with
  | some d, some v => match unAV u v with
    | some r => gd (lt d nt) (rdOf x v) [.s d (some r)]
    | none => none
  | _, _ => none
theorem xUnOp_s {nt : Nat} {dst : Option Nat} {u : UnOp} {x : Operand} {st : St} {r : List Rd} {w : List Wr} (h : xUnOp nt dst u x st = some (r, w)) (k : K2) (hk : k r w) : stUnOp nt dst u x st k := by
  unfold xUnOp at h
  unfold stUnOp
  repeat' split at h
  all_goals first
    | (obtain ⟨h1, rfl, rfl⟩ := gd_some h; simp only [Bool.and_eq_true, lt_iff, decide_eq_true_eq, Nat.blt_eq] at h1; simp_all; done)
    | (obtain ⟨h1, rfl, rfl⟩ := gd_some h; simp only [Bool.and_eq_true, lt_iff] at h1; have hb := isBoolT_spec h1.2; simp_all; done)
    | (obtain ⟨h1, rfl, rfl⟩ := gd_some h; simp only [Bool.and_eq_true, lt_iff] at h1; have hb := isU8T_spec h1.2; simp_all; done)
    | (obtain ⟨h1, rfl, rfl⟩ := gd_some h; simp only [Bool.and_eq_true, lt_iff] at h1; have hb := isStrT_spec h1.2; simp_all; done)
    | (obtain ⟨h1, rfl, rfl⟩ := gd_some h; simp only [Bool.and_eq_true, lt_iff] at h1; obtain ⟨e, he⟩ := isSliceT_spec h1.2; simp_all; done)
    | (obtain ⟨h1, rfl, rfl⟩ := gd_some h; simp only [Bool.and_eq_true, lt_iff, decide_eq_true_eq] at h1; have hb := allLen_s h1.1.2; simp_all; done)
    | (obtain ⟨h1, rfl, rfl⟩ := gd_some h; simp only [Bool.and_eq_true, lt_iff, Nat.blt_eq, Nat.ble_eq, bne_iff_ne, ne_eq] at h1; have ha := allLen_s h1.2.1; have hs := srcKindB_s' h1.1.2.2; simp_all; done)
    | cases h

def xConvert (P : Program) [GT P] (nt : Nat) (dst : Option Nat) (s t : TypeId) (x : Operand) (st : St) : RW :=
  match dst, tdOf P s, tdOf P t, st.ev x with
  | some d, some _, some (.int kd), some (.int k' n) => gd (lt d nt) (rdOf x (.int k' n)) [.s d (some (.int kd (kd.wrap n)))]
  | some d, some (.slice e), some .string, some (.list own xs) => match unbytes xs with
    | some b => gd (lt d nt && isU8T P e) (rdOf x (.list own xs)) [.s d (some (.str ⟨b.toArray⟩))]
    | none => none
  | some d, some _, some (.slice e), some (.str b) => gd (lt d nt && isU8T P e) (rdOf x (.str b)) [.s d (some (.list (some 1) (strEls b)))]
  | some d, some _, some .string, some (.str b) => gd (lt d nt) (rdOf x (.str b)) [.s d (some (.str b))]
  | _, _, _, _ => none
theorem xConvert_s {P : Program} [GT P] {nt : Nat} {dst : Option Nat} {s t : TypeId} {x : Operand} {st : St} {r : List Rd} {w : List Wr} (h : xConvert P nt dst s t x st = some (r, w)) (k : K2) (hk : k r w) : stConvert P nt dst s t x st k := by
  unfold xConvert at h
  unfold stConvert
  repeat' split at h
  all_goals first
    | (obtain ⟨h1, rfl, rfl⟩ := gd_some h; simp only [Bool.and_eq_true, lt_iff, decide_eq_true_eq, Nat.blt_eq] at h1; simp_all; done)
    | (obtain ⟨h1, rfl, rfl⟩ := gd_some h; simp only [Bool.and_eq_true, lt_iff] at h1; have hb := isBoolT_spec h1.2; simp_all; done)
    | (obtain ⟨h1, rfl, rfl⟩ := gd_some h; simp only [Bool.and_eq_true, lt_iff] at h1; have hb := isU8T_spec h1.2; simp_all; done)
    | (obtain ⟨h1, rfl, rfl⟩ := gd_some h; simp only [Bool.and_eq_true, lt_iff] at h1; have hb := isStrT_spec h1.2; simp_all; done)
    | (obtain ⟨h1, rfl, rfl⟩ := gd_some h; simp only [Bool.and_eq_true, lt_iff] at h1; obtain ⟨e, he⟩ := isSliceT_spec h1.2; simp_all; done)
    | (obtain ⟨h1, rfl, rfl⟩ := gd_some h; simp only [Bool.and_eq_true, lt_iff, decide_eq_true_eq] at h1; have hb := allLen_s h1.1.2; simp_all; done)
    | (obtain ⟨h1, rfl, rfl⟩ := gd_some h; simp only [Bool.and_eq_true, lt_iff, Nat.blt_eq, Nat.ble_eq, bne_iff_ne, ne_eq] at h1; have ha := allLen_s h1.2.1; have hs := srcKindB_s' h1.1.2.2; simp_all; done)
    | cases h

def xSlice (P : Program) [GT P] (nt : Nat) (dst : Option Nat) (t : TypeId) (x : Operand) (lo hi mx : Option Operand) (st : St) : RW :=
  match dst, tdOf P t, st.ev x with
  | some d, some (.slice e), some (.list own xs) => match tiOf P e with
    | some te =>
      if zero00 lo hi mx = true then gd (lt d nt) (rdOf x (.list own xs)) [.s d (some .nils)]
      else match mx, st.bnd lo 0, st.bnd hi xs.length with
        | none, some (kl, l), some (kh, h) => gd (lt d nt && xs.all (fun y => decide (y.length = te.size)) && decide (0 ≤ l ∧ l ≤ h ∧ h ≤ xs.length)) (rdOf x (.list own xs) ++ (rdO lo kl l ++ rdO hi kh h)) [.s d (some (.list none ((xs.take h.toNat).drop l.toNat)))]
        | _, _, _ => none
    | none => none
  | some d, some .string, some (.str s) => match mx, st.bnd lo 0, st.bnd hi s.size with
    | none, some (kl, l), some (kh, h) => gd (lt d nt && decide (0 ≤ l ∧ l ≤ h ∧ h ≤ s.size)) (rdOf x (.str s) ++ (rdO lo kl l ++ rdO hi kh h)) [.s d (some (.str (s.extract l.toNat h.toNat)))]
    | _, _, _ => none
  | _, _, _ => none
theorem xSlice_s {P : Program} [GT P] {nt : Nat} {dst : Option Nat} {t : TypeId} {x : Operand} {lo hi mx : Option Operand} {st : St} {r : List Rd} {w : List Wr} (h : xSlice P nt dst t x lo hi mx st = some (r, w)) (k : K2) (hk : k r w) : stSlice P nt dst t x lo hi mx st k := by
  unfold xSlice at h
  unfold stSlice
  repeat' split at h
  all_goals first
    | (obtain ⟨h1, rfl, rfl⟩ := gd_some h; simp only [Bool.and_eq_true, lt_iff, decide_eq_true_eq, Nat.blt_eq] at h1; simp_all; done)
    | (obtain ⟨h1, rfl, rfl⟩ := gd_some h; simp only [Bool.and_eq_true, lt_iff] at h1; have hb := isBoolT_spec h1.2; simp_all; done)
    | (obtain ⟨h1, rfl, rfl⟩ := gd_some h; simp only [Bool.and_eq_true, lt_iff] at h1; have hb := isU8T_spec h1.2; simp_all; done)
    | (obtain ⟨h1, rfl, rfl⟩ := gd_some h; simp only [Bool.and_eq_true, lt_iff] at h1; have hb := isStrT_spec h1.2; simp_all; done)
    | (obtain ⟨h1, rfl, rfl⟩ := gd_some h; simp only [Bool.and_eq_true, lt_iff] at h1; obtain ⟨e, he⟩ := isSliceT_spec h1.2; simp_all; done)
    | (obtain ⟨h1, rfl, rfl⟩ := gd_some h; simp only [Bool.and_eq_true, lt_iff, decide_eq_true_eq] at h1; have hb := allLen_s h1.1.2; simp_all; done)
    | (obtain ⟨h1, rfl, rfl⟩ := gd_some h; simp only [Bool.and_eq_true, lt_iff, Nat.blt_eq, Nat.ble_eq, bne_iff_ne, ne_eq] at h1; have ha := allLen_s h1.2.1; have hs := srcKindB_s' h1.1.2.2; simp_all; done)
    | cases h

def xExtract (nt : Nat) (dst : Option Nat) (x : Operand) (i : Nat) (st : St) : RW :=
  match dst, st.ev x with
  | some d, some (.tup vs) => match vs[i]? with
    | some v => match x with
      | .tmp s => if (owns v && s != d) = true then gd (lt d nt) [.s s (.tup vs)] [.s s (some (AV.tup vs).ro), .s d (some v)] else gd (lt d nt) [.s s (.tup vs)] [.s d (some v.ro)]
      | _ => none
    | none => none
  | _, _ => none
theorem xExtract_s {nt : Nat} {dst : Option Nat} {x : Operand} {i : Nat} {st : St} {r : List Rd} {w : List Wr} (h : xExtract nt dst x i st = some (r, w)) (k : K2) (hk : k r w) : stExtract nt dst x i st k := by
  unfold xExtract at h
  unfold stExtract
  repeat' split at h
  all_goals first
    | (obtain ⟨h1, rfl, rfl⟩ := gd_some h; simp only [Bool.and_eq_true, lt_iff, decide_eq_true_eq, Nat.blt_eq] at h1; simp_all; done)
    | (obtain ⟨h1, rfl, rfl⟩ := gd_some h; simp only [Bool.and_eq_true, lt_iff] at h1; have hb := isBoolT_spec h1.2; simp_all; done)
    | (obtain ⟨h1, rfl, rfl⟩ := gd_some h; simp only [Bool.and_eq_true, lt_iff] at h1; have hb := isU8T_spec h1.2; simp_all; done)
    | (obtain ⟨h1, rfl, rfl⟩ := gd_some h; simp only [Bool.and_eq_true, lt_iff] at h1; have hb := isStrT_spec h1.2; simp_all; done)
    | (obtain ⟨h1, rfl, rfl⟩ := gd_some h; simp only [Bool.and_eq_true, lt_iff] at h1; obtain ⟨e, he⟩ := isSliceT_spec h1.2; simp_all; done)
    | (obtain ⟨h1, rfl, rfl⟩ := gd_some h; simp only [Bool.and_eq_true, lt_iff, decide_eq_true_eq] at h1; have hb := allLen_s h1.1.2; simp_all; done)
    | (obtain ⟨h1, rfl, rfl⟩ := gd_some h; simp only [Bool.and_eq_true, lt_iff, Nat.blt_eq, Nat.ble_eq, bne_iff_ne, ne_eq] at h1; have ha := allLen_s h1.2.1; have hs := srcKindB_s' h1.1.2.2; simp_all; done)
    | cases h

def xNilCheck (nt : Nat) (dst : Option Nat) (x : Operand) (st : St) : RW :=
  match dst, st.ev x with
  | some d, some v => gd (lt d nt && isPtr v) (rdOf x v) [.s d (some v.ro)]
  | _, _ => none
theorem xNilCheck_s {nt : Nat} {dst : Option Nat} {x : Operand} {st : St} {r : List Rd} {w : List Wr} (h : xNilCheck nt dst x st = some (r, w)) (k : K2) (hk : k r w) : stNilCheck nt dst x st k := by
  unfold xNilCheck at h
  unfold stNilCheck
  repeat' split at h
  all_goals first
    | (obtain ⟨h1, rfl, rfl⟩ := gd_some h; simp only [Bool.and_eq_true, lt_iff, decide_eq_true_eq, Nat.blt_eq] at h1; simp_all; done)
    | (obtain ⟨h1, rfl, rfl⟩ := gd_some h; simp only [Bool.and_eq_true, lt_iff] at h1; have hb := isBoolT_spec h1.2; simp_all; done)
    | (obtain ⟨h1, rfl, rfl⟩ := gd_some h; simp only [Bool.and_eq_true, lt_iff] at h1; have hb := isU8T_spec h1.2; simp_all; done)
    | (obtain ⟨h1, rfl, rfl⟩ := gd_some h; simp only [Bool.and_eq_true, lt_iff] at h1; have hb := isStrT_spec h1.2; simp_all; done)
    | (obtain ⟨h1, rfl, rfl⟩ := gd_some h; simp only [Bool.and_eq_true, lt_iff] at h1; obtain ⟨e, he⟩ := isSliceT_spec h1.2; simp_all; done)
    | (obtain ⟨h1, rfl, rfl⟩ := gd_some h; simp only [Bool.and_eq_true, lt_iff, decide_eq_true_eq] at h1; have hb := allLen_s h1.1.2; simp_all; done)
    | (obtain ⟨h1, rfl, rfl⟩ := gd_some h; simp only [Bool.and_eq_true, lt_iff, Nat.blt_eq, Nat.ble_eq, bne_iff_ne, ne_eq] at h1; have ha := allLen_s h1.2.1; have hs := srcKindB_s' h1.1.2.2; simp_all; done)
    | cases h

def xMakeFunc (nt : Nat) (dst : Option Nat) (fn : Fn) (first cap : Array Operand) (st : St) : RW :=
  match dst, fn, st.evs first.toList, st.evs cap.toList with
  | some d, .func f, some fv, some cv => gd (lt d nt) (rdsOf first.toList fv ++ rdsOf cap.toList cv) [.s d (some (.func f (AV.roL fv) (AV.roL cv)))]
  | _, _, _, _ => none
theorem xMakeFunc_s {nt : Nat} {dst : Option Nat} {fn : Fn} {first cap : Array Operand} {st : St} {r : List Rd} {w : List Wr} (h : xMakeFunc nt dst fn first cap st = some (r, w)) (k : K2) (hk : k r w) : stMakeFunc nt dst fn first cap st k := by
  unfold xMakeFunc at h
  unfold stMakeFunc
  repeat' split at h
  all_goals first
    | (obtain ⟨h1, rfl, rfl⟩ := gd_some h; simp only [Bool.and_eq_true, lt_iff, decide_eq_true_eq, Nat.blt_eq] at h1; simp_all; done)
    | (obtain ⟨h1, rfl, rfl⟩ := gd_some h; simp only [Bool.and_eq_true, lt_iff] at h1; have hb := isBoolT_spec h1.2; simp_all; done)
    | (obtain ⟨h1, rfl, rfl⟩ := gd_some h; simp only [Bool.and_eq_true, lt_iff] at h1; have hb := isU8T_spec h1.2; simp_all; done)
    | (obtain ⟨h1, rfl, rfl⟩ := gd_some h; simp only [Bool.and_eq_true, lt_iff] at h1; have hb := isStrT_spec h1.2; simp_all; done)
    | (obtain ⟨h1, rfl, rfl⟩ := gd_some h; simp only [Bool.and_eq_true, lt_iff] at h1; obtain ⟨e, he⟩ := isSliceT_spec h1.2; simp_all; done)
    | (obtain ⟨h1, rfl, rfl⟩ := gd_some h; simp only [Bool.and_eq_true, lt_iff, decide_eq_true_eq] at h1; have hb := allLen_s h1.1.2; simp_all; done)
    | (obtain ⟨h1, rfl, rfl⟩ := gd_some h; simp only [Bool.and_eq_true, lt_iff, Nat.blt_eq, Nat.ble_eq, bne_iff_ne, ne_eq] at h1; have ha := allLen_s h1.2.1; have hs := srcKindB_s' h1.1.2.2; simp_all; done)
    | cases h

def xMakeInterface (P : Program) [GT P] (nt : Nat) (dst : Option Nat) (t : TypeId) (x : Operand) (st : St) : RW :=
  match dst, tdOf P t, st.ev x with
  | some _, some .iface, some _ => none
  | some d, some _, some v => gd (lt d nt) (rdOf x v) [.s d (some (.iface t v.ro))]
  | _, _, _ => none
theorem xMakeInterface_s {P : Program} [GT P] {nt : Nat} {dst : Option Nat} {t : TypeId} {x : Operand} {st : St} {r : List Rd} {w : List Wr} (h : xMakeInterface P nt dst t x st = some (r, w)) (k : K2) (hk : k r w) : stMakeInterface P nt dst t x st k := by
  unfold xMakeInterface at h
  unfold stMakeInterface
  repeat' split at h
  all_goals first
    | (obtain ⟨h1, rfl, rfl⟩ := gd_some h; simp only [Bool.and_eq_true, lt_iff, decide_eq_true_eq, Nat.blt_eq] at h1; simp_all; done)
    | (obtain ⟨h1, rfl, rfl⟩ := gd_some h; simp only [Bool.and_eq_true, lt_iff] at h1; have hb := isBoolT_spec h1.2; simp_all; done)
    | (obtain ⟨h1, rfl, rfl⟩ := gd_some h; simp only [Bool.and_eq_true, lt_iff] at h1; have hb := isU8T_spec h1.2; simp_all; done)
    | (obtain ⟨h1, rfl, rfl⟩ := gd_some h; simp only [Bool.and_eq_true, lt_iff] at h1; have hb := isStrT_spec h1.2; simp_all; done)
    | (obtain ⟨h1, rfl, rfl⟩ := gd_some h; simp only [Bool.and_eq_true, lt_iff] at h1; obtain ⟨e, he⟩ := isSliceT_spec h1.2; simp_all; done)
    | (obtain ⟨h1, rfl, rfl⟩ := gd_some h; simp only [Bool.and_eq_true, lt_iff, decide_eq_true_eq] at h1; have hb := allLen_s h1.1.2; simp_all; done)
    | (obtain ⟨h1, rfl, rfl⟩ := gd_some h; simp only [Bool.and_eq_true, lt_iff, Nat.blt_eq, Nat.ble_eq, bne_iff_ne, ne_eq] at h1; have ha := allLen_s h1.2.1; have hs := srcKindB_s' h1.1.2.2; simp_all; done)
    | cases h

def xAppend (P : Program) [GT P] (nt : Nat) (dst : Option Nat) (tys : Array TypeId) (s x : Operand) (st : St) : RW :=
  match dst, s, tys.toList with
  | some d, .tmp s, [t, tx] => match tdOf P t, getA st.fr s, st.ev x with
    | some (.slice e), some v, some u => match tiOf P e, srcEls u with
      | some te, some ys => match dstEls te.size v with
        | some xs => gd ((lt d nt && (s != d)) && (Nat.blt 0 te.size && srcKindB P te.size tx u) && (ys.all (fun y => decide (y.length = te.size)) && (Nat.ble ((xs.length + ys.length) * te.bytes) 140737488355328 && Nat.ble (xs.length + ys.length) 9223372036854775807)))
          ([.s s v] ++ rdOf x u) [.s s (some (.list none xs)), .s d (some (.list (some te.size) (xs ++ ys)))]
        | none => none
      | _, _ => none
    | _, _, _ => none
  | _, _, _ => none
theorem xAppend_s {P : Program} [GT P] {nt : Nat} {dst : Option Nat} {tys : Array TypeId} {s x : Operand} {st : St} {r : List Rd} {w : List Wr} (h : xAppend P nt dst tys s x st = some (r, w)) (k : K2) (hk : k r w) : stAppend P nt dst tys s x st k := by
  unfold xAppend at h
  unfold stAppend
  repeat' split at h
  all_goals first
    | (obtain ⟨h1, rfl, rfl⟩ := gd_some h; simp only [Bool.and_eq_true, lt_iff, decide_eq_true_eq, Nat.blt_eq] at h1; simp_all; done)
    | (obtain ⟨h1, rfl, rfl⟩ := gd_some h; simp only [Bool.and_eq_true, lt_iff] at h1; have hb := isBoolT_spec h1.2; simp_all; done)
    | (obtain ⟨h1, rfl, rfl⟩ := gd_some h; simp only [Bool.and_eq_true, lt_iff] at h1; have hb := isU8T_spec h1.2; simp_all; done)
    | (obtain ⟨h1, rfl, rfl⟩ := gd_some h; simp only [Bool.and_eq_true, lt_iff] at h1; have hb := isStrT_spec h1.2; simp_all; done)
    | (obtain ⟨h1, rfl, rfl⟩ := gd_some h; simp only [Bool.and_eq_true, lt_iff] at h1; obtain ⟨e, he⟩ := isSliceT_spec h1.2; simp_all; done)
    | (obtain ⟨h1, rfl, rfl⟩ := gd_some h; simp only [Bool.and_eq_true, lt_iff, decide_eq_true_eq] at h1; have hb := allLen_s h1.1.2; simp_all; done)
    | (obtain ⟨h1, rfl, rfl⟩ := gd_some h; simp only [Bool.and_eq_true, lt_iff, Nat.blt_eq, Nat.ble_eq, bne_iff_ne, ne_eq] at h1; have ha := allLen_s h1.2.1; have hs := srcKindB_s' h1.1.2.2; simp_all; done)
    | cases h

def xLen (P : Program) [GT P] (nt : Nat) (dst : Option Nat) (tys : Array TypeId) (x : Operand) (st : St) : RW :=
  match dst, tys[0]?, st.ev x with
  | some d, some t, some (.list own xs) => gd (lt d nt && isSliceT P t) (rdOf x (.list own xs)) [.s d (some (.int .i64 xs.length))]
  | some d, some t, some .nils => gd (lt d nt && isSliceT P t) (rdOf x .nils) [.s d (some (.int .i64 0))]
  | some d, some t, some (.str s) => gd (lt d nt && isStrT P t) (rdOf x (.str s)) [.s d (some (.int .i64 s.size))]
  | _, _, _ => none
theorem xLen_s {P : Program} [GT P] {nt : Nat} {dst : Option Nat} {tys : Array TypeId} {x : Operand} {st : St} {r : List Rd} {w : List Wr} (h : xLen P nt dst tys x st = some (r, w)) (k : K2) (hk : k r w) : stLen P nt dst tys x st k := by
  unfold xLen at h
  unfold stLen
  repeat' split at h
  all_goals first
    | (obtain ⟨h1, rfl, rfl⟩ := gd_some h; simp only [Bool.and_eq_true, lt_iff, decide_eq_true_eq, Nat.blt_eq] at h1; simp_all; done)
    | (obtain ⟨h1, rfl, rfl⟩ := gd_some h; simp only [Bool.and_eq_true, lt_iff] at h1; have hb := isBoolT_spec h1.2; simp_all; done)
    | (obtain ⟨h1, rfl, rfl⟩ := gd_some h; simp only [Bool.and_eq_true, lt_iff] at h1; have hb := isU8T_spec h1.2; simp_all; done)
    | (obtain ⟨h1, rfl, rfl⟩ := gd_some h; simp only [Bool.and_eq_true, lt_iff] at h1; have hb := isStrT_spec h1.2; simp_all; done)
    | (obtain ⟨h1, rfl, rfl⟩ := gd_some h; simp only [Bool.and_eq_true, lt_iff] at h1; obtain ⟨e, he⟩ := isSliceT_spec h1.2; simp_all; done)
    | (obtain ⟨h1, rfl, rfl⟩ := gd_some h; simp only [Bool.and_eq_true, lt_iff, decide_eq_true_eq] at h1; have hb := allLen_s h1.1.2; simp_all; done)
    | (obtain ⟨h1, rfl, rfl⟩ := gd_some h; simp only [Bool.and_eq_true, lt_iff, Nat.blt_eq, Nat.ble_eq, bne_iff_ne, ne_eq] at h1; have ha := allLen_s h1.2.1; have hs := srcKindB_s' h1.1.2.2; simp_all; done)
    | cases h

end Go.Aw
end
