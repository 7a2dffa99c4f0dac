/-
  A part of the proof of SideOrderCardSaid (see the last text, Om): no statement of its own, no condition.
-/
import Init
set_option linter.unusedSimpArgs false
set_option linter.unusedVariables false
section
namespace Go.So
universe u
variable {α : Type u} (key : α → Int)

/-- Rising. -/
def Srt (l : List α) : Prop := l.Pairwise fun a b => key a ≤ key b
/-- The same elements; those of one key in the same order. -/
def Stb (l r : List α) : Prop := ∀ k : Int, l.filter (fun x => key x == k) = r.filter (fun x => key x == k)

variable {key}
theorem Stb.refl (l : List α) : Stb key l l := fun _ => rfl
theorem Stb.symm {l r : List α} (h : Stb key l r) : Stb key r l := fun k => (h k).symm
theorem Stb.trans {l m r : List α} (h : Stb key l m) (g : Stb key m r) : Stb key l r := fun k => (h k).trans (g k)
theorem Stb.app {a b c d : List α} (h : Stb key a b) (g : Stb key c d) : Stb key (a ++ c) (b ++ d) := fun k => by
  rw [List.filter_append, List.filter_append, h k, g k]
theorem Stb.mem {l r : List α} (h : Stb key l r) {x : α} : x ∈ l ↔ x ∈ r := by
  have := h (key x)
  constructor
  · intro hx
    have : x ∈ l.filter (fun y => key y == key x) := List.mem_filter.2 ⟨hx, by simp⟩
    rw [h (key x)] at this
    exact (List.mem_filter.1 this).1
  · intro hx
    have : x ∈ r.filter (fun y => key y == key x) := List.mem_filter.2 ⟨hx, by simp⟩
    rw [← h (key x)] at this
    exact (List.mem_filter.1 this).1
theorem Stb.nil {r : List α} (h : Stb key [] r) : r = [] := by
  cases r with
  | nil => rfl
  | cons a r => have := (h.mem (x := a)).2 (by simp); cases this

/-- There is one stable order. -/
theorem uniq : ∀ {l r : List α}, Srt key l → Srt key r → Stb key l r → l = r
  | [], r, _, _, h => h.nil.symm
  | a :: l, [], _, _, h => (h.symm).nil
  | a :: l, b :: r, hl, hr, h => by
    have hl' := List.pairwise_cons.1 hl
    have hr' := List.pairwise_cons.1 hr
    have h1 : key a ≤ key b := by
      have hb : b ∈ a :: l := h.mem.2 (by simp)
      rcases List.mem_cons.1 hb with rfl | hb
      · exact Int.le_refl _
      · exact hl'.1 b hb
    have h2 : key b ≤ key a := by
      have ha : a ∈ b :: r := h.mem.1 (by simp)
      rcases List.mem_cons.1 ha with rfl | ha
      · exact Int.le_refl _
      · exact hr'.1 a ha
    have hk : key a = key b := Int.le_antisymm h1 h2
    have h3 := h (key a)
    rw [List.filter_cons_of_pos (by simp), List.filter_cons_of_pos (by simp [hk])] at h3
    injection h3 with h3 h4
    subst h3
    refine congrArg (a :: ·) (uniq hl'.2 hr'.2 fun k => ?_)
    by_cases hka : key a = k
    · subst hka; exact h4
    · have h5 := h k
      rwa [List.filter_cons_of_neg (by simpa using hka), List.filter_cons_of_neg (by simpa using hka)] at h5

theorem Srt.app {a b : List α} (ha : Srt key a) (hb : Srt key b) (h : ∀ x, x ∈ a → ∀ y, y ∈ b → key x ≤ key y) : Srt key (a ++ b) :=
  List.pairwise_append.2 ⟨ha, hb, h⟩
theorem Srt.left {a b : List α} (h : Srt key (a ++ b)) : Srt key a := (List.pairwise_append.1 h).1
theorem Srt.right {a b : List α} (h : Srt key (a ++ b)) : Srt key b := (List.pairwise_append.1 h).2.1
theorem Srt.cross {a b : List α} (h : Srt key (a ++ b)) : ∀ x, x ∈ a → ∀ y, y ∈ b → key x ≤ key y := (List.pairwise_append.1 h).2.2
theorem Srt.of_stb {l r : List α} (h : Stb key l r) {P : α → Prop} (hp : ∀ x, x ∈ l → P x) : ∀ x, x ∈ r → P x := fun x hx => hp x (h.mem.2 hx)

/-- What is greater goes behind what is less. -/
theorem stb_swap {a b : List α} (h : ∀ x, x ∈ a → ∀ y, y ∈ b → key y < key x) : Stb key (a ++ b) (b ++ a) := fun k => by
  rw [List.filter_append, List.filter_append]
  by_cases ha : a.filter (fun x => key x == k) = []
  · rw [ha]; simp
  · obtain ⟨x, hx⟩ := List.exists_mem_of_ne_nil _ ha
    have hx' := List.mem_filter.1 hx
    have hb : b.filter (fun x => key x == k) = [] := by
      rw [List.filter_eq_nil_iff]
      intro y hy
      have := h x hx'.1 y hy
      have hk : key x = k := by simpa using hx'.2
      simp; omega
    rw [hb]; simp

/-- One more laid in. -/
theorem insert_one {S1 S2 : List α} {x : α} (hs : Srt key (S1 ++ S2)) (h1 : ∀ y, y ∈ S1 → key y ≤ key x) (h2 : ∀ y, y ∈ S2 → key x < key y) :
    Srt key (S1 ++ x :: S2) ∧ Stb key ((S1 ++ S2) ++ [x]) (S1 ++ x :: S2) := by
  constructor
  · refine hs.left.app (List.pairwise_cons.2 ⟨fun y hy => Int.le_of_lt (h2 y hy), hs.right⟩) fun a ha y hy => ?_
    rcases List.mem_cons.1 hy with rfl | hy
    · exact h1 a ha
    · exact hs.cross a ha y hy
  · rw [List.append_assoc]
    refine (Stb.refl S1).app ?_
    have := stb_swap (key := key) (a := S2) (b := [x]) (fun y hy z hz => by rcases List.mem_singleton.1 hz with rfl; exact h2 y hy)
    simpa using this

/-- One at the head laid into what stands behind. -/
theorem insert_head {S1 S2 : List α} {x : α} (hs : Srt key (S1 ++ S2)) (h1 : ∀ y, y ∈ S1 → key y < key x) (h2 : ∀ y, y ∈ S2 → key x ≤ key y) :
    Srt key (S1 ++ x :: S2) ∧ Stb key (x :: (S1 ++ S2)) (S1 ++ x :: S2) := by
  constructor
  · refine hs.left.app (List.pairwise_cons.2 ⟨h2, hs.right⟩) fun a ha y hy => ?_
    rcases List.mem_cons.1 hy with rfl | hy
    · exact Int.le_of_lt (h1 a ha)
    · exact hs.cross a ha y hy
  · have := stb_swap (key := key) (a := [x]) (b := S1) (fun y hy z hz => by rcases List.mem_singleton.1 hy with rfl; exact h1 z hz)
    have h3 := this.app (Stb.refl (key := key) S2)
    simpa using h3

/-- The merge by a rotation in the middle. -/
theorem merge_mid {A B C D L R : List α} (h1 : ∀ x, x ∈ B → ∀ y, y ∈ C → key y < key x) (h2 : ∀ x, x ∈ A → ∀ y, y ∈ D → key x ≤ key y) (hab : Srt key (A ++ B)) (hcd : Srt key (C ++ D))
    (hl : Srt key L) (hls : Stb key (A ++ C) L) (hr : Srt key R) (hrs : Stb key (B ++ D) R) :
    Srt key (L ++ R) ∧ Stb key ((A ++ B) ++ (C ++ D)) (L ++ R) := by
  constructor
  · refine hl.app hr fun x hx y hy => ?_
    rcases List.mem_append.1 (hls.mem.2 hx) with hx | hx <;> rcases List.mem_append.1 (hrs.mem.2 hy) with hy | hy
    · exact hab.cross x hx y hy
    · exact h2 x hx y hy
    · exact Int.le_of_lt (h1 y hy x hx)
    · exact hcd.cross x hx y hy
  · have e1 : Stb key ((A ++ B) ++ (C ++ D)) ((A ++ C) ++ (B ++ D)) := by
      have := ((Stb.refl (key := key) A).app (stb_swap h1)).app (Stb.refl (key := key) D)
      simpa [List.append_assoc] using this
    exact e1.trans (hls.app hrs)
end Go.So
end
section
namespace Go.So
universe u
variable {α : Type u}

/-- Two places exchanged. -/
def swp (l : List α) (p q : Nat) : List α :=
  match l[p]?, l[q]? with
  | some x, some y => (l.set p y).set q x
  | _, _ => l

theorem swp_length (l : List α) (p q : Nat) : (swp l p q).length = l.length := by
  unfold swp; split <;> simp

theorem swp_at {X Y Z : List α} {u v : α} {p q : Nat} (hp : p = X.length) (hq : q = X.length + 1 + Y.length) : swp (X ++ u :: (Y ++ v :: Z)) p q = X ++ v :: (Y ++ u :: Z) := by
  subst hp; subst hq
  have h1 : (X ++ u :: (Y ++ v :: Z))[X.length]? = some u := by simp
  have h2 : (X ++ u :: (Y ++ v :: Z))[X.length + 1 + Y.length]? = some v := by
    rw [List.getElem?_append_right (by omega)]
    rw [show X.length + 1 + Y.length - X.length = Y.length + 1 from by omega]
    rw [List.getElem?_cons_succ, List.getElem?_append_right (by omega)]; simp
  unfold swp
  rw [h1, h2]
  simp only
  rw [List.set_append_right _ _ (by omega)]
  simp only [Nat.sub_self, List.set_cons_zero]
  rw [List.set_append_right _ _ (by omega)]
  rw [show X.length + 1 + Y.length - X.length = Y.length + 1 from by omega]
  rw [List.set_cons_succ, List.set_append_right _ _ (by omega)]
  simp

theorem swp_comm (l : List α) (p q : Nat) : swp l p q = swp l q p := by
  unfold swp
  cases h1 : l[p]? with
  | none => cases l[q]? <;> rfl
  | some x =>
    cases h2 : l[q]? with
    | none => rfl
    | some y =>
      simp only
      by_cases h : p = q
      · subst h; rw [h1] at h2; injection h2 with h2; subst h2; rfl
      · exact List.set_comm _ _ h

/-- Neighbours. -/
theorem swp_next {X Z : List α} {u v : α} {p q : Nat} (hp : p = X.length) (hq : q = X.length + 1) : swp (X ++ u :: v :: Z) p q = X ++ v :: u :: Z :=
  swp_at (Y := []) hp (by simpa using hq)
theorem swp_next' {X Z : List α} {u v : α} {p q : Nat} (hp : p = X.length) (hq : q = X.length + 1) : swp (X ++ u :: v :: Z) q p = X ++ v :: u :: Z := by
  rw [swp_comm]; exact swp_next hp hq
end Go.So
end
section
namespace Go.So
universe u
variable {α : Type u} {key : α → Int}

/-- One more laid behind all that are not greater. -/
def insK (key : α → Int) (x : α) : List α → List α
  | [] => [x]
  | y :: r => if key x < key y then x :: y :: r else y :: insK key x r
/-- The stable order. -/
def srtK (key : α → Int) (l : List α) : List α := l.foldl (fun out x => insK key x out) []

theorem insK_split (x : α) : ∀ (l : List α), Srt key l → ∃ a b, l = a ++ b ∧ insK key x l = a ++ x :: b ∧ (∀ y, y ∈ a → key y ≤ key x) ∧ (∀ y, y ∈ b → key x < key y)
  | [], _ => ⟨[], [], rfl, rfl, (fun _ h => by cases h), (fun _ h => by cases h)⟩
  | z :: r, h => by
    have h' := List.pairwise_cons.1 h
    simp only [insK]
    by_cases hc : key x < key z
    · rw [if_pos hc]
      refine ⟨[], z :: r, rfl, rfl, (fun _ h => by cases h), fun y hy => ?_⟩
      rcases List.mem_cons.1 hy with rfl | hy
      · exact hc
      · have := h'.1 y hy; omega
    · rw [if_neg hc]
      obtain ⟨a, b, h1, h2, h3, h4⟩ := insK_split x r h'.2
      refine ⟨z :: a, b, by rw [h1]; rfl, by rw [h2]; rfl, fun y hy => ?_, h4⟩
      rcases List.mem_cons.1 hy with rfl | hy
      · omega
      · exact h3 y hy
theorem insK_ok {x : α} {l : List α} (h : Srt key l) : Srt key (insK key x l) ∧ Stb key (l ++ [x]) (insK key x l) := by
  obtain ⟨a, b, h1, h2, h3, h4⟩ := insK_split x l h
  rw [h2]
  subst h1
  exact insert_one h h3 h4
theorem foldl_ok : ∀ (l out pre : List α), Srt key out → Stb key pre out → Srt key (l.foldl (fun out x => insK key x out) out) ∧ Stb key (pre ++ l) (l.foldl (fun out x => insK key x out) out)
  | [], out, pre, h1, h2 => ⟨h1, by simpa using h2⟩
  | x :: l, out, pre, h1, h2 => by
    obtain ⟨g1, g2⟩ := insK_ok (x := x) h1
    have := foldl_ok l (insK key x out) (pre ++ [x]) g1 ((h2.app (Stb.refl [x])).trans g2)
    simpa using this
theorem srtK_ok (l : List α) : Srt key (srtK key l) ∧ Stb key l (srtK key l) := by
  have := foldl_ok (key := key) l [] [] List.Pairwise.nil (Stb.refl _)
  simpa [srtK] using this
theorem srtK_eq {l r : List α} (h1 : Srt key r) (h2 : Stb key l r) : r = srtK key l := uniq h1 (srtK_ok l).1 (h2.symm.trans (srtK_ok l).2)
theorem srtK_sorted {l : List α} (h : Srt key l) : srtK key l = l := (srtK_eq h (Stb.refl l)).symm
theorem srtK_app (a b : List α) : srtK key (srtK key a ++ srtK key b) = srtK key (a ++ b) :=
  srtK_eq (srtK_ok _).1 (((srtK_ok a).2.app (srtK_ok b).2).trans (srtK_ok _).2)
theorem insK_length (x : α) : ∀ l : List α, (insK key x l).length = l.length + 1
  | [] => rfl
  | y :: r => by simp only [insK]; split <;> simp [insK_length x r]
theorem foldl_length : ∀ (l out : List α), (l.foldl (fun out x => insK key x out) out).length = out.length + l.length
  | [], out => rfl
  | x :: l, out => by simp only [List.foldl_cons]; rw [foldl_length l, insK_length]; simp; omega
theorem srtK_length (l : List α) : (srtK key l).length = l.length := by simp [srtK, foldl_length]
theorem srtK_nil : srtK key ([] : List α) = [] := rfl
theorem srt_one (l : List α) (h : l.length ≤ 1) : Srt key l := by
  match l, h with
  | [], _ => exact List.Pairwise.nil
  | [x], _ => exact List.pairwise_singleton _ _

/-- Blocks of so many, each in its order. -/
def bs (key : α → Int) (s : Nat) : Nat → List α → List α
  | 0, l => l
  | f + 1, l => if l.length ≤ s then srtK key l else srtK key (l.take s) ++ bs key s f (l.drop s)
theorem bs_small {s f : Nat} {l : List α} (h : l.length ≤ s) : bs key s (f + 1) l = srtK key l := by simp only [bs]; rw [if_pos h]
theorem bs_big {s f : Nat} {l : List α} (h : ¬ l.length ≤ s) : bs key s (f + 1) l = srtK key (l.take s) ++ bs key s f (l.drop s) := by simp only [bs]; rw [if_neg h]
theorem bs_len {s : Nat} : ∀ {f : Nat} {l : List α}, (bs key s f l).length = l.length
  | 0, l => rfl
  | f + 1, l => by
    simp only [bs]
    split
    · exact srtK_length l
    · rw [List.length_append, srtK_length, bs_len, List.length_take, List.length_drop]; omega

/-- Two ranges exchanged, so far. -/
def swR (A U B V C : List α) (i : Nat) : List α := A ++ V.take i ++ U.drop i ++ B ++ U.take i ++ V.drop i ++ C
theorem swR_zero (A U B V C : List α) : swR A U B V C 0 = A ++ U ++ B ++ V ++ C := by simp [swR]
theorem swR_end (A U B V C : List α) (h : U.length = V.length) : swR A U B V C U.length = A ++ V ++ B ++ U ++ C := by
  simp [swR]
  rw [h]; simp
theorem swR_len (A U B V C : List α) (i : Nat) : (swR A U B V C i).length = A.length + U.length + B.length + V.length + C.length := by
  simp [swR]; omega
theorem swR_step {A U B V C : List α} {i : Nat} (h : U.length = V.length) (hi : i < U.length) {p q : Nat} (hp : p = A.length + i) (hq : q = A.length + U.length + B.length + i) :
    swp (swR A U B V C i) p q = swR A U B V C (i + 1) := by
  have hu : U.drop i = U[i] :: U.drop (i + 1) := List.drop_eq_getElem_cons hi
  have hv : V.drop i = V[i]'(by omega) :: V.drop (i + 1) := List.drop_eq_getElem_cons (by omega)
  have tu : U.take (i + 1) = U.take i ++ [U[i]] := List.take_succ_eq_append_getElem hi
  have tv : V.take (i + 1) = V.take i ++ [V[i]'(by omega)] := List.take_succ_eq_append_getElem (by omega)
  have e1 : swR A U B V C i = (A ++ V.take i) ++ U[i] :: ((U.drop (i + 1) ++ B ++ U.take i) ++ V[i]'(by omega) :: (V.drop (i + 1) ++ C)) := by
    unfold swR; rw [hu, hv]; simp only [List.append_assoc, List.cons_append, List.nil_append]
  have e2 : swR A U B V C (i + 1) = (A ++ V.take i) ++ V[i]'(by omega) :: ((U.drop (i + 1) ++ B ++ U.take i) ++ U[i] :: (V.drop (i + 1) ++ C)) := by
    unfold swR; rw [tu, tv]; simp only [List.append_assoc, List.cons_append, List.nil_append]
  rw [e1, e2]
  exact swp_at (by simp; omega) (by simp; omega)
end Go.So
end
section
namespace Go.So
universe u
variable {α : Type u} {key : α → Int}
theorem getm {L P R : List α} {z : α} {k : Nat} (hL : L = P ++ z :: R) (hk : k = P.length) : L[k]? = some z := by subst hL; subst hk; simp
theorem swpm {L X Y : List α} {u v : α} {p q : Nat} (hL : L = X ++ u :: v :: Y) (hp : p = X.length) (hq : q = X.length + 1) : swp L q p = X ++ v :: u :: Y := by subst hL; exact swp_next' hp hq
theorem swpm' {L X Y : List α} {u v : α} {p q : Nat} (hL : L = X ++ u :: v :: Y) (hp : p = X.length) (hq : q = X.length + 1) : swp L p q = X ++ v :: u :: Y := by subst hL; exact swp_next hp hq
theorem last_of {S : List α} (h : 0 < S.length) : ∃ T y, S = T ++ [y] := ⟨S.dropLast, S.getLast (by intro e; rw [e] at h; simp at h), (List.dropLast_concat_getLast _).symm⟩
theorem ins_fin {S S1 S2 : List α} {x : α} {i : Nat} (hx : S[i]? = some x) (he : S1 ++ S2 = srtK key (S.take i)) (h1 : ∀ y, y ∈ S1 → key y ≤ key x) (h2 : ∀ y, y ∈ S2 → key x < key y) :
    srtK key (S.take (i + 1)) = S1 ++ x :: S2 := by
  have hs : Srt key (S1 ++ S2) := by rw [he]; exact (srtK_ok _).1
  obtain ⟨g1, g2⟩ := insert_one hs h1 h2
  have ht : S.take (i + 1) = S.take i ++ [x] := by rw [List.take_add_one, hx]; rfl
  rw [ht]
  refine (srtK_eq g1 (Stb.trans ?_ g2)).symm
  rw [he]
  exact (srtK_ok _).2.app (Stb.refl _)
theorem le_last {T S2 : List α} {x y : α} (hs : Srt key (T ++ [y] ++ S2)) (hy : key y ≤ key x) : ∀ z, z ∈ T ++ [y] → key z ≤ key x := by
  intro z hz
  rcases List.mem_append.1 hz with hz | hz
  · have := hs.left.cross z hz y (by simp); omega
  · rcases List.mem_singleton.1 hz with rfl; exact hy
theorem srt_take1 (S : List α) : srtK key (S.take 1) = S.take 1 := srtK_sorted (srt_one _ (by simp; omega))
theorem gt_cons {S2 : List α} {x y : α} (h : ∀ z, z ∈ S2 → key x < key z) (hy : key x < key y) : ∀ z, z ∈ y :: S2 → key x < key z := by
  intro z hz
  rcases List.mem_cons.1 hz with rfl | hz
  · exact hy
  · exact h z hz
end Go.So
end
section
namespace Go.So
universe u
variable {α : Type u} {key : α → Int}
theorem take_le {V : List α} (hs : Srt key V) {p : Nat} {x : α} (hx : V[p]? = some x) : ∀ y, y ∈ V.take (p + 1) → key y ≤ key x := by
  intro y hy
  obtain ⟨i, hi, he⟩ := List.getElem_of_mem hy
  simp at hi
  obtain ⟨hp, hxe⟩ := List.getElem?_eq_some_iff.1 hx
  have e : V[i] = y := by rw [← he]; simp
  rcases Nat.lt_or_ge i p with h | h
  · have := (List.pairwise_iff_getElem.1 hs) i p (by omega) hp h
    rw [e, hxe] at this; exact this
  · have : i = p := by omega
    subst this; rw [← e, hxe]; exact Int.le_refl _
theorem drop_ge {V : List α} (hs : Srt key V) {p : Nat} {x : α} (hx : V[p]? = some x) : ∀ y, y ∈ V.drop p → key x ≤ key y := by
  intro y hy
  obtain ⟨i, hi, he⟩ := List.getElem_of_mem hy
  simp at hi
  obtain ⟨hp, hxe⟩ := List.getElem?_eq_some_iff.1 hx
  have e : V[p + i] = y := by rw [← he]; simp
  rcases Nat.eq_zero_or_pos i with h | h
  · subst h; rw [← e]; simp only [Nat.add_zero]; rw [hxe]; exact Int.le_refl _
  · have := (List.pairwise_iff_getElem.1 hs) p (p + i) hp (by omega) (by omega)
    rw [e, hxe] at this; exact this
theorem getR {A V C L : List α} {k : Nat} (hL : L = A ++ V ++ C) (h : A.length ≤ k) (h2 : k < A.length + V.length) : L[k]? = V[k - A.length]? := by
  subst hL
  rw [List.append_assoc, List.getElem?_append_right h, List.getElem?_append_left (by omega)]

/-- One at the head, its place found. -/
theorem sym_head {A V C L : List α} {u : α} {i : Nat} (hL : L = A ++ [u] ++ V ++ C) (hV : Srt key V) (h1 : A.length + 1 ≤ i) (h2 : i ≤ A.length + 1 + V.length)
    (P1 : i = A.length + 1 ∨ ∃ x, L[i - 1]? = some x ∧ key x < key u) (P2 : i = A.length + 1 + V.length ∨ ∃ x, L[i]? = some x ∧ ¬ key x < key u) :
    srtK key ([u] ++ V) = V.take (i - (A.length + 1)) ++ u :: V.drop (i - (A.length + 1)) := by
  have hg : ∀ k, A.length + 1 ≤ k → k < A.length + 1 + V.length → L[k]? = V[k - (A.length + 1)]? := fun k a b => by
    have := getR (A := A ++ [u]) (V := V) (C := C) hL (k := k) (by simp; omega) (by simp; omega)
    simpa using this
  have g := insert_head (key := key) (S1 := V.take (i - (A.length + 1))) (S2 := V.drop (i - (A.length + 1))) (x := u) (by rw [List.take_append_drop]; exact hV) ?_ ?_
  · rw [List.take_append_drop] at g
    exact (srtK_eq g.1 g.2).symm
  · intro y hy
    rcases P1 with P1 | ⟨x, hx, hlt⟩
    · subst P1; simp at hy
    · by_cases hi : i = A.length + 1
      · subst hi; simp at hy
      · rw [hg _ (by omega) (by omega)] at hx
        have := take_le hV hx y (by rw [show i - 1 - (A.length + 1) + 1 = i - (A.length + 1) from by omega]; exact hy)
        omega
  · intro y hy
    rcases P2 with P2 | ⟨x, hx, hlt⟩
    · subst P2; simp at hy
    · by_cases hi : i = A.length + 1 + V.length
      · subst hi; simp at hy
      · rw [hg _ (by omega) (by omega)] at hx
        have := drop_ge hV hx y hy
        omega
/-- One at the end, its place found. -/
theorem sym_tail {A U C L : List α} {v : α} {i : Nat} (hL : L = A ++ U ++ [v] ++ C) (hU : Srt key U) (h1 : A.length ≤ i) (h2 : i ≤ A.length + U.length)
    (P1 : i = A.length ∨ ∃ x, L[i - 1]? = some x ∧ ¬ key v < key x) (P2 : i = A.length + U.length ∨ ∃ x, L[i]? = some x ∧ key v < key x) :
    srtK key (U ++ [v]) = U.take (i - A.length) ++ v :: U.drop (i - A.length) := by
  have hg : ∀ k, A.length ≤ k → k < A.length + U.length → L[k]? = U[k - A.length]? := fun k a b =>
    getR (A := A) (V := U) (C := [v] ++ C) (by rw [hL]; simp) a b
  have g := insert_one (key := key) (S1 := U.take (i - A.length)) (S2 := U.drop (i - A.length)) (x := v) (by rw [List.take_append_drop]; exact hU) ?_ ?_
  · rw [List.take_append_drop] at g
    exact (srtK_eq g.1 g.2).symm
  · intro y hy
    rcases P1 with P1 | ⟨x, hx, hlt⟩
    · subst P1; simp at hy
    · by_cases hi : i = A.length
      · subst hi; simp at hy
      · rw [hg _ (by omega) (by omega)] at hx
        have := take_le hU hx y (by rw [show i - 1 - A.length + 1 = i - A.length from by omega]; exact hy)
        omega
  · intro y hy
    rcases P2 with P2 | ⟨x, hx, hlt⟩
    · subst P2; simp at hy
    · by_cases hi : i = A.length + U.length
      · subst hi; simp at hy
      · rw [hg _ (by omega) (by omega)] at hx
        have := drop_ge hU hx y hy
        omega
/-- Where the two runs are cut. -/
theorem sym_cut {A U V C L : List α} {m b mid s lo hi : Nat} (hL : L = A ++ U ++ V ++ C) (hU : Srt key U) (hV : Srt key V) (hm : m = A.length + U.length) (hb : b = m + V.length) (hmid : mid = (A.length + b) / 2)
    (hlh : (mid < m ∧ lo = mid + m - b ∧ hi = mid) ∨ (m ≤ mid ∧ lo = A.length ∧ hi = m)) (h1 : lo ≤ s) (h2 : s ≤ hi)
    (P1 : s = lo ∨ ∃ x y, L[mid + m - 1 - (s - 1)]? = some x ∧ L[s - 1]? = some y ∧ ¬ key x < key y) (P2 : s = hi ∨ ∃ x y, L[mid + m - 1 - s]? = some x ∧ L[s]? = some y ∧ key x < key y) :
    srtK key (U.take (s - A.length) ++ V.take (mid - s)) ++ srtK key (U.drop (s - A.length) ++ V.drop (mid - s)) = srtK key (U ++ V) := by
  have hgU : ∀ k, A.length ≤ k → k < m → L[k]? = U[k - A.length]? := fun k a b =>
    getR (A := A) (V := U) (C := V ++ C) (by rw [hL]; simp) a (by omega)
  have hgV : ∀ k, m ≤ k → k < b → L[k]? = V[k - m]? := fun k a b => by
    have := getR (A := A ++ U) (V := V) (C := C) hL (k := k) (by simp; omega) (by simp; omega)
    rw [this]; congr 1; simp; omega
  have g := merge_mid (key := key) (A := U.take (s - A.length)) (B := U.drop (s - A.length)) (C := V.take (mid - s)) (D := V.drop (mid - s)) (L := srtK key (U.take (s - A.length) ++ V.take (mid - s))) (R := srtK key (U.drop (s - A.length) ++ V.drop (mid - s)))
    ?_ ?_ (by rw [List.take_append_drop]; exact hU) (by rw [List.take_append_drop]; exact hV) (srtK_ok _).1 (srtK_ok _).2 (srtK_ok _).1 (srtK_ok _).2
  · rw [List.take_append_drop, List.take_append_drop] at g
    exact srtK_eq g.1 g.2
  · intro x hx y hy
    clear P1
    rcases P2 with P2 | ⟨vx, uy, hvx, huy, hlt⟩
    · exfalso
      rcases hlh with ⟨q1, q2, q3⟩ | ⟨q1, q2, q3⟩
      · have : mid - s = 0 := by omega
        rw [this] at hy; simp at hy
      · have : U.drop (s - A.length) = [] := List.drop_eq_nil_of_le (by omega)
        rw [this] at hx; cases hx
    · by_cases he : s = hi
      · exfalso
        rcases hlh with ⟨q1, q2, q3⟩ | ⟨q1, q2, q3⟩
        · have : mid - s = 0 := by omega
          rw [this] at hy; simp at hy
        · have : U.drop (s - A.length) = [] := List.drop_eq_nil_of_le (by omega)
          rw [this] at hx; cases hx
      · rw [hgV _ (by omega) (by omega)] at hvx
        rw [hgU _ (by omega) (by omega)] at huy
        have a1 := drop_ge hU huy x hx
        have a2 := take_le hV hvx y (by rw [show mid + m - 1 - s - m + 1 = mid - s from by omega]; exact hy)
        omega
  · intro x hx y hy
    clear P2
    rcases P1 with P1 | ⟨vx, uy, hvx, huy, hlt⟩
    · exfalso
      rcases hlh with ⟨q1, q2, q3⟩ | ⟨q1, q2, q3⟩
      · have : V.drop (mid - s) = [] := List.drop_eq_nil_of_le (by omega)
        rw [this] at hy; cases hy
      · have : s - A.length = 0 := by omega
        rw [this] at hx; simp at hx
    · by_cases he : s = lo
      · exfalso
        rcases hlh with ⟨q1, q2, q3⟩ | ⟨q1, q2, q3⟩
        · have : V.drop (mid - s) = [] := List.drop_eq_nil_of_le (by omega)
          rw [this] at hy; cases hy
        · have : s - A.length = 0 := by omega
          rw [this] at hx; simp at hx
      · rw [hgV _ (by omega) (by omega)] at hvx
        rw [hgU _ (by omega) (by omega)] at huy
        have a1 := take_le hU huy x (by rw [show s - 1 - A.length + 1 = s - A.length from by omega]; exact hx)
        have a2 := drop_ge hV hvx y (by rw [show mid + m - 1 - (s - 1) - m = mid - s from by omega]; exact hy)
        omega
end Go.So
end
section
namespace Go.So
universe u
variable {α : Type u} {key : α → Int}
/-- `R` is `L` with each block of so many in its order. -/
inductive Blk (key : α → Int) (s : Nat) : List α → List α → Prop
  | last {l : List α} : l.length ≤ s → Blk key s l (srtK key l)
  | cons {x l r : List α} : x.length = s → Blk key s l r → Blk key s (x ++ l) (srtK key x ++ r)
def DL (key : α → Int) (s : Nat) (X P : List α) : Prop := ∀ Y r, Blk key s Y r → Blk key s (X ++ Y) (P ++ r)
theorem DL_nil {s : Nat} : DL key s [] [] := fun _ _ h => h
theorem DL_step {s : Nat} {X P x : List α} (h : DL key s X P) (hx : x.length = s) : DL key s (X ++ x) (P ++ srtK key x) := by
  intro Y r hr
  have := h _ _ (Blk.cons hx hr)
  simpa using this
theorem Blk.len {s : Nat} {l r : List α} (h : Blk key s l r) : r.length = l.length := by
  induction h with
  | last h => exact srtK_length _
  | cons hx h ih => simp [srtK_length, ih]
theorem Blk.small {s : Nat} {l r : List α} (h : Blk key s l r) (hl : r.length ≤ s) : r = srtK key l := by
  cases h with
  | last h => rfl
  | @cons x l r hx h =>
    have h0 : r.length = 0 := by rw [List.length_append, srtK_length] at hl; omega
    have h1 : l.length = 0 := by rw [← h.len]; exact h0
    rw [List.length_eq_zero_iff.1 h0, List.length_eq_zero_iff.1 h1]; simp
theorem Blk.big {s : Nat} {l r : List α} (h : Blk key s l r) (hl : s ≤ r.length) : ∃ x l' r', x.length = s ∧ l = x ++ l' ∧ r = srtK key x ++ r' ∧ Blk key s l' r' := by
  cases h with
  | @last h =>
    rw [srtK_length] at hl
    exact ⟨l, [], [], by omega, by simp, by simp, Blk.last (l := []) (by simp)⟩
  | @cons x l r hx h => exact ⟨x, l, r, hx, rfl, rfl, h⟩
theorem Blk.two {s : Nat} {l r : List α} (h : Blk key s l r) (hl : 2 * s ≤ r.length) : ∃ x y l' r', x.length = s ∧ y.length = s ∧ l = x ++ y ++ l' ∧ r = srtK key x ++ srtK key y ++ r' ∧ Blk key s l' r' := by
  obtain ⟨x, l1, r1, hx, e1, e2, h1⟩ := h.big (by omega)
  have hx' : (srtK key x).length = s := by rw [srtK_length]; exact hx
  obtain ⟨y, l2, r2, hy, e3, e4, h2⟩ := h1.big (by rw [e2, List.length_append] at hl; omega)
  exact ⟨x, y, l2, r2, hx, hy, by rw [e1, e3]; simp, by rw [e2, e4]; simp, h2⟩
theorem Blk.oneHalf {s : Nat} {l r : List α} (h : Blk key s l r) (hl : s < r.length) (h2 : r.length < 2 * s) : ∃ x y, x.length = s ∧ 0 < y.length ∧ y.length < s ∧ l = x ++ y ∧ r = srtK key x ++ srtK key y := by
  obtain ⟨x, l1, r1, hx, e1, e2, h1⟩ := h.big (by omega)
  have hx' : (srtK key x).length = s := by rw [srtK_length]; exact hx
  have hr1 : r.length = s + r1.length := by rw [e2, List.length_append, hx']
  have e3 := h1.small (by omega)
  have hl1 : r1.length = l1.length := h1.len
  exact ⟨x, l1, hx, by omega, by omega, e1, by rw [e2, e3]⟩
theorem srtK_isSrt (l : List α) : Srt key (srtK key l) := (srtK_ok l).1
end Go.So
end
