import Derived.WalkKit
namespace Go.Fw

/-- What a place of a view holds: a block of memory; or, at place 0, what of the world stays: the outside, the output, and that nothing new is frozen. -/
inductive Cel where
  | obj (o : Obj)
  | gh (os : Os) (out : Array (Nat × ByteArray)) (n : Nat)
/-- A view of memory: at each place nothing, or (may it be written?, what it holds). Block b stands at place b + 1. -/
abbrev Hp := Nat → Option (Bool × Cel)
/-- What of the world stays. -/
structure Okg (w : World) (os : Os) (out : Array (Nat × ByteArray)) (n : Nat) : Prop where
  os : w.os = os
  out : w.output = out
  size : n ≤ w.heap.size
  cold : ∀ (i : Nat) (c : Array Value) (t : TypeId) (fr : Nat × Nat), n ≤ i → w.heap[i]? = some (Obj.cells c t fr) → fr = (0, 0)
def Holds (w : World) : Nat → Cel → Prop
  | i + 1, .obj o => w.heap[i]? = some o
  | 0, .gh os out n => Okg w os out n
  | _, _ => False

/-- How two views of one block go together: what may be written is in one of them alone. -/
def Cmp (x y z : Option (Bool × Cel)) : Prop :=
  match x, y with
  | none, y => z = y
  | some x, none => z = some x
  | some x, some y => x.1 = false ∧ y = x ∧ z = some x

def Cmps (a b c : Hp) : Prop := ∀ i, Cmp (a i) (b i) (c i)
abbrev SP := Hp → Prop
def sep (A B : SP) : SP := fun h => ∃ a b, Cmps a b h ∧ A a ∧ B b
def emp : SP := fun h => ∀ i, h i = none
def lift (p : Prop) : SP := fun h => p ∧ ∀ i, h i = none
def blk (m : Bool) (b : Nat) (o : Obj) : SP := fun h => ∀ i, h i = if i = b + 1 then some (m, .obj o) else none
def gho (os : Os) (out : Array (Nat × ByteArray)) (n : Nat) : SP := fun h => ∀ i, h i = if i = 0 then some (false, .gh os out n) else none
def ex {α : Type} (A : α → SP) : SP := fun h => ∃ x, A x h
def Fits (h : Hp) (w : World) : Prop := ∀ i m o, h i = some (m, o) → Holds w i o
def Sat (w : World) (A : SP) : Prop := ∃ h, A h ∧ Fits h w
def Ent (A B : SP) : Prop := ∀ w, Sat w A → Sat w B

theorem Cmp.comm {x y z : Option (Bool × Cel)} (h : Cmp x y z) : Cmp y x z := by
  unfold Cmp at *
  cases x <;> cases y <;> simp_all
theorem Cmps.comm {a b c : Hp} (h : Cmps a b c) : Cmps b a c := fun i => (h i).comm
theorem sep_comm (A B : SP) : sep A B = sep B A := by
  funext h
  apply propext
  constructor <;> rintro ⟨a, b, hc, ha, hb⟩ <;> exact ⟨b, a, hc.comm, hb, ha⟩
theorem cmp_assoc {a b c ab abc : Option (Bool × Cel)} (h1 : Cmp a b ab) (h2 : Cmp ab c abc) :
    ∃ bc, Cmp b c bc ∧ Cmp a bc abc := by
  unfold Cmp at *
  cases a <;> cases b <;> cases c <;> simp_all
theorem sep_assoc1 {A B C : SP} {h : Hp} (hh : sep (sep A B) C h) : sep A (sep B C) h := by
  obtain ⟨ab, c, h2, ⟨a, b, h1, ha, hb⟩, hc⟩ := hh
  have hx : ∀ i, ∃ bc, Cmp (b i) (c i) bc ∧ Cmp (a i) bc (h i) := fun i => cmp_assoc (h1 i) (h2 i)
  exact ⟨a, fun i => Classical.choose (hx i), fun i => (Classical.choose_spec (hx i)).2, ha, b, c, fun i => (Classical.choose_spec (hx i)).1, hb, hc⟩
theorem sep_assoc (A B C : SP) : sep (sep A B) C = sep A (sep B C) := by
  funext h
  apply propext
  constructor
  · exact sep_assoc1
  · intro hh
    rw [sep_comm A, sep_comm B] at hh
    have := sep_assoc1 hh
    rw [sep_comm C, sep_comm B] at this
    exact this
theorem sep_left_comm (A B C : SP) : sep A (sep B C) = sep B (sep A C) := by
  rw [← sep_assoc, sep_comm A B, sep_assoc]
theorem emp_sep (A : SP) : sep emp A = A := by
  funext h
  apply propext
  constructor
  · rintro ⟨a, b, hc, ha, hb⟩
    have : h = b := by
      funext i
      have := hc i
      rw [ha i] at this
      exact this
    rwa [this]
  · intro hh
    exact ⟨fun _ => none, h, fun i => rfl, fun _ => rfl, hh⟩
theorem sep_emp (A : SP) : sep A emp = A := by rw [sep_comm, emp_sep]
theorem lift_sep {p : Prop} {A : SP} {h : Hp} : sep (lift p) A h ↔ p ∧ A h := by
  constructor
  · rintro ⟨a, b, hc, ⟨hp, ha⟩, hb⟩
    have : h = b := by
      funext i
      have := hc i
      rw [ha i] at this
      exact this
    exact ⟨hp, this ▸ hb⟩
  · rintro ⟨hp, hh⟩
    exact ⟨fun _ => none, h, fun i => rfl, ⟨hp, fun _ => rfl⟩, hh⟩
theorem ex_sep {α : Type} (A : α → SP) (B : SP) : sep (ex A) B = ex fun x => sep (A x) B := by
  funext h
  apply propext
  constructor
  · rintro ⟨a, b, hc, ⟨x, ha⟩, hb⟩; exact ⟨x, a, b, hc, ha, hb⟩
  · rintro ⟨x, a, b, hc, ha, hb⟩; exact ⟨a, b, hc, ⟨x, ha⟩, hb⟩

/-! lists of parts -/
def seps : List SP → SP
  | [] => emp
  | A :: L => sep A (seps L)
theorem seps_append (L M : List SP) : seps (L ++ M) = sep (seps L) (seps M) := by
  induction L with
  | nil => simp [seps, emp_sep]
  | cons A L ih => simp only [List.cons_append, seps, ih, sep_assoc]
theorem seps_perm {L M : List SP} (h : L.Perm M) : seps L = seps M := by
  induction h with
  | nil => rfl
  | cons A _ ih => simp only [seps, ih]
  | swap A B L => simp only [seps, sep_left_comm]
  | trans _ _ h1 h2 => exact h1.trans h2

/-! what holds of the world -/
theorem Sat.mono {w : World} {A B : SP} (h : Sat w A) (hAB : ∀ h, A h → B h) : Sat w B := let ⟨x, ha, hf⟩ := h; ⟨x, hAB x ha, hf⟩
theorem Fits.sub {a b c : Hp} {w : World} (hc : Cmps a b c) (h : Fits c w) : Fits a w := by
  intro i m o hi
  have := hc i
  rw [hi] at this
  unfold Cmp at this
  cases hb : b i <;> simp [hb] at this
  · exact h i m o this
  · exact h i m o this.2.2
theorem Sat.right {w : World} {A B : SP} (h : Sat w (sep A B)) : Sat w B := by
  obtain ⟨x, ⟨a, b, hc, _, hb⟩, hf⟩ := h
  exact ⟨b, hb, hf.sub hc.comm⟩
theorem Sat.left {w : World} {A B : SP} (h : Sat w (sep A B)) : Sat w A := by
  rw [sep_comm] at h; exact h.right
theorem Sat.empty (w : World) : Sat w emp := ⟨fun _ => none, fun _ => rfl, fun i m o h => by cases h⟩
theorem sat_ex {α : Type} {w : World} {A : α → SP} : Sat w (ex A) ↔ ∃ x, Sat w (A x) := by
  constructor
  · rintro ⟨h, ⟨x, ha⟩, hf⟩; exact ⟨x, h, ha, hf⟩
  · rintro ⟨x, h, ha, hf⟩; exact ⟨h, ⟨x, ha⟩, hf⟩
theorem sat_ex_sep {α : Type} {w : World} {A : α → SP} {B : SP} : Sat w (sep (ex A) B) ↔ ∃ x, Sat w (sep (A x) B) := by
  rw [ex_sep, sat_ex]
theorem sat_lift_sep {w : World} {p : Prop} {A : SP} : Sat w (sep (lift p) A) ↔ p ∧ Sat w A := by
  constructor
  · rintro ⟨h, hh, hf⟩
    have := lift_sep.1 hh
    exact ⟨this.1, h, this.2, hf⟩
  · rintro ⟨hp, h, hh, hf⟩
    exact ⟨h, lift_sep.2 ⟨hp, hh⟩, hf⟩

theorem Sat.block {w : World} {m : Bool} {b : Nat} {o : Obj} {A : SP} (h : Sat w (sep (blk m b o) A)) : w.heap[b]? = some o := by
  obtain ⟨x, ha, hf⟩ := h.left
  exact hf (b + 1) m (.obj o) (by rw [ha (b + 1), if_pos rfl])
theorem Okg.to {w w' : World} {os : Os} {out : Array (Nat × ByteArray)} {n : Nat} (h : Okg w os out n) (ho : w'.os = w.os ∧ w'.output = w.output) (hs : w.heap.size ≤ w'.heap.size)
    (hc : ∀ (i : Nat) (c : Array Value) (t : TypeId) (fr : Nat × Nat), n ≤ i → w'.heap[i]? = some (Obj.cells c t fr) → w.heap[i]? = some (Obj.cells c t fr) ∨ fr = (0, 0)) : Okg w' os out n :=
  ⟨ho.1.trans h.os, ho.2.trans h.out, Nat.le_trans h.size hs, fun i c t fr hi hw => (hc i c t fr hi hw).elim (h.cold i c t fr hi) id⟩
theorem Holds.to {w w' : World} {i : Nat} {x : Cel} (h : Holds w i x) (ho : w'.os = w.os ∧ w'.output = w.output) (hs : w.heap.size ≤ w'.heap.size)
    (hc : ∀ (i : Nat) (c : Array Value) (t : TypeId) (fr : Nat × Nat), w'.heap[i]? = some (Obj.cells c t fr) → w.heap[i]? = some (Obj.cells c t fr) ∨ fr = (0, 0)) (hk : ∀ k, i = k + 1 → w'.heap[k]? = w.heap[k]?) : Holds w' i x := by
  cases i with
  | zero =>
    cases x with
    | obj o => exact h.elim
    | gh os out n => exact Okg.to h ho hs fun i c t fr _ hw => hc i c t fr hw
  | succ k =>
    cases x with
    | obj o => exact (hk k rfl).trans h
    | gh os out n => exact h.elim
theorem size_of_some {w w' : World} (h : ∀ i, i < w.heap.size → (w'.heap[i]?).isSome = true) : w.heap.size ≤ w'.heap.size := by
  rcases Nat.lt_or_ge w'.heap.size w.heap.size with hlt | hge
  · have := h _ hlt
    simp at this
  · exact hge
/-- A world that differs at one block that may be written. -/
theorem Sat.write {w w' : World} {b : Nat} {o o' : Obj} {A : SP} (h : Sat w (sep (blk true b o) A)) (ho : w'.os = w.os ∧ w'.output = w.output) (hz : ∀ (c : Array Value) (t : TypeId) (fr : Nat × Nat), o' = Obj.cells c t fr → fr = (0, 0)) (hb : w'.heap[b]? = some o')
    (hr : ∀ i, i ≠ b → w'.heap[i]? = w.heap[i]?) : Sat w' (sep (blk true b o') A) := by
  obtain ⟨x, ⟨a, c, hc, ha, hA⟩, hf⟩ := h
  have hcb : c (b + 1) = none := by
    have := hc (b + 1)
    rw [ha (b + 1), if_pos rfl] at this
    unfold Cmp at this
    cases hcb : c (b + 1) with
    | none => rfl
    | some y => simp [hcb] at this
  have hsz : w.heap.size ≤ w'.heap.size := size_of_some fun i hi => by
    by_cases e : i = b
    · rw [e, hb]; rfl
    · rw [hr i e, Array.getElem?_eq_getElem hi]; rfl
  have hcold : ∀ (i : Nat) (c : Array Value) (t : TypeId) (fr : Nat × Nat), w'.heap[i]? = some (Obj.cells c t fr) → w.heap[i]? = some (Obj.cells c t fr) ∨ fr = (0, 0) := by
    intro i c t fr hw
    by_cases e : i = b
    · rw [e, hb] at hw
      exact .inr (hz c t fr (Option.some.inj hw))
    · rw [hr i e] at hw
      exact .inl hw
  refine ⟨fun i => if i = b + 1 then some (true, .obj o') else c i, ⟨fun i => if i = b + 1 then some (true, .obj o') else none, c, fun i => ?_, fun i => rfl, hA⟩, fun i m p hi => ?_⟩
  · by_cases hi : i = b + 1
    · subst hi; simp [Cmp, hcb]
    · simp [Cmp, hi]
  · by_cases hib : i = b + 1
    · subst hib
      simp at hi
      rw [← hi.2]
      exact hb
    · simp [hib] at hi
      have hci : x i = some (m, p) := by
        have := hc i
        rw [ha i, if_neg hib] at this
        exact this.trans hi
      exact Holds.to (hf i m p hci) ho hsz hcold fun k hk => hr k (by omega)
theorem Sat.lt {w : World} {h : Hp} (hf : Fits h w) {i : Nat} {x : Bool × Cel} (hi : h (i + 1) = some x) : i < w.heap.size := by
  have := hf (i + 1) x.1 x.2 hi
  cases hx : x.2 with
  | obj o =>
    rw [hx] at this
    exact (Array.getElem?_eq_some_iff.1 this).1
  | gh os out n =>
    rw [hx] at this
    exact this.elim
/-- A new block. -/
theorem Sat.new {w w' : World} {o : Obj} {A : SP} (h : Sat w A) (ho : w'.os = w.os ∧ w'.output = w.output) (hz : ∀ (c : Array Value) (t : TypeId) (fr : Nat × Nat), o = Obj.cells c t fr → fr = (0, 0)) (hs : w'.heap.size = w.heap.size + 1) (hb : w'.heap[w.heap.size]? = some o)
    (hr : ∀ i, i < w.heap.size → w'.heap[i]? = w.heap[i]?) : Sat w' (sep (blk true w.heap.size o) A) := by
  obtain ⟨c, hA, hf⟩ := h
  have hcb : c (w.heap.size + 1) = none := by
    cases hcb : c (w.heap.size + 1) with
    | none => rfl
    | some y => exact absurd (Sat.lt hf hcb) (Nat.lt_irrefl _)
  have hcold : ∀ (i : Nat) (c : Array Value) (t : TypeId) (fr : Nat × Nat), w'.heap[i]? = some (Obj.cells c t fr) → w.heap[i]? = some (Obj.cells c t fr) ∨ fr = (0, 0) := by
    intro i c t fr hw
    have hlt := (Array.getElem?_eq_some_iff.1 hw).1
    by_cases e : i = w.heap.size
    · rw [e, hb] at hw
      exact .inr (hz c t fr (Option.some.inj hw))
    · rw [hr i (by omega)] at hw
      exact .inl hw
  refine ⟨fun i => if i = w.heap.size + 1 then some (true, .obj o) else c i, ⟨fun i => if i = w.heap.size + 1 then some (true, .obj o) else none, c, fun i => ?_, fun i => rfl, hA⟩, fun i m p hi => ?_⟩
  · by_cases hi : i = w.heap.size + 1
    · subst hi; simp [Cmp, hcb]
    · simp [Cmp, hi]
  · by_cases hib : i = w.heap.size + 1
    · subst hib
      simp at hi
      rw [← hi.2]
      exact hb
    · simp [hib] at hi
      refine Holds.to (hf i m p hi) ho (by omega) hcold fun k hk => ?_
      subst hk
      exact hr k (Sat.lt hf hi)
/-- The same blocks, another world. -/
theorem Sat.same {w w' : World} {A : SP} (h : Sat w A) (ho : w'.os = w.os ∧ w'.output = w.output) (hr : w'.heap = w.heap) : Sat w' A := by
  obtain ⟨c, hA, hf⟩ := h
  exact ⟨c, hA, fun i m p hi => Holds.to (hf i m p hi) ho (by rw [hr]; exact Nat.le_refl _) (fun i c t fr hw => .inl (by rw [← hr]; exact hw)) fun k _ => by rw [hr]⟩
/-- What stays, told. -/
theorem Sat.ghost {w : World} {os : Os} {out : Array (Nat × ByteArray)} {n : Nat} {A : SP} (h : Sat w (sep (gho os out n) A)) : Okg w os out n := by
  obtain ⟨x, ha, hf⟩ := h.left
  exact hf 0 false (.gh os out n) (by rw [ha 0, if_pos rfl])
/-- What may be written is from now on only read. -/
theorem Sat.share {w : World} {b : Nat} {o : Obj} {A : SP} (h : Sat w (sep (blk true b o) A)) : Sat w (sep (blk false b o) A) := by
  obtain ⟨x, ⟨a, c, hc, ha, hA⟩, hf⟩ := h
  have hcb : c (b + 1) = none := by
    have := hc (b + 1)
    rw [ha (b + 1), if_pos rfl] at this
    unfold Cmp at this
    cases hcb : c (b + 1) with
    | none => rfl
    | some y => simp [hcb] at this
  refine ⟨fun i => if i = b + 1 then some (false, .obj o) else c i, ⟨fun i => if i = b + 1 then some (false, .obj o) else none, c, fun i => ?_, fun i => rfl, hA⟩, fun i m p hi => ?_⟩
  · by_cases hi : i = b + 1
    · subst hi; simp [Cmp, hcb]
    · simp [Cmp, hi]
  · have hxi := hc i
    rw [ha i] at hxi
    by_cases hib : i = b + 1
    · subst hib
      simp at hi
      rw [if_pos rfl] at hxi
      unfold Cmp at hxi
      rw [hcb] at hxi
      obtain ⟨rfl, rfl⟩ := hi
      exact hf _ true (.obj o) hxi
    · simp [hib] at hi
      rw [if_neg hib] at hxi
      exact hf i m p (hxi.trans hi)
/-- What is only read may be told twice. -/
theorem blk_dup (b : Nat) (o : Obj) : blk false b o = sep (blk false b o) (blk false b o) := by
  funext h
  apply propext
  constructor
  · intro hh
    refine ⟨h, h, fun i => ?_, hh, hh⟩
    rw [hh i]
    by_cases hi : i = b + 1 <;> simp [Cmp, hi]
  · rintro ⟨a, c, hc, ha, hb⟩ i
    have := hc i
    rw [ha i, hb i] at this
    by_cases hi : i = b + 1
    · simp [Cmp, hi] at this ⊢
      exact this
    · simp [Cmp, hi] at this ⊢
      exact this
end Go.Fw
