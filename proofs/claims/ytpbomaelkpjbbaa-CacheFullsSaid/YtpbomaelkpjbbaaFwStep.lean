import Derived.Test.YtpbomaelkpjbbaaFwApp
namespace Go.Fw
variable {P : Program} {n : Nat} {s : St} {y : Code} {Q : Exit → St → Prop} {I : Nat → St → Prop} {m i : Nat}
theorem Thn.normal (h : T P n y Q s) : Thn P n y Q .normal s := h
theorem Thn.ret (h : Q .ret s) : Thn P n y Q .ret s := h
theorem Thn.exit (h : Q (.exit i) s) : Thn P n y Q (.exit i) s := h
theorem Blk.normal (h : Q .normal s) : Blk i Q .normal s := h
theorem Blk.ret (h : Q .ret s) : Blk i Q .ret s := h
theorem Blk.exitE {k : Nat} (hk : (k == i) = true) (h : Q .normal s) : Blk i Q (.exit k) s := by simp only [Blk, hk, cond_true]; exact h
theorem Blk.exitN {k : Nat} (hk : (k == i) = false) (h : Q (.exit k) s) : Blk i Q (.exit k) s := by simp only [Blk, hk, cond_false]; exact h
theorem Rnd.ret (h : Q .ret s) : Rnd I m Q .ret s := h
theorem Rnd.exit (h : Q (.exit i) s) : Rnd I m Q (.exit i) s := h
theorem T.condT {c : Operand} {x : Code} (hc : s.ev c = .bool true := by simp only [St.ev, slk, Nat.reduceBEq, cond_true, cond_false]; first | done | rfl) (h : T P n x Q s) : T P n (.cond c x y) Q s := T.cond hc (fun _ => h) (fun h => by cases h)
theorem T.condF {c : Operand} {x : Code} (hc : s.ev c = .bool false := by simp only [St.ev, slk, Nat.reduceBEq, cond_true, cond_false]; first | done | rfl) (h : T P n y Q s) : T P n (.cond c x y) Q s := T.cond hc (fun h => by cases h) (fun _ => h)
theorem T.condD {c : Operand} {x : Code} {p : Prop} [Decidable p] (hc : s.ev c = .bool (decide p) := by simp only [St.ev, slk, Nat.reduceBEq, cond_true, cond_false]; first | done | rfl) (ht : p → T P n x Q s) (hf : ¬ p → T P n y Q s) : T P n (.cond c x y) Q s :=
  T.cond hc (fun h => ht (of_decide_eq_true h)) (fun h => hf (of_decide_eq_false h))
end Go.Fw
namespace Go.Fw
theorem RetQ.retI {P : Program} {n : Nat} {fn : Func} {F : SP} {post : Value → List SP → Prop} {s : St} {v : Value} {L C : List SP} (hr : ResIs P n fn s v) (hp : Picks (L ++ [F]) s.A C) (hq : post v L) : RetQ P n fn F post .ret s := ⟨v, L, C, hr, hp, hq⟩
theorem RetQ.norI {P : Program} {n : Nat} {fn : Func} {F : SP} {post : Value → List SP → Prop} {s : St} {v : Value} {L C : List SP} (hr : ResIs P n fn s v) (hp : Picks (L ++ [F]) s.A C) (hq : post v L) : RetQ P n fn F post .normal s := ⟨v, L, C, hr, hp, hq⟩
end Go.Fw

namespace Go.Fw
variable {P : Program} {n : Nat}
/-- What is told of some slots is so. -/
inductive AllIs (j : Nat → Value) (l : List (Nat × Value)) : List (Nat × Value) → Prop where
  | nil : AllIs j l []
  | cons {d : Nat} {v : Value} {r : List (Nat × Value)} (h : slk j l d = v) (t : AllIs j l r) : AllIs j l ((d, v) :: r)
theorem AllIs.over {j : Nat → Value} {l l0 : List (Nat × Value)} (h : AllIs j l l0) : ∀ k, slk j l k = slk (slk j l) l0 k := by
  induction h with
  | nil => intro k; rfl
  | @cons d v r h _ ih =>
    intro k
    simp only [slk]
    by_cases e : k = d
    · subst e; simp [h]
    · have e' : (k == d) = false := by simpa using e
      rw [e', cond_false]
      exact ih k
def RndI (I : Nat → List (Nat × Value) → List SP → Prop) (m : Nat) (Q : Exit → St → Prop) : Exit → St → Prop
  | .normal, s => ∃ m' l' A' C, m' < m ∧ I m' l' A' ∧ AllIs s.j s.l l' ∧ Picks A' s.A C
  | e, s => Q e s
theorem Picks.weak {A B C : List SP} (h : Picks B A C) {w : World} (hs : Sat w (seps A)) : Sat w (seps B) := by
  rw [h.eq] at hs
  exact hs.left
theorem T.to {c : Code} {Q : Exit → St → Prop} {l l0 : List (Nat × Value)} {j : Nat → Value} {A A0 C : List SP} (hl : AllIs j l l0) (hA : Picks A0 A C) (h : ∀ j', T P n c Q ⟨l0, j', A0⟩) : T P n c Q ⟨l, j, A⟩ :=
  T.conv (s' := ⟨l0, slk j l, A0⟩) (h _) hl.over fun _ hs => hA.weak hs
theorem T.loopI {c : Code} {Q : Exit → St → Prop} {l l0 : List (Nat × Value)} {j : Nat → Value} {A A0 C : List SP} (I : Nat → List (Nat × Value) → List SP → Prop) {m : Nat} (h0 : I m l0 A0) (hl : AllIs j l l0) (hA : Picks A0 A C)
    (round : ∀ m l A j, I m l A → T P n c (RndI I m Q) ⟨l, j, A⟩) : T P n (.loop c) Q ⟨l, j, A⟩ := by
  refine T.loop (fun m s => ∃ l0 A0 C, I m l0 A0 ∧ AllIs s.j s.l l0 ∧ Picks A0 s.A C) ?_ (m := m) ⟨l0, A0, C, h0, hl, hA⟩
  rintro m ⟨l, j, A⟩ ⟨l0, A0, C, h0, hl, hA⟩
  refine T.mono (T.to hl hA fun j' => round m l0 A0 j' h0) ?_
  intro e s hq
  cases e with
  | normal => obtain ⟨m', l', A', C', h1, h2, h3, h4⟩ := hq; exact ⟨m', h1, l', A', C', h2, h3, h4⟩
  | _ => exact hq
theorem RndI.ret {I : Nat → List (Nat × Value) → List SP → Prop} {m : Nat} {Q : Exit → St → Prop} {s : St} (h : Q .ret s) : RndI I m Q .ret s := h
theorem RndI.exit {I : Nat → List (Nat × Value) → List SP → Prop} {m i : Nat} {Q : Exit → St → Prop} {s : St} (h : Q (.exit i) s) : RndI I m Q (.exit i) s := h
theorem RndI.next {I : Nat → List (Nat × Value) → List SP → Prop} {m m' : Nat} {Q : Exit → St → Prop} {l l' : List (Nat × Value)} {j : Nat → Value} {A A' C : List SP} (hm : m' < m) (hI : I m' l' A') (hl : AllIs j l l') (hA : Picks A' A C) :
    RndI I m Q .normal ⟨l, j, A⟩ := ⟨m', l', A', C, hm, hI, hl, hA⟩
end Go.Fw
