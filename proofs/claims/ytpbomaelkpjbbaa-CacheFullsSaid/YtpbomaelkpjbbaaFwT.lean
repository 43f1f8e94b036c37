import Derived.Test.YtpbomaelkpjbbaaFwSep
import Derived.Orders
namespace Go.Fw

/-! the state of a walk: what the slots hold, what is known of memory -/
def slk (j : Nat → Value) : List (Nat × Value) → Nat → Value
  | [], k => j k
  | p :: l, k => bif k == p.1 then p.2 else slk j l k

structure St where
  l : List (Nat × Value)
  j : Nat → Value
  A : List SP

def St.ev (s : St) : Operand → Value
  | .tmp t => slk s.j s.l t
  | .const v => v
  | .global g => .pointer (some ⟨g, 0, none⟩)
  | .func f => .func (.func f) #[] #[]

structure Fr (n : Nat) (s : St) (a : Act) : Prop where
  defers : a.defers = []
  size : a.tmps.size = n
  slots : ∀ k, a.tmps.getD k undef = slk s.j s.l k

variable {P : Program} {n : Nat}

theorem Fr.eval {s : St} {a : Act} (h : Fr n s a) : a.eval = s.ev := by
  funext x
  cases x with
  | tmp t => exact h.slots t
  | _ => rfl
theorem Fr.put {l : List (Nat × Value)} {j : Nat → Value} {A : List SP} {a : Act} (h : Fr n ⟨l, j, A⟩ a) {d : Nat} {v : Value} (hd : Nat.blt d n = true) (A' : List SP) :
    Fr n ⟨(d, v) :: l, j, A'⟩ (a.put (some d) v) := by
  have hd' : d < a.tmps.size := by rw [h.size]; simpa using hd
  refine ⟨h.defers, by simp [Act.put, h.size], fun k => ?_⟩
  have hk := h.slots k
  simp only [Act.put, slk]
  by_cases e : k = d
  · subst e
    simp [hd']
  · have e' : d ≠ k := fun x => e x.symm
    have e2 : (k == d) = false := by simpa using e
    rw [e2, cond_false]
    simp only [Array.getD_eq_getD_getElem?, Array.getElem?_setIfInBounds_ne e'] at hk ⊢
    exact hk
theorem Fr.atoms {l : List (Nat × Value)} {j : Nat → Value} {A : List SP} {a : Act} (h : Fr n ⟨l, j, A⟩ a) (A' : List SP) : Fr n ⟨l, j, A'⟩ a := ⟨h.defers, h.size, h.slots⟩

/-- A post over states, as one over frames and worlds. -/
def lft (n : Nat) (Q : Exit → St → Prop) : Exit → Act → World → Prop := fun e a w => ∃ s, Fr n s a ∧ Sat w (seps s.A) ∧ Q e s

def T (P : Program) (n : Nat) (c : Code) (Q : Exit → St → Prop) (s : St) : Prop := ∀ a w, Fr n s a → Sat w (seps s.A) → c.wp P (lft n Q) a w
def TL (P : Program) (n : Nat) (ops : Array Oper) (Q : Exit → St → Prop) (r : List Oper) (s : St) : Prop :=
  ∀ a w, Fr n s a → Sat w (seps s.A) → wpList P ops (lft n Q) r a w

def Thn (P : Program) (n : Nat) (y : Code) (Q : Exit → St → Prop) : Exit → St → Prop
  | .normal, s => T P n y Q s
  | e, s => Q e s
def Blk (id : Nat) (Q : Exit → St → Prop) : Exit → St → Prop
  | .exit i, s => bif i == id then Q .normal s else Q (.exit i) s
  | e, s => Q e s

theorem T.seq {x y : Code} {Q : Exit → St → Prop} {s : St} (h : T P n x (Thn P n y Q) s) : T P n (.seq x y) Q s := by
  intro a w hf hs
  refine wp_seq (wp_mono (h a w hf hs) ?_)
  rintro e a w ⟨s, hf, hs, hq⟩
  cases e <;> first | exact hq a w hf hs | exact ⟨s, hf, hs, hq⟩
theorem T.skip {Q : Exit → St → Prop} {s : St} (h : Q .normal s) : T P n .skip Q s := fun _ _ hf hs => wp_skip ⟨s, hf, hs, h⟩
theorem T.label {i : Nat} {Q : Exit → St → Prop} {s : St} (h : Q .normal s) : T P n (.label i) Q s := fun _ _ hf hs => wp_label ⟨s, hf, hs, h⟩
theorem T.exit {i : Nat} {Q : Exit → St → Prop} {s : St} (h : Q (.exit i) s) : T P n (.exit i) Q s := fun _ _ hf hs => wp_exit ⟨s, hf, hs, h⟩
theorem T.ret {Q : Exit → St → Prop} {s : St} (h : Q .ret s) : T P n .ret Q s := fun _ _ hf hs => wp_ret ⟨s, hf, hs, h⟩
theorem T.block {i : Nat} {c : Code} {Q : Exit → St → Prop} {s : St} (h : T P n c (Blk i Q) s) : T P n (.block i c) Q s := by
  intro a w hf hs
  refine wp_block (wp_mono (h a w hf hs) ?_)
  rintro e a w ⟨s, hf, hs, hq⟩
  cases e with
  | exit id' =>
    simp only [Exit.inBlock, Blk] at *
    by_cases hid : id' = i
    · subst hid
      rw [if_pos rfl]
      exact ⟨s, hf, hs, by simpa using hq⟩
    · rw [if_neg hid]
      have : (id' == i) = false := by simpa using hid
      rw [this] at hq
      exact ⟨s, hf, hs, hq⟩
  | _ => exact ⟨s, hf, hs, hq⟩
theorem T.cond {c : Operand} {x y : Code} {Q : Exit → St → Prop} {s : St} {b : Bool} (hc : s.ev c = .bool b) (ht : b = true → T P n x Q s)
    (hf : b = false → T P n y Q s) : T P n (.cond c x y) Q s := by
  intro a w hfr hs
  refine wp_cond_split (t := b) (by rw [hfr.eval]; exact hc) (fun h => ht h a w hfr hs) (fun h => hf h a w hfr hs)
theorem T.mono {c : Code} {Q Q' : Exit → St → Prop} {s : St} (h : T P n c Q s) (hq : ∀ e s, Q e s → Q' e s) : T P n c Q' s :=
  fun a w hf hs => wp_mono (h a w hf hs) fun _ _ _ ⟨s, hf, hs, q⟩ => ⟨s, hf, hs, hq _ s q⟩
/-- Another spelling of the same state. -/
theorem T.conv {c : Code} {Q : Exit → St → Prop} {s s' : St} (h : T P n c Q s') (hl : ∀ k, slk s.j s.l k = slk s'.j s'.l k)
    (hA : ∀ w, Sat w (seps s.A) → Sat w (seps s'.A)) : T P n c Q s :=
  fun a w hf hs => h a w ⟨hf.defers, hf.size, fun k => (hf.slots k).trans (hl k)⟩ (hA w hs)

theorem wp_loop_nat {c : Code} {Q : Exit → Act → World → Prop} (I : Nat → Act → World → Prop)
    (round : ∀ m a w, I m a w → c.wp P (Exit.then (fun a' w' => ∃ m', m' < m ∧ I m' a' w') Q) a w) {m : Nat} {a : Act} {w : World} (h₀ : I m a w) : (Code.loop c).wp P Q a w := by
  intro b k cs
  have key : ∀ n a w, I n a w →
      ∃ e a' w', Q e a' w' ∧ Arrives P (lone (b.at a (.code c :: .inLoop c :: k)) cs w) b k cs e a' w' := by
    intro n
    induction n using Nat.strongRecOn with
    | _ n ih =>
      intro a w hI
      obtain ⟨e, a₁, w₁, hq, harr⟩ := round n a w hI b (.inLoop c :: k) cs
      cases e with
      | normal =>
        obtain ⟨m', hlt, hI₁⟩ := hq
        obtain ⟨e₂, a₂, w₂, hq₂, harr₂⟩ := ih m' hlt a₁ w₁ hI₁
        exact ⟨e₂, a₂, w₂, hq₂, .of_steps (Steps.trans harr (.one step_inLoop)) harr₂⟩
      | exit id => exact ⟨_, a₁, w₁, hq, .pass (x := .inLoop c) rfl (fun _ _ => .inl (by simp)) harr⟩
      | goto l => exact ⟨_, a₁, w₁, hq, .pass (x := .inLoop c) rfl (fun _ _ => .inl (by simp)) harr⟩
      | ret => exact ⟨_, a₁, w₁, hq, .pass (x := .inLoop c) rfl (fun _ _ => .inl (by simp)) harr⟩
      | panic ch => exact ⟨_, a₁, w₁, hq, .pass (x := .inLoop c) rfl (fun _ _ => .inl (by simp)) harr⟩
      | outgrown => exact ⟨_, a₁, w₁, hq, .pass (x := .inLoop c) rfl (fun _ _ => .inl (by simp)) harr⟩
  obtain ⟨e, a', w', hq, harr⟩ := key _ a w h₀
  exact ⟨e, a', w', hq, .of_steps (.one step_loop) harr⟩

/-- A round's post: another round with less to do, or out. -/
def Rnd (I : Nat → St → Prop) (m : Nat) (Q : Exit → St → Prop) : Exit → St → Prop
  | .normal, s => ∃ m', m' < m ∧ I m' s
  | e, s => Q e s
theorem T.loop {c : Code} {Q : Exit → St → Prop} (I : Nat → St → Prop) (round : ∀ m s, I m s → T P n c (Rnd I m Q) s) {m : Nat} {s : St} (h₀ : I m s) : T P n (.loop c) Q s := by
  intro a w hf hs
  refine wp_loop_nat (fun m a w => ∃ s, Fr n s a ∧ Sat w (seps s.A) ∧ I m s) ?_ (m := m) ⟨s, hf, hs, h₀⟩
  rintro m a w ⟨s, hf, hs, hI⟩
  refine wp_mono (round m s hI a w hf hs) ?_
  rintro e a w ⟨s, hf, hs, hq⟩
  cases e with
  | normal => obtain ⟨m', hlt, hI'⟩ := hq; exact ⟨m', hlt, s, hf, hs, hI'⟩
  | _ => exact ⟨s, hf, hs, hq⟩

theorem T.region {i : Nat} {ops : List Oper} {Q : Exit → St → Prop} {s : St} (h : TL P n ops.toArray Q ops s) : T P n (.region i ops.toArray false) Q s :=
  fun a w hf hs => wp_region_lit (h a w hf hs)
theorem TL.nil {ops : Array Oper} {Q : Exit → St → Prop} {s : St} (h : Q .normal s) : TL P n ops Q [] s := fun _ _ hf hs => wpList_nil ⟨s, hf, hs, h⟩

/-! one operation -/
section
variable {ops : Array Oper} {Q : Exit → St → Prop} {l : List (Nat × Value)} {j : Nat → Value} {A : List SP} {r : List Oper} {o : Oper}
theorem TL.step (hg : o.guard = none)
    (h : ∀ a w, Fr n ⟨l, j, A⟩ a → Sat w (seps A) → ∀ K : Act → World → Prop, (∀ a w, wpList P ops (lft n Q) r a w → K a w) → o.upon P a K (lft n Q) ((execOp (St.ev ⟨l, j, A⟩) o).run P w)) :
    TL P n ops Q (o :: r) ⟨l, j, A⟩ := by
  intro a w hf hs
  refine wpList_plain hg fun K hK => ?_
  unfold Oper.wp
  rw [hf.eval]
  exact h a w hf hs K hK
/-- An operation that turns nothing in memory. -/
theorem TL.val {d : Nat} {v : Value} (hg : o.guard = none) (ho : o.dst = some d) (hd : Nat.blt d n = true)
    (hr : ∀ w, Sat w (seps A) → (execOp (St.ev ⟨l, j, A⟩) o).run P w = .ok (.value v) w) (k : TL P n ops Q r ⟨(d, v) :: l, j, A⟩) : TL P n ops Q (o :: r) ⟨l, j, A⟩ := by
  refine TL.step hg fun a w hf hs K hK => ?_
  rw [hr w hs]
  refine hK _ _ ?_
  rw [ho]
  exact k _ _ (hf.put hd A) hs
/-- An operation that yields a value and turns memory. -/
theorem TL.eff {d : Nat} {v : World → Value} {A' : World → List SP} (hg : o.guard = none) (ho : o.dst = some d) (hd : Nat.blt d n = true)
    (hr : ∀ w, Sat w (seps A) → ∃ w', (execOp (St.ev ⟨l, j, A⟩) o).run P w = .ok (.value (v w)) w' ∧ Sat w' (seps (A' w)))
    (k : ∀ w, TL P n ops Q r ⟨(d, v w) :: l, j, A' w⟩) : TL P n ops Q (o :: r) ⟨l, j, A⟩ := by
  refine TL.step hg fun a w hf hs K hK => ?_
  obtain ⟨w', hw, hs'⟩ := hr w hs
  rw [hw]
  refine hK _ _ ?_
  rw [ho]
  exact k w _ _ (hf.put hd (A' w)) hs'
/-- An operation that yields nothing and turns memory. -/
theorem TL.unit {A' : List SP} (hg : o.guard = none) (ho : o.dst = none)
    (hr : ∀ w, Sat w (seps A) → ∃ w', (execOp (St.ev ⟨l, j, A⟩) o).run P w = .ok .skip w' ∧ Sat w' (seps A')) (k : TL P n ops Q r ⟨l, j, A'⟩) : TL P n ops Q (o :: r) ⟨l, j, A⟩ := by
  refine TL.step hg fun a w hf hs K hK => ?_
  obtain ⟨w', hw, hs'⟩ := hr w hs
  rw [hw]
  refine hK _ _ ?_
  rw [ho]
  exact k _ _ (hf.atoms A') hs'
/-- An operation whose guard says no. -/
theorem TL.passed {d : Nat} {i : Nat} {b c : Bool} {g : Nat} (hg : o.guard = some (i, b)) (ho : o.dst = some d) (hd : Nat.blt d n = true)
    (hi : (ops[i]?).bind (·.dst) = some g) (ht : Nat.blt g n = true) (hv : slk j l g = .bool c) (hne : (c == b) = false)
    (k : TL P n ops Q r ⟨(d, undef) :: l, j, A⟩) : TL P n ops Q (o :: r) ⟨l, j, A⟩ := by
  intro a w hf hs
  refine wpList_step fun K hK => ?_
  have hy : yielded ops a.tmps i = some c := by
    have hgl : g < a.tmps.size := by rw [hf.size]; simpa using ht
    have := hf.slots g
    rw [hv] at this
    unfold yielded
    rw [hi]
    simp only [Option.bind_some]
    rw [Array.getD_eq_getD_getElem?, Array.getElem?_eq_getElem hgl] at this
    rw [Array.getElem?_eq_getElem hgl]
    simp only [Option.getD_some] at this
    rw [this]
  have : Region.wanted o (yielded ops a.tmps) = false := by
    unfold Region.wanted
    rw [hg]
    simp only [hy]
    cases b <;> cases c <;> simp_all
  rw [this]
  simp only [Bool.false_eq_true, if_false]
  refine hK _ _ ?_
  rw [ho]
  exact k _ _ (hf.put hd A) hs
/-- An operation whose guard says yes: as one without a guard. -/
theorem TL.taken {i : Nat} {b c : Bool} {g : Nat} (hg : o.guard = some (i, b))
    (hi : (ops[i]?).bind (·.dst) = some g) (ht : Nat.blt g n = true) (hv : slk j l g = .bool c) (hne : (c == b) = true)
    (k : TL P n ops Q ({ o with guard := none } :: r) ⟨l, j, A⟩) : TL P n ops Q (o :: r) ⟨l, j, A⟩ := by
  intro a w hf hs
  have h1 := k a w hf hs
  have hy : yielded ops a.tmps i = some c := by
    have hgl : g < a.tmps.size := by rw [hf.size]; simpa using ht
    have := hf.slots g
    rw [hv] at this
    unfold yielded
    rw [hi]
    simp only [Option.bind_some]
    rw [Array.getD_eq_getD_getElem?, Array.getElem?_eq_getElem hgl] at this
    rw [Array.getElem?_eq_getElem hgl]
    simp only [Option.getD_some] at this
    rw [this]
  have hw : Region.wanted o (yielded ops a.tmps) = true := by
    unfold Region.wanted
    rw [hg]
    simp only [hy]
    cases b <;> cases c <;> simp_all
  have hw' : Region.wanted { o with guard := none } (yielded ops a.tmps) = true := rfl
  unfold wpList at h1 ⊢
  rw [if_pos hw'] at h1
  rw [if_pos hw]
  exact h1
end

/-! calls -/
/-- Called so, where memory is so, it returns, and memory is so. -/
def Ctr (P : Program) (f : FuncId) (args : Array Value) (pre : List SP) (post : Value → List SP → Prop) : Prop :=
  ∀ (F : SP) (w : World), Sat w (seps (pre ++ [F])) → Calls P f args w fun e w' => ∃ v L, e = .returned v ∧ Sat w' (seps (L ++ [F])) ∧ post v L

theorem Ctr.mono {f : FuncId} {args : Array Value} {pre : List SP} {post post' : Value → List SP → Prop} (h : Ctr P f args pre post) (hp : ∀ v L, post v L → post' v L) : Ctr P f args pre post' :=
  fun F w hs => (h F w hs).mono fun _ _ ⟨v, L, he, hs, hq⟩ => ⟨v, L, he, hs, hp v L hq⟩

/-- p is one of L; the others are M. -/
inductive Pick : SP → List SP → List SP → Prop where
  | here {p : SP} {L : List SP} : Pick p (p :: L) L
  | there {p q : SP} {L M : List SP} (h : Pick p L M) : Pick p (q :: L) (q :: M)
inductive Picks : List SP → List SP → List SP → Prop where
  | nil {L : List SP} : Picks [] L L
  | cons {p : SP} {ps L M N : List SP} (h : Pick p L M) (k : Picks ps M N) : Picks (p :: ps) L N
theorem Pick.eq {p : SP} {L M : List SP} (h : Pick p L M) : seps L = sep p (seps M) := by
  induction h with
  | here => rfl
  | there _ ih => simp only [Fw.seps, ih]; rw [sep_left_comm]
theorem Picks.eq {ps L M : List SP} (h : Picks ps L M) : seps L = sep (seps ps) (seps M) := by
  induction h with
  | nil => rw [Fw.seps, emp_sep]
  | cons h _ ih => rw [h.eq, ih, Fw.seps, sep_assoc]
theorem Picks.sat {ps L M : List SP} (h : Picks ps L M) {w : World} (hs : Sat w (Fw.seps L)) : Sat w (Fw.seps (ps ++ [Fw.seps M])) := by
  rw [seps_append, Fw.seps, Fw.seps, sep_emp, ← h.eq]
  exact hs
theorem seps_flat (L M : List SP) : seps (L ++ [seps M]) = seps (L ++ M) := by
  rw [seps_append, seps_append, seps, seps, sep_emp]

section
variable {ops : Array Oper} {Q : Exit → St → Prop} {l : List (Nat × Value)} {j : Nat → Value} {A : List SP} {r : List Oper}
theorem run_callFunc {f : FuncId} {fn : Func} {args : Array Value} (w : World) (hf : P.funcs[f]? = some fn) (hb : fn.body.isSome = true) (hn : (fn.name == "runtime.NumGoroutine") = false) :
    (callFunc f args).run P w = .ok (.enter f args) w := by
  unfold callFunc
  have hb' : fn.body.isNone = false := by cases h : fn.body <;> simp_all
  simp only [Sem.run_bind, run_program, Result.andThen_ok, hf, hn, hb']
  rfl
/-- A function of which it is known that it can be entered. -/
class Ent1 (P : Program) (f : FuncId) : Prop where
  h : ∃ fn, P.funcs[f]? = some fn ∧ fn.body.isSome = true ∧ (fn.name == "runtime.NumGoroutine") = false
theorem run_enter {f : FuncId} [h : Ent1 P f] {args : Array Value} (w : World) : (callFunc f args).run P w = .ok (.enter f args) w := by
  obtain ⟨fn, h1, h2, h3⟩ := h.h
  exact run_callFunc w h1 h2 h3
theorem TL.enter {o : Oper} {d : Nat} {f : FuncId} {args : Array Value} {pre rest : List SP} {post : Value → List SP → Prop} (hg : o.guard = none) (ho : o.dst = some d) (hd : Nat.blt d n = true)
    (hr : ∀ w, (execOp (St.ev ⟨l, j, A⟩) o).run P w = .ok (.enter f args) w) (h : Ctr P f args pre post) (hp : Picks pre A rest)
    (k : ∀ v L, post v L → TL P n ops Q r ⟨(d, v) :: l, j, L ++ rest⟩) : TL P n ops Q (o :: r) ⟨l, j, A⟩ := by
  refine TL.step hg fun a w hf hs K hK => ?_
  rw [hr w]
  rw [Oper.upon_enter]
  refine (h (seps rest) w (hp.sat hs)).mono ?_
  rintro e w' ⟨v, L, rfl, hs', hq⟩
  refine hK _ _ ?_
  rw [ho]
  rw [seps_flat] at hs'
  exact k v L hq _ _ (hf.put hd (L ++ rest)) hs'
/-- A call of a function that the text names. -/
theorem TL.call {d : Nat} {f : FuncId} [Ent1 P f] {xs : Array Operand} {ats : Array TypeId} {ty : TypeId} {pos : String} {af : Array Edge} {args : Array Value} {pre rest : List SP} {post : Value → List SP → Prop}
    (h : Ctr P f args pre post) (ha : xs.map (St.ev ⟨l, j, A⟩) = args) (hd : Nat.blt d n = true) (hp : Picks pre A rest)
    (k : ∀ v L, post v L → TL P n ops Q r ⟨(d, v) :: l, j, L ++ rest⟩) :
    TL P n ops Q ({ dst := some d, op := .call { callee := .value (.func f), args := xs, argTypes := ats }, type := ty, pos := pos, after := af, guard := none } :: r) ⟨l, j, A⟩ :=
  TL.enter rfl rfl hd (fun w => by
    have : execOp (St.ev ⟨l, j, A⟩) { dst := some d, op := .call { callee := .value (.func f), args := xs, argTypes := ats }, type := ty, pos := pos, after := af, guard := none } = callFunc f (#[] ++ xs.map (St.ev ⟨l, j, A⟩) ++ #[]) := rfl
    rw [this, ha, Array.empty_append, Array.append_empty]
    exact run_enter w) h hp k
/-- What is known no more. -/
theorem TL.drop {B : List SP} {r : List Oper} (hp : ∃ C, Picks B A C) (k : TL P n ops Q r ⟨l, j, B⟩) : TL P n ops Q r ⟨l, j, A⟩ := by
  obtain ⟨C, hp⟩ := hp
  intro a w hf hs
  refine k a w (hf.atoms B) ?_
  rw [hp.eq] at hs
  exact hs.left
end

/-! a function's body -/
/-- What the result variables give. -/
def ResIs (P : Program) (n : Nat) (fn : Func) (s : St) (v : Value) : Prop := ∀ a w, Fr n s a → Sat w (seps s.A) → (results fn a.tmps).run P w = .ok v w
def RetQ (P : Program) (n : Nat) (fn : Func) (F : SP) (post : Value → List SP → Prop) : Exit → St → Prop
  | .normal, s | .ret, s => ∃ v L C, ResIs P n fn s v ∧ Picks (L ++ [F]) s.A C ∧ post v L
  | _, _ => False
theorem Ctr.of {f : FuncId} {fn : Func} {c : Code} {args : List Value} {pre : List SP} {post : Value → List SP → Prop} (hf : P.funcs[f]? = some fn) (hb : fn.body = some c) (hn : fn.ntmps = n)
    (ha : Nat.ble args.length n = true) (h : ∀ F, T P n c (RetQ P n fn F post) ⟨args.zipIdx.map (fun p => (p.2, p.1)), fun _ => undef, pre ++ [F]⟩) : Ctr P f args.toArray pre post := by
  intro F w hs
  refine calls_of_wp hf hb ?_
  rw [hn]
  have ha' : args.length ≤ n := by simpa using ha
  have hlook : ∀ (l : List Value) (b k : Nat), slk (fun _ => undef) ((l.zipIdx b).map fun p => (p.2, p.1)) k = if b ≤ k then (l[k - b]?).getD undef else undef := by
    intro l
    induction l with
    | nil => intro b k; simp [slk]
    | cons x l ih =>
      intro b k
      simp only [List.zipIdx_cons, List.map_cons, slk]
      rw [ih]
      by_cases hk : k = b
      · subst hk; simp
      · have : (k == b) = false := by simpa using hk
        rw [this, cond_false]
        by_cases hb : b ≤ k
        · rw [if_pos hb, if_pos (by omega)]
          have : k - b = (k - (b + 1)) + 1 := by omega
          rw [this, List.getElem?_cons_succ]
        · rw [if_neg hb, if_neg (by omega)]
  refine wp_mono (h F { tmps := args.toArray ++ Array.replicate (n - args.toArray.size) undef, defers := [] } w ⟨rfl, by simp; omega, fun k => ?_⟩ hs) ?_
  · rw [hlook]
    simp only [Nat.zero_le, if_true, Nat.sub_zero]
    rw [Array.getD_eq_getD_getElem?, Array.getElem?_append]
    by_cases hk : k < args.length
    · simp [hk]
    · simp only [List.size_toArray, hk, if_false, List.getElem?_eq_none (Nat.le_of_not_lt hk)]
      rw [Array.getElem?_replicate]
      split <;> rfl
  · rintro e a w' ⟨s, hfr, hs', hq⟩
    cases e with
    | normal =>
      obtain ⟨v, L, C, hr, hp, hpost⟩ := hq
      refine ⟨hfr.defers, v, hr a w' hfr hs', v, L, rfl, ?_, hpost⟩
      rw [hp.eq] at hs'
      exact hs'.left
    | ret =>
      obtain ⟨v, L, C, hr, hp, hpost⟩ := hq
      refine ⟨hfr.defers, v, hr a w' hfr hs', v, L, rfl, ?_, hpost⟩
      rw [hp.eq] at hs'
      exact hs'.left
    | _ => exact hq.elim
theorem ResIs.tmp {fn : Func} {s : St} {t : Tmp} {v : Value} (hr : fn.results = #[.tmp t]) (hv : slk s.j s.l t = v) : ResIs P n fn s v := by
  intro a w hf _
  rw [results_tmp hr, hf.slots, hv]
theorem ResIs.tmp2 {fn : Func} {s : St} {t u : Tmp} {v x : Value} (hr : fn.results = #[.tmp t, .tmp u]) (hv : slk s.j s.l t = v) (hx : slk s.j s.l u = x) : ResIs P n fn s (.tuple #[v, x]) := by
  intro a w hf _
  rw [results_tmp2 hr, hf.slots, hf.slots, hv, hx]
theorem ResIs.none {fn : Func} {s : St} (hr : fn.results = #[]) : ResIs P n fn s (.tuple #[]) := by
  intro a w hf _
  rw [results_none hr]
end Go.Fw
