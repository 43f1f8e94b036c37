import Derived.Test.YtpbomaelkpjbbaaFwStep
namespace Go.Fw
variable {P : Program} {n : Nat}

/-- An operation, run from a state: what it yields, and memory behind it. -/
def OpK (P : Program) (s : St) (o : Oper) (K : Value → List SP → Prop) : Prop :=
  ∀ w, Sat w (seps s.A) → ∀ (a : Act) (next : Act → World → Prop) (Q : Exit → Act → World → Prop),
    (∀ v L w', Sat w' (seps L) → K v L → next (a.put o.dst v) w') → o.upon P a next Q ((execOp s.ev o).run P w)
theorem OpK.ofV {s : St} {o : Oper} {v : Value} (h : OpV P s o v) : OpK P s o fun u L => u = v ∧ L = s.A := fun w hs a next Q k => by
  rw [h w hs]
  exact k v s.A w hs ⟨rfl, rfl⟩
theorem OpK.ofE {s : St} {o : Oper} {K : Value → List SP → Prop} (h : OpE P s o K) : OpK P s o K := fun w hs a next Q k => by
  obtain ⟨v, w', L, hr, hs', hk⟩ := h w hs
  rw [hr]
  exact k v L w' hs' hk
theorem OpK.ofU {s : St} {o : Oper} {L : List SP} (h : OpU P s o L) : OpK P s o fun u M => u = undef ∧ M = L := fun w hs a next Q k => by
  obtain ⟨w', hr, hs'⟩ := h w hs
  rw [hr]
  exact k undef L w' hs' ⟨rfl, rfl⟩
theorem OpK.call {s : St} {dst : Option Tmp} {f : FuncId} [c : CallE P f] {xs : Array Operand} {ats : Array TypeId} {ty : TypeId} {pos : String} {af : Array Edge} {g : Option (Nat × Bool)} {args : Array Value} {pre rest : List SP} {post : Value → List SP → Prop}
    (h : Ctr P f args pre post) (ha : xs.map (St.ev s) = args := by simp only [List.map_toArray, List.map_cons, List.map_nil, St.ev, slk, Nat.reduceBEq, cond_true, cond_false]; first | done | rfl) (hp : Picks pre s.A rest := by (repeat (first | exact Picks.nil | (apply Picks.cons; (repeat (first | exact Pick.here | apply Pick.there))))); done) :
    OpK P s { dst := dst, op := .call { callee := .value (.func f), args := xs, argTypes := ats }, type := ty, pos := pos, after := af, guard := g } fun v M => ∃ L, M = L ++ rest ∧ post v L := fun w hs a next Q k => by
  have : execOp s.ev { dst := dst, op := .call { callee := .value (.func f), args := xs, argTypes := ats }, type := ty, pos := pos, after := af, guard := g } = callFunc f (#[] ++ xs.map s.ev ++ #[]) := rfl
  rw [this, ha, Array.empty_append, Array.append_empty, c.h, Oper.upon_enter]
  refine (h (seps rest) w (hp.sat hs)).mono ?_
  rintro e w' ⟨v, L, rfl, hs', hq⟩
  rw [seps_flat] at hs'
  exact k v (L ++ rest) w' hs' ⟨L, rfl, hq⟩

def edgesOf (ops : Array Oper) (i : Nat) : List Nat := match ops[i]? with
  | some o => (o.after.toList.filter (Region.binds .any)).map (·.on)
  | none => []
def dstOf (ops : Array Oper) (i : Nat) : Option Nat := (ops[i]?).bind (·.dst)
def looksOf (ops : Array Oper) (i : Nat) : List Nat := match ops[i]? with
  | some o => o.looksAt ops
  | none => []
def noSel (o : Oper) : Bool := match o.op with | .select .. => false | _ => true
/-- Does the guard want it, as the slots stand? -/
def want (ops : Array Oper) (s : St) (o : Oper) : Bool := Region.wanted o fun k => match dstOf ops k with
  | some d => match slk s.j s.l d with | .bool b => some b | _ => none
  | none => none
/-- What a quiet operation comes to, whenever it is run while R stands. -/
def Ylds (P : Program) (ops : Array Oper) (s : St) (R : List SP) (o : Oper) (v : Value) : Prop :=
  (want ops s o = true ∧ ∀ w, Sat w (seps R) → (execOp s.ev o).run P w = .ok (.value v) w) ∨ (want ops s o = false ∧ v = undef)

structure Inv (P : Program) (n : Nat) (ops : Array Oper) (D : List Nat) (pend : List (Nat × List SP)) (s : St) (listed : Array Bool) (a : Act) (w : World) : Prop where
  size : listed.size = ops.size
  sub : ∀ i, listed.getD i false = true → i ∈ D
  rest : ∀ i ∈ D, listed.getD i false = true ∨ ∃ R, (i, R) ∈ pend
  low : ∀ i, listed.getD i false = true → ∀ e ∈ edgesOf ops i, listed.getD e false = true
  defers : a.defers = []
  tmps : a.tmps.size = n
  slots : ∀ k, (∀ i ∈ D, listed.getD i false = false → dstOf ops i ≠ some k) → a.tmps.getD k undef = slk s.j s.l k
  sat : Sat w (seps s.A)
  held : ∀ x ∈ pend, ∃ C, Picks x.2 s.A C
  ylds : ∀ x ∈ pend, x.1 ∈ D ∧ ∃ o d, ops[x.1]? = some o ∧ noSel o = true ∧ o.dst = some d ∧ d < n ∧ Ylds P ops s x.2 o (slk s.j s.l d)
  deps : ∀ x ∈ pend, ∀ y ∈ pend, ∀ d, dstOf ops x.1 = some d → d ∈ looksOf ops y.1 → x.1 ∈ edgesOf ops y.1
  one : ∀ x ∈ pend, ∀ y ∈ pend, ∀ d, dstOf ops x.1 = some d → dstOf ops y.1 = some d → x.1 = y.1
  ord : ((List.range ops.size).all fun k => (edgesOf ops k).all fun e => Nat.blt e k) = true

def TG (P : Program) (n : Nat) (ops : Array Oper) (Q : Exit → St → Prop) (D : List Nat) (pend : List (Nat × List SP)) (s : St) : Prop :=
  ∀ fuel listed a w, fuel + listed.count true = ops.size → Inv P n ops D pend s listed a w → wpAny P .any ops (lft n Q) fuel listed a w

theorem TG.start {i : Nat} {ops : List Oper} {Q : Exit → St → Prop} {s : St} (hm : P.follows .mixedOrders = true) (hlt : ((List.range ops.toArray.size).all fun k => (edgesOf ops.toArray k).all fun e => Nat.blt e k) = true := by rfl) (h : TG P n ops.toArray Q [] [] s) : T P n (.region i ops.toArray true) Q s := by
  intro a w hf hs
  refine wp_region_any hm (h _ _ a _ ?_ ⟨?_, ?_, ?_, ?_, hf.defers, hf.size, fun k _ => hf.slots k, sat_drew hs, ?_, ?_, ?_, ?_, hlt⟩)
  · simp [Array.count_replicate]
  · simp
  · intro i hi
    exfalso
    simp only [Array.getD_eq_getD_getElem?, Array.getElem?_replicate] at hi
    split at hi <;> simp at hi
  · intro i hi; cases hi
  · intro i hi
    exfalso
    simp only [Array.getD_eq_getD_getElem?, Array.getElem?_replicate] at hi
    split at hi <;> simp at hi
  all_goals (intro x hx; cases hx)

/-- A quiet operation is run at once, as far as we are concerned. -/
theorem TG.quiet {ops : Array Oper} {Q : Exit → St → Prop} {D : List Nat} {pend : List (Nat × List SP)} {l : List (Nat × Value)} {j : Nat → Value} {A R : List SP} (i : Nat) {o : Oper} {d : Nat} {v : Value}
    (ho : ops[i]? = some o := by rfl) (hi : D.contains i = false) (hn : noSel o = true := by rfl) (hd : o.dst = some d := by rfl) (hdn : Nat.blt d n = true := by rfl)
    (hok : (pend.all fun x => !(looksOf ops x.1).contains d && dstOf ops x.1 != some d && (match dstOf ops x.1 with | some e => !(looksOf ops i).contains e || (edgesOf ops i).contains x.1 | none => true)) = true)
    (hself : (looksOf ops i).contains d = false)
    (hR : ∃ C, Picks R A C) (hv : Ylds P ops ⟨l, j, A⟩ R o v) (k : TG P n ops Q (i :: D) ((i, R) :: pend) ⟨(d, v) :: l, j, A⟩) : TG P n ops Q D pend ⟨l, j, A⟩ := by
  intro fuel listed a w hfuel hinv
  have hok' : ∀ x ∈ pend, d ∉ looksOf ops x.1 ∧ dstOf ops x.1 ≠ some d ∧ ∀ e, dstOf ops x.1 = some e → e ∈ looksOf ops i → x.1 ∈ edgesOf ops i := by
    intro x hx
    have := List.all_eq_true.1 hok x hx
    simp only [Bool.and_eq_true, Bool.not_eq_true', bne_iff_ne] at this
    refine ⟨by simpa using this.1.1, this.1.2, fun e he hl => ?_⟩
    have h3 := this.2
    rw [he] at h3
    simp only [Bool.or_eq_true, Bool.not_eq_true'] at h3
    rcases h3 with h3 | h3
    · exfalso
      rw [List.contains_eq_mem] at h3
      simp [hl] at h3
    · simpa using h3
  have hiD : i ∉ D := by simpa using hi
  have hdi : dstOf ops i = some d := by simp [dstOf, ho, hd]
  have hself' : d ∉ looksOf ops i := by simpa using hself
  have hlook : looksOf ops i = o.looksAt ops := by simp [looksOf, ho]
  -- the slots that an operation looks at do not turn
  have same : ∀ (o' : Oper), d ∉ o'.looksAt ops → (noSel o' = true) → execOp (St.ev ⟨(d, v) :: l, j, A⟩) o' = execOp (St.ev ⟨l, j, A⟩) o' ∧ want ops ⟨(d, v) :: l, j, A⟩ o' = want ops ⟨l, j, A⟩ o' := by
    intro o' hd' hs'
    constructor
    · refine execOp_congr o' (fun cs b h => by rw [noSel, h] at hs'; cases hs') fun x hx => ?_
      cases x with
      | tmp t =>
        have : t ≠ d := by
          rintro rfl
          refine hd' (List.mem_append_left _ (List.mem_filterMap.2 ⟨.tmp t, by simpa using hx, rfl⟩))
        have e : (t == d) = false := by simpa using this
        simp only [St.ev, slk, e, cond_false]
      | _ => rfl
    · unfold want Region.wanted
      cases hg : o'.guard with
      | none => rfl
      | some gw =>
        obtain ⟨gi, gb⟩ := gw
        simp only
        cases hdg : dstOf ops gi with
        | none => rfl
        | some t =>
          have : t ≠ d := by
            rintro rfl
            refine hd' (List.mem_append_right _ ?_)
            rw [hg]
            have hdg' : (ops[gi]?).bind (·.dst) = some t := hdg
            simp only [hdg']
            simp
          have e : (t == d) = false := by simpa using this
          simp only [slk, e, cond_false]
  refine k fuel listed a w hfuel ⟨hinv.size, fun q hq => List.mem_cons_of_mem _ (hinv.sub q hq), ?_, hinv.low, hinv.defers, hinv.tmps, ?_, hinv.sat, ?_, ?_, ?_, ?_, hinv.ord⟩
  · intro q hq
    rcases List.mem_cons.1 hq with rfl | hq
    · exact .inr ⟨R, by simp⟩
    · rcases hinv.rest q hq with h | ⟨R', h⟩
      · exact .inl h
      · exact .inr ⟨R', by simp [h]⟩
  · intro q hq
    have hil : listed.getD i false = false := by
      cases h : listed.getD i false with
      | false => rfl
      | true => exact absurd (hinv.sub i h) hiD
    have hqd : q ≠ d := by
      rintro rfl
      exact hq i (by simp) hil hdi
    have e : (q == d) = false := by simpa using hqd
    simp only [slk, e, cond_false]
    exact hinv.slots q fun p hp hl => hq p (by simp [hp]) hl
  · intro x hx
    rcases List.mem_cons.1 hx with rfl | hx
    · exact hR
    · exact hinv.held x hx
  · intro x hx
    rcases List.mem_cons.1 hx with rfl | hx
    · refine ⟨by simp, o, d, ho, hn, hd, by simpa using hdn, ?_⟩
      have hs := same o (by rw [← hlook]; exact hself') hn
      unfold Ylds
      rw [hs.1, hs.2]
      have hvv : slk j ((d, v) :: l) d = v := by simp [slk]
      rw [hvv]
      exact hv
    · obtain ⟨hxD, o', d', h1, h2, h3, h4, h5⟩ := hinv.ylds x hx
      have hk := hok' x hx
      have hlk : looksOf ops x.1 = o'.looksAt ops := by simp [looksOf, h1]
      have hs := same o' (by rw [← hlk]; exact hk.1) h2
      refine ⟨by simp [hxD], o', d', h1, h2, h3, h4, ?_⟩
      unfold Ylds
      rw [hs.1, hs.2]
      have hdd : d' ≠ d := by
        rintro rfl
        exact hk.2.1 (by simp [dstOf, h1, h3])
      have e : (d' == d) = false := by simpa using hdd
      have hvv : slk j ((d, v) :: l) d' = slk j l d' := by simp [slk, e]
      rw [hvv]
      exact h5
  · intro x hx y hy e he hl
    rcases List.mem_cons.1 hx with rfl | hx <;> rcases List.mem_cons.1 hy with rfl | hy
    · rw [hdi] at he; cases he; exact absurd hl hself'
    · rw [hdi] at he; cases he; exact absurd hl (hok' y hy).1
    · exact (hok' x hx).2.2 e he hl
    · exact hinv.deps x hx y hy e he hl
  · intro x hx y hy e he hl
    rcases List.mem_cons.1 hx with rfl | hx <;> rcases List.mem_cons.1 hy with rfl | hy
    · rfl
    · rw [hdi] at he; cases he; exact absurd hl (hok' y hy).2.1
    · rw [hdi] at hl; cases hl; exact absurd he (hok' x hx).2.1
    · exact hinv.one x hx y hy e he hl

/-- Slots that an operation does not look at do not turn it. -/
theorem same_put {ops : Array Oper} {l : List (Nat × Value)} {j : Nat → Value} {A A' : List SP} {d : Nat} {v : Value} (o' : Oper) (hd' : d ∉ o'.looksAt ops) (hs' : noSel o' = true) :
    execOp (St.ev ⟨(d, v) :: l, j, A'⟩) o' = execOp (St.ev ⟨l, j, A⟩) o' ∧ want ops ⟨(d, v) :: l, j, A'⟩ o' = want ops ⟨l, j, A⟩ o' := by
  constructor
  · refine execOp_congr o' (fun cs b h => by rw [noSel, h] at hs'; cases hs') fun x hx => ?_
    cases x with
    | tmp t =>
      have : t ≠ d := by
        rintro rfl
        refine hd' (List.mem_append_left _ (List.mem_filterMap.2 ⟨.tmp t, by simpa using hx, rfl⟩))
      have e : (t == d) = false := by simpa using this
      simp only [St.ev, slk, e, cond_false]
    | _ => rfl
  · unfold want Region.wanted
    cases hg : o'.guard with
    | none => rfl
    | some gw =>
      obtain ⟨gi, gb⟩ := gw
      simp only
      cases hdg : dstOf ops gi with
      | none => rfl
      | some t =>
        have : t ≠ d := by
          rintro rfl
          refine hd' (List.mem_append_right _ ?_)
          rw [hg]
          have hdg' : (ops[gi]?).bind (·.dst) = some t := hdg
          simp only [hdg']
          simp
        have e : (t == d) = false := by simpa using this
        simp only [slk, e, cond_false]
/-- An operation whose slots read as the state says is run as the state says. -/
theorem same_run {ops : Array Oper} {s : St} {a : Act} (o' : Oper) (h : ∀ t ∈ o'.looksAt ops, a.tmps.getD t undef = slk s.j s.l t) (hs' : noSel o' = true) :
    execOp a.eval o' = execOp s.ev o' ∧ Region.wanted o' (yielded ops a.tmps) = want ops s o' := by
  constructor
  · refine execOp_congr o' (fun cs b h => by rw [noSel, h] at hs'; cases hs') fun x hx => ?_
    cases x with
    | tmp t => exact h t (List.mem_append_left _ (List.mem_filterMap.2 ⟨.tmp t, by simpa using hx, rfl⟩))
    | _ => rfl
  · unfold want Region.wanted
    cases hg : o'.guard with
    | none => rfl
    | some gw =>
      obtain ⟨gi, gb⟩ := gw
      simp only
      unfold yielded
      cases hdg : (ops[gi]?).bind (·.dst) with
      | none =>
        have : dstOf ops gi = none := hdg
        simp [this]
      | some t =>
        have h1 : dstOf ops gi = some t := hdg
        have h2 := h t (List.mem_append_right _ (by rw [hg]; simp only [hdg]; simp))
        simp only [h1, Option.bind_some]
        rw [Array.getD_eq_getD_getElem?] at h2
        rw [← h2]
        cases hq : a.tmps[t]? with
        | none => rfl
        | some q => cases q <;> rfl

/-- All that surely went before. -/
def clo (ops : Array Oper) (c : Nat) : List Nat := (List.range c).reverse.foldl (fun S k => if S.contains k then S ++ edgesOf ops k else S) (edgesOf ops c)
theorem clo_listed {ops : Array Oper} {listed : Array Bool} (low : ∀ i, listed.getD i false = true → ∀ e ∈ edgesOf ops i, listed.getD e false = true) {c : Nat} (hc : ∀ e ∈ edgesOf ops c, listed.getD e false = true) :
    ∀ x ∈ clo ops c, listed.getD x false = true := by
  unfold clo
  have gen : ∀ (ks S : List Nat), (∀ x ∈ S, listed.getD x false = true) → ∀ x ∈ ks.foldl (fun S k => if S.contains k then S ++ edgesOf ops k else S) S, listed.getD x false = true := by
    intro ks
    induction ks with
    | nil => intro S h; exact h
    | cons k ks ih =>
      intro S h
      simp only [List.foldl_cons]
      refine ih _ ?_
      split
      · rename_i hk
        intro x hx
        rcases List.mem_append.1 hx with hx | hx
        · exact h x hx
        · exact low k (h k (by simpa using hk)) x hx
      · exact h
  exact gen _ _ hc

/-- One that is run when its time has come. -/
structure Loud (P : Program) (n : Nat) (ops : Array Oper) (Q : Exit → St → Prop) (D : List Nat) (pend : List (Nat × List SP)) (l : List (Nat × Value)) (j : Nat → Value) (A : List SP) (c : Nat) : Prop where
  mk ::
  out : ∃ o pend' K, ops[c]? = some o ∧ D.contains c = false ∧ noSel o = true ∧ want ops ⟨l, j, A⟩ o = true ∧
    pend.filter (fun x => !(clo ops c).contains x.1) = pend' ∧
    (pend'.all fun x => (match dstOf ops x.1 with | some e => !(looksOf ops c).contains e | none => true) &&
      (match o.dst with | some d => !(looksOf ops x.1).contains d && dstOf ops x.1 != some d | none => true)) = true ∧
    OpK P ⟨l, j, A⟩ o K ∧
    ∀ v L, K v L → (∀ x ∈ pend', ∃ C, Picks x.2 L C) ∧
      match o.dst with
      | some d => Nat.blt d n = true ∧ TG P n ops Q (c :: D) pend' ⟨(d, v) :: l, j, L⟩
      | none => TG P n ops Q (c :: D) pend' ⟨l, j, L⟩

theorem getD_set_eq (listed : Array Bool) (i : Nat) (hi : i < listed.size) : (listed.setIfInBounds i true).getD i false = true := by simp [hi]
theorem getD_set_other (listed : Array Bool) {i q : Nat} (h : q ≠ i) : (listed.setIfInBounds i true).getD q false = listed.getD q false := by
  simp only [Array.getD_eq_getD_getElem?, Array.getElem?_setIfInBounds_ne (Ne.symm h)]
theorem count_set (listed : Array Bool) (i : Nat) (hi : i < listed.size) (h : listed.getD i false = false) : (listed.setIfInBounds i true).count true = listed.count true + 1 := by
  have h' : listed[i] = false := by simpa [hi] using h
  rw [Array.setIfInBounds, dif_pos hi, Array.count_set]
  simp [h']

theorem TG.loud {ops : Array Oper} {Q : Exit → St → Prop} {D : List Nat} {pend : List (Nat × List SP)} {l : List (Nat × Value)} {j : Nat → Value} {A : List SP} (C : List Nat)
    (hrdy : ((List.range ops.size).all fun k => D.contains k || C.contains k || (edgesOf ops k).any fun e => !D.contains e) = true := by rfl)
    (hfin : ((List.range ops.size).all fun k => D.contains k) = true → Q .normal ⟨l, j, A⟩ := by rfl)
    (hstep : ∀ c ∈ C, Loud P n ops Q D pend l j A c) : TG P n ops Q D pend ⟨l, j, A⟩ := by
  have hlt0 : ((List.range ops.size).all fun k => (edgesOf ops k).all fun e => Nat.blt e k) = true → ∀ k, k < ops.size → ∀ e ∈ edgesOf ops k, e < k := by
    intro hlt k hk e he
    have h1 := List.all_eq_true.1 (List.all_eq_true.1 hlt k (List.mem_range.2 hk)) e he
    simpa using h1
  have hrdy' : ∀ k, k < ops.size → k ∉ D → (∀ e ∈ edgesOf ops k, e ∈ D) → k ∈ C := by
    intro k hk hkD he
    have h1 := List.all_eq_true.1 hrdy k (List.mem_range.2 hk)
    simp only [Bool.or_eq_true, List.any_eq_true, Bool.not_eq_true'] at h1
    rcases h1 with (h1 | h1) | ⟨e, h1, h2⟩
    · exact absurd (by simpa using h1) hkD
    · simpa using h1
    · exact absurd (he e h1) (by simpa using h2)
  intro fuel
  induction fuel with
  | zero =>
    intro listed a w hc hinv
    have hall : ∀ i, i < ops.size → listed.getD i false = true := by
      intro i hi
      have h1 : listed.count true = listed.size := by rw [hinv.size]; omega
      have h2 := Array.count_eq_size.1 h1
      have hi' : i < listed.size := by rw [hinv.size]; exact hi
      have h3 := h2 listed[i] (Array.getElem_mem hi')
      simp [hi', ← h3]
    refine ⟨?_, ⟨l, j, A⟩, ⟨hinv.defers, hinv.tmps, fun k => hinv.slots k fun i hi hl => ?_⟩, hinv.sat, hfin ?_⟩
    · cases hr : Region.ready .any ops listed with
      | nil => rfl
      | cons x xs =>
        exfalso
        have hx : x ∈ Region.ready .any ops listed := by rw [hr]; simp
        obtain ⟨h1, o, h2, _⟩ := mem_ready.1 hx
        have hxs : x < ops.size := (Array.getElem?_eq_some_iff.1 h2).1
        have h3 := hall x hxs
        have hi' : x < listed.size := by rw [hinv.size]; exact hxs
        simp [hi'] at h1 h3
        rw [h1] at h3
        cases h3
    · by_cases his : i < ops.size
      · rw [hall i his] at hl; cases hl
      · simp [dstOf, Array.getElem?_eq_none (Nat.le_of_not_lt his)]
    · refine List.all_eq_true.2 fun k hk => ?_
      have := hinv.sub k (hall k (List.mem_range.1 hk))
      simpa using this
  | succ fuel ih =>
    intro listed a w hc hinv
    have hlt' := hlt0 hinv.ord
    refine ⟨fun hr => ?_, fun i hi => ?_⟩
    · exfalso
      -- the least one that is not listed could be run
      have hex : ∃ k, k < ops.size ∧ listed.getD k false = false := by
        apply Classical.byContradiction
        intro hno
        have : listed.count true = listed.size := by
          rw [Array.count_eq_size]
          intro b hb
          obtain ⟨k, hk, rfl⟩ := Array.getElem_of_mem hb
          have hk' : k < ops.size := by rw [← hinv.size]; exact hk
          cases hb2 : listed[k] with
          | true => rfl
          | false => exact absurd ⟨k, hk', by simp [hk, hb2]⟩ hno
        rw [hinv.size] at this
        omega
      have hmin : ∃ k, (k < ops.size ∧ listed.getD k false = false) ∧ ∀ m, m < k → ¬ (m < ops.size ∧ listed.getD m false = false) := by
        obtain ⟨k, hk⟩ := hex
        induction k using Nat.strongRecOn with
        | _ k ihk =>
          by_cases hm : ∃ m, m < k ∧ (m < ops.size ∧ listed.getD m false = false)
          · obtain ⟨m, hm1, hm2⟩ := hm
            exact ihk m hm1 hm2
          · exact ⟨k, hk, fun m hmk hm2 => hm ⟨m, hmk, hm2⟩⟩
      obtain ⟨k, ⟨hk1, hk2⟩, hk3⟩ := hmin
      have : k ∈ Region.ready .any ops listed := by
        refine mem_ready.2 ⟨?_, ops[k], Array.getElem?_eq_getElem hk1, fun e he hb => ?_⟩
        · have hi' : k < listed.size := by rw [hinv.size]; exact hk1
          simp [hi'] at hk2 ⊢
          exact hk2
        · have hmem : e.on ∈ edgesOf ops k := by
            unfold edgesOf
            rw [Array.getElem?_eq_getElem hk1]
            exact List.mem_map.2 ⟨e, List.mem_filter.2 ⟨by simpa using he, hb⟩, rfl⟩
          have hlt1 := hlt' k hk1 _ hmem
          have := hk3 e.on hlt1
          cases hle : listed.getD e.on false with
          | true => rfl
          | false => exact absurd ⟨by omega, hle⟩ this
      rw [hr] at this
      cases this
    · obtain ⟨h1, o, ho, hed⟩ := mem_ready.1 hi
      have his : i < ops.size := (Array.getElem?_eq_some_iff.1 ho).1
      have hil : i < listed.size := by rw [hinv.size]; exact his
      have hli : listed.getD i false = false := by simp [hil] at h1 ⊢; exact h1
      have hed' : ∀ e ∈ edgesOf ops i, listed.getD e false = true := by
        intro e he
        unfold edgesOf at he
        rw [ho] at he
        obtain ⟨x, hx, rfl⟩ := List.mem_map.1 he
        obtain ⟨hx1, hx2⟩ := List.mem_filter.1 hx
        exact hed x (by simpa using hx1) hx2
      have hcnt := count_set listed i hil hli
      have hlow : ∀ q, (listed.setIfInBounds i true).getD q false = true → ∀ e ∈ edgesOf ops q, (listed.setIfInBounds i true).getD e false = true := by
        intro q hq e he
        have hmono : ∀ z, listed.getD z false = true → (listed.setIfInBounds i true).getD z false = true := by
          intro z hz
          by_cases hzi : z = i
          · subst hzi; exact getD_set_eq listed z hil
          · rw [getD_set_other listed hzi]; exact hz
        by_cases hqi : q = i
        · subst hqi; exact hmono e (hed' e he)
        · rw [getD_set_other listed hqi] at hq
          exact hmono e (hinv.low q hq e he)
      by_cases hD : i ∈ D
      · obtain ⟨R, hR⟩ : ∃ R, (i, R) ∈ pend := by
          rcases hinv.rest i hD with h | h
          · rw [hli] at h; cases h
          · exact h
        obtain ⟨_, o', d, h2, h3, h4, h5, h6⟩ := hinv.ylds (i, R) hR
        simp only at h2
        rw [ho] at h2
        cases h2
        have hlook : looksOf ops i = o.looksAt ops := by simp [looksOf, ho]
        have hdi : dstOf ops i = some d := by simp [dstOf, ho, h4]
        have hsl : ∀ t ∈ o.looksAt ops, a.tmps.getD t undef = slk j l t := by
          intro t ht
          refine hinv.slots t fun p hp hpl hpd => ?_
          obtain ⟨R', hR'⟩ : ∃ R, (p, R) ∈ pend := by
            rcases hinv.rest p hp with h | h
            · rw [hpl] at h; cases h
            · exact h
          have := hinv.deps (p, R') hR' (i, R) hR t hpd (by rw [hlook]; exact ht)
          rw [hed' p this] at hpl
          cases hpl
        have hrun := same_run (s := ⟨l, j, A⟩) o hsl h3
        have hput : (a.put o.dst (slk j l d)) = a.put (some d) (slk j l d) := by rw [h4]
        have hinv' : Inv P n ops D pend ⟨l, j, A⟩ (listed.setIfInBounds i true) (a.put (some d) (slk j l d)) w := by
          refine ⟨by simpa using hinv.size, ?_, ?_, hlow, hinv.defers, by simp [Act.put, hinv.tmps], ?_, hinv.sat, hinv.held, hinv.ylds, hinv.deps, hinv.one, hinv.ord⟩
          · intro q hq
            by_cases hqi : q = i
            · subst hqi; exact hD
            · rw [getD_set_other listed hqi] at hq; exact hinv.sub q hq
          · intro q hq
            by_cases hqi : q = i
            · subst hqi; exact .inl (getD_set_eq listed q hil)
            · rw [getD_set_other listed hqi]; exact hinv.rest q hq
          · intro k hk
            by_cases hkd : k = d
            · subst hkd
              have : k < a.tmps.size := by rw [hinv.tmps]; exact h5
              simp [Act.put, this]
            · have h7 : (a.put (some d) (slk j l d)).tmps.getD k undef = a.tmps.getD k undef := by
                simp only [Act.put, Array.getD_eq_getD_getElem?, Array.getElem?_setIfInBounds_ne (Ne.symm hkd)]
              rw [h7]
              refine hinv.slots k fun p hp hpl hpd => ?_
              by_cases hpi : p = i
              · subst hpi
                rw [hdi] at hpd
                cases hpd
                exact hkd rfl
              · exact hk p hp (by rw [getD_set_other listed hpi]; exact hpl) hpd
        have hnext := ih (listed.setIfInBounds i true) (a.put (some d) (slk j l d)) w (by omega) hinv'
        unfold wpOp
        simp only [ho]
        rw [hrun.2]
        rcases h6 with ⟨hw, hv⟩ | ⟨hw, hv⟩
        · rw [if_pos hw]
          refine .inl ?_
          unfold Oper.wp
          rw [hrun.1]
          obtain ⟨C', hC'⟩ := hinv.held (i, R) hR
          have hsat := hinv.sat
          rw [hC'.eq] at hsat
          rw [hv w hsat.left, Oper.upon_value, hput]
          exact hnext
        · rw [if_neg (by rw [hw]; simp), ← hv, hput]
          exact hnext
      · have hiC := hrdy' i his hD fun e he => hinv.sub e (hed' e he)
        obtain ⟨o', pend', K, h2, _, h4, h5, h6, h7, h8, h9⟩ := (hstep i hiC).out
        rw [ho] at h2
        cases h2
        have hcl := clo_listed hinv.low hed'
        have hlook : looksOf ops i = o.looksAt ops := by simp [looksOf, ho]
        have hpend : ∀ x ∈ pend', x ∈ pend := fun x hx => by rw [← h6] at hx; exact (List.mem_filter.1 hx).1
        have hun : ∀ p R, (p, R) ∈ pend → listed.getD p false = false → (p, R) ∈ pend' := by
          intro p R hp hpl
          rw [← h6]
          refine List.mem_filter.2 ⟨hp, ?_⟩
          simp only [Bool.not_eq_true', List.contains_eq_mem, decide_eq_false_iff_not]
          intro hin
          rw [hcl p hin] at hpl
          cases hpl
        have hcond : ∀ x ∈ pend', (∀ e, dstOf ops x.1 = some e → e ∉ looksOf ops i) ∧ (∀ d, o.dst = some d → d ∉ looksOf ops x.1 ∧ dstOf ops x.1 ≠ some d) := by
          intro x hx
          have h10 := List.all_eq_true.1 h7 x hx
          simp only [Bool.and_eq_true] at h10
          refine ⟨fun e he => ?_, fun d hd => ?_⟩
          · have h11 := h10.1
            rw [he] at h11
            simpa using h11
          · have h11 := h10.2
            rw [hd] at h11
            simp only [Bool.and_eq_true, Bool.not_eq_true', bne_iff_ne] at h11
            exact ⟨by simpa using h11.1, h11.2⟩
        have hsl : ∀ t ∈ o.looksAt ops, a.tmps.getD t undef = slk j l t := by
          intro t ht
          refine hinv.slots t fun p hp hpl hpd => ?_
          obtain ⟨R', hR'⟩ : ∃ R, (p, R) ∈ pend := by
            rcases hinv.rest p hp with h | h
            · rw [hpl] at h; cases h
            · exact h
          exact (hcond (p, R') (hun p R' hR' hpl)).1 t hpd (by rw [hlook]; exact ht)
        have hrun := same_run (s := ⟨l, j, A⟩) o hsl h4
        unfold wpOp
        simp only [ho]
        rw [hrun.2, h5]
        rw [if_pos rfl]
        refine .inl ?_
        unfold Oper.wp
        rw [hrun.1]
        refine h8 w hinv.sat a _ _ fun v L w' hs' hK => ?_
        obtain ⟨hheld, hmatch⟩ := h9 v L hK
        have hsub : ∀ q, (listed.setIfInBounds i true).getD q false = true → q ∈ i :: D := by
          intro q hq
          by_cases hqi : q = i
          · simp [hqi]
          · rw [getD_set_other listed hqi] at hq; exact List.mem_cons_of_mem _ (hinv.sub q hq)
        have hrest : ∀ q ∈ i :: D, (listed.setIfInBounds i true).getD q false = true ∨ ∃ R, (q, R) ∈ pend' := by
          intro q hq
          by_cases hqi : q = i
          · subst hqi; exact .inl (getD_set_eq listed q hil)
          · rw [getD_set_other listed hqi]
            have hqD : q ∈ D := by
              rcases List.mem_cons.1 hq with h | h
              · exact absurd h hqi
              · exact h
            rcases hinv.rest q hqD with h | ⟨R, h⟩
            · exact .inl h
            · cases hql : listed.getD q false with
              | true => exact .inl rfl
              | false => exact .inr ⟨R, hun q R h hql⟩
        cases hdo : o.dst with
        | none =>
          rw [hdo] at hmatch
          simp only at hmatch
          refine hmatch fuel _ _ w' (by omega) ⟨by simpa using hinv.size, hsub, hrest, hlow, hinv.defers, hinv.tmps, ?_, hs', hheld, ?_, ?_, ?_, hinv.ord⟩
          · intro k hk
            refine hinv.slots k fun p hp hpl hpd => ?_
            have hpi : p ≠ i := by rintro rfl; exact hD hp
            exact hk p (List.mem_cons_of_mem _ hp) (by rw [getD_set_other listed hpi]; exact hpl) hpd
          · intro x hx
            obtain ⟨hxD, rest⟩ := hinv.ylds x (hpend x hx)
            exact ⟨List.mem_cons_of_mem _ hxD, rest⟩
          · exact fun x hx y hy => hinv.deps x (hpend x hx) y (hpend y hy)
          · exact fun x hx y hy => hinv.one x (hpend x hx) y (hpend y hy)
        | some d =>
          rw [hdo] at hmatch
          simp only at hmatch
          obtain ⟨hdn, hTG⟩ := hmatch
          have hdn' : d < n := by simpa using hdn
          have hdi : dstOf ops i = some d := by simp [dstOf, ho, hdo]
          refine hTG fuel _ _ w' (by omega) ⟨by simpa using hinv.size, hsub, hrest, hlow, hinv.defers, by simp [Act.put, hinv.tmps], ?_, hs', hheld, ?_, ?_, ?_, hinv.ord⟩
          · intro k hk
            by_cases hkd : k = d
            · subst hkd
              have : k < a.tmps.size := by rw [hinv.tmps]; exact hdn'
              simp [Act.put, this, slk]
            · have e : (k == d) = false := by simpa using hkd
              have h11 : (a.put (some d) v).tmps.getD k undef = a.tmps.getD k undef := by
                simp only [Act.put, Array.getD_eq_getD_getElem?, Array.getElem?_setIfInBounds_ne (Ne.symm hkd)]
              rw [h11]
              simp only [slk, e, cond_false]
              refine hinv.slots k fun p hp hpl hpd => ?_
              have hpi : p ≠ i := by rintro rfl; exact hD hp
              exact hk p (List.mem_cons_of_mem _ hp) (by rw [getD_set_other listed hpi]; exact hpl) hpd
          · intro x hx
            obtain ⟨hxD, o2, d2, q1, q2, q3, q4, q5⟩ := hinv.ylds x (hpend x hx)
            have hc := (hcond x hx).2 d hdo
            have hlk : looksOf ops x.1 = o2.looksAt ops := by simp [looksOf, q1]
            have hs2 := same_put (l := l) (j := j) (A := A) (A' := L) (v := v) o2 (by rw [← hlk]; exact hc.1) q2
            have hdd : d2 ≠ d := by
              rintro rfl
              exact hc.2 (by simp [dstOf, q1, q3])
            have e : (d2 == d) = false := by simpa using hdd
            refine ⟨List.mem_cons_of_mem _ hxD, o2, d2, q1, q2, q3, q4, ?_⟩
            unfold Ylds
            rw [hs2.1, hs2.2]
            have hvv : slk j ((d, v) :: l) d2 = slk j l d2 := by simp [slk, e]
            rw [hvv]
            exact q5
          · exact fun x hx y hy => hinv.deps x (hpend x hx) y (hpend y hy)
          · exact fun x hx y hy => hinv.one x (hpend x hx) y (hpend y hy)

section
variable {ops : Array Oper} {Q : Exit → St → Prop} {D : List Nat} {pend : List (Nat × List SP)} {l : List (Nat × Value)} {j : Nat → Value} {A : List SP}
theorem Picks.refl (A : List SP) : Picks A A [] := by
  induction A with
  | nil => exact .nil
  | cons p A ih => exact .cons .here ih
theorem Ylds.yes {o : Oper} {v : Value} {R : List SP} (hw : want ops ⟨l, j, A⟩ o = true := by rfl) (h : OpV P ⟨l, j, R⟩ o v) : Ylds P ops ⟨l, j, A⟩ R o v := .inl ⟨hw, h⟩
theorem Ylds.no {o : Oper} {R : List SP} (hw : want ops ⟨l, j, A⟩ o = false := by rfl) : Ylds P ops ⟨l, j, A⟩ R o undef := .inr ⟨hw, rfl⟩
/-- the quiet ones' conditions, in one -/
def okQ (ops : Array Oper) (D : List Nat) (pend : List Nat) (n i d : Nat) : Bool :=
  !D.contains i && Nat.blt d n && !(looksOf ops i).contains d &&
  pend.all fun x => !(looksOf ops x).contains d && dstOf ops x != some d && (match dstOf ops x with | some e => !(looksOf ops i).contains e || (edgesOf ops i).contains x | none => true)
theorem TG.q {R : List SP} (i : Nat) {o : Oper} {d : Nat} {v : Value} (ho : ops[i]? = some o := by rfl) (hn : noSel o = true := by rfl) (hd : o.dst = some d := by rfl) (hok : okQ ops D (pend.map (·.1)) n i d = true := by rfl)
    (hR : ∃ C, Picks R A C) (hv : Ylds P ops ⟨l, j, A⟩ R o v) (k : TG P n ops Q (i :: D) ((i, R) :: pend) ⟨(d, v) :: l, j, A⟩) : TG P n ops Q D pend ⟨l, j, A⟩ := by
  unfold okQ at hok
  simp only [Bool.and_eq_true, Bool.not_eq_true', List.all_map] at hok
  obtain ⟨⟨⟨h1, h2⟩, h3⟩, h4⟩ := hok
  exact TG.quiet i ho h1 hn hd h2 h4 h3 hR hv k
/-- pure ones -/
theorem TG.q0 (i : Nat) {o : Oper} {d : Nat} {v : Value} (ho : ops[i]? = some o := by rfl) (hn : noSel o = true := by rfl) (hd : o.dst = some d := by rfl) (hok : okQ ops D (pend.map (·.1)) n i d = true := by rfl)
    (hv : Ylds P ops ⟨l, j, A⟩ [] o v) (k : TG P n ops Q (i :: D) ((i, []) :: pend) ⟨(d, v) :: l, j, A⟩) : TG P n ops Q D pend ⟨l, j, A⟩ := TG.q i ho hn hd hok ⟨_, .nil⟩ hv k
/-- ones that read what is known now -/
theorem TG.qA (i : Nat) {o : Oper} {d : Nat} {v : Value} (ho : ops[i]? = some o := by rfl) (hn : noSel o = true := by rfl) (hd : o.dst = some d := by rfl) (hok : okQ ops D (pend.map (·.1)) n i d = true := by rfl)
    (hv : Ylds P ops ⟨l, j, A⟩ A o v) (k : TG P n ops Q (i :: D) ((i, A) :: pend) ⟨(d, v) :: l, j, A⟩) : TG P n ops Q D pend ⟨l, j, A⟩ := TG.q i ho hn hd hok ⟨_, Picks.refl A⟩ hv k
/-- ones that read one part -/
theorem TG.q1 {p : SP} {M : List SP} (i : Nat) {o : Oper} {d : Nat} {v : Value} (hp : Pick p A M := by (repeat (first | exact Pick.here | apply Pick.there)); done) (ho : ops[i]? = some o := by rfl) (hn : noSel o = true := by rfl) (hd : o.dst = some d := by rfl) (hok : okQ ops D (pend.map (·.1)) n i d = true := by rfl)
    (hv : Ylds P ops ⟨l, j, A⟩ [p] o v) (k : TG P n ops Q (i :: D) ((i, [p]) :: pend) ⟨(d, v) :: l, j, A⟩) : TG P n ops Q D pend ⟨l, j, A⟩ := TG.q i ho hn hd hok ⟨_, .cons hp .nil⟩ hv k
inductive Held : List (Nat × List SP) → List SP → Prop where
  | nil {L : List SP} : Held [] L
  | zero {i : Nat} {ps : List (Nat × List SP)} {L : List SP} (h : Held ps L) : Held ((i, []) :: ps) L
  | one {i : Nat} {p : SP} {ps : List (Nat × List SP)} {L M : List SP} (hp : Pick p L M) (h : Held ps L) : Held ((i, [p]) :: ps) L
  | all {i : Nat} {R : List SP} {ps : List (Nat × List SP)} {L M : List SP} (hp : Picks R L M) (h : Held ps L) : Held ((i, R) :: ps) L
theorem Held.out {ps : List (Nat × List SP)} {L : List SP} (h : Held ps L) : ∀ x ∈ ps, ∃ C, Picks x.2 L C := by
  induction h with
  | nil => intro x hx; cases hx
  | zero _ ih =>
    intro x hx
    rcases List.mem_cons.1 hx with rfl | hx
    · exact ⟨_, .nil⟩
    · exact ih x hx
  | one hp _ ih =>
    intro x hx
    rcases List.mem_cons.1 hx with rfl | hx
    · exact ⟨_, .cons hp .nil⟩
    · exact ih x hx
  | all hp _ ih =>
    intro x hx
    rcases List.mem_cons.1 hx with rfl | hx
    · exact ⟨_, hp⟩
    · exact ih x hx
/-- the loud one's conditions, in one -/
def okL (ops : Array Oper) (D : List Nat) (pend : List Nat) (c : Nat) : Bool :=
  !D.contains c && (!(List.range ops.size).all fun k => D.contains k) &&
  (match ops[c]? with | some o => noSel o | none => false) &&
  ((List.range ops.size).all fun k => D.contains k || k == c || (edgesOf ops k).any fun e => !D.contains e) &&
  pend.all fun x => (match dstOf ops x with | some e => !(looksOf ops c).contains e | none => true) &&
      (match dstOf ops c with | some d => !(looksOf ops x).contains d && dstOf ops x != some d | none => true)
theorem TG.lo {pend' : List (Nat × List SP)} {K : Value → List SP → Prop} (c : Nat) {o : Oper} (ho : ops[c]? = some o := by rfl) (hp : pend.filter (fun x => !(clo ops c).contains x.1) = pend' := by rfl)
    (hok : okL ops D (pend'.map (·.1)) c = true := by rfl) (hw : want ops ⟨l, j, A⟩ o = true := by rfl) (hK : OpK P ⟨l, j, A⟩ o K)
    (k : ∀ v L, K v L → Held pend' L ∧ match o.dst with
      | some d => Nat.blt d n = true ∧ TG P n ops Q (c :: D) pend' ⟨(d, v) :: l, j, L⟩
      | none => TG P n ops Q (c :: D) pend' ⟨l, j, L⟩) : TG P n ops Q D pend ⟨l, j, A⟩ := by
  unfold okL at hok
  simp only [Bool.and_eq_true, Bool.not_eq_true', List.all_map] at hok
  obtain ⟨⟨⟨⟨h1, h2⟩, h3⟩, h4⟩, h5⟩ := hok
  have hdo : dstOf ops c = o.dst := by simp [dstOf, ho]
  rw [ho] at h3
  rw [hdo] at h5
  refine TG.loud [c] ?_ (fun h => by rw [h] at h2; cases h2) ?_
  · refine List.all_eq_true.2 fun q hq => ?_
    have := List.all_eq_true.1 h4 q hq
    simp only [Bool.or_eq_true] at this ⊢
    rcases this with (h | h) | h
    · exact .inl (.inl h)
    · exact .inl (.inr (by simpa using h))
    · exact .inr h
  · intro c' hc'
    obtain rfl : c' = c := by simpa using hc'
    exact ⟨o, pend', K, ho, h1, h3, hw, hp, h5, hK, fun v L hK => ⟨(k v L hK).1.out, (k v L hK).2⟩⟩
theorem TG.ld {pend' : List (Nat × List SP)} {K : Value → List SP → Prop} (c : Nat) {o : Oper} {d : Nat} (ho : ops[c]? = some o := by rfl) (hp : pend.filter (fun x => !(clo ops c).contains x.1) = pend' := by rfl)
    (hok : okL ops D (pend'.map (·.1)) c = true := by rfl) (hw : want ops ⟨l, j, A⟩ o = true := by rfl) (hd : o.dst = some d := by rfl) (hdn : Nat.blt d n = true := by rfl) (hK : OpK P ⟨l, j, A⟩ o K)
    (k : ∀ v L, K v L → Held pend' L ∧ TG P n ops Q (c :: D) pend' ⟨(d, v) :: l, j, L⟩) : TG P n ops Q D pend ⟨l, j, A⟩ :=
  TG.lo c ho hp hok hw hK fun v L h => ⟨(k v L h).1, by rw [hd]; exact ⟨hdn, (k v L h).2⟩⟩
theorem TG.lu {pend' : List (Nat × List SP)} {L : List SP} (c : Nat) {o : Oper} (ho : ops[c]? = some o := by rfl) (hp : pend.filter (fun x => !(clo ops c).contains x.1) = pend' := by rfl)
    (hok : okL ops D (pend'.map (·.1)) c = true := by rfl) (hw : want ops ⟨l, j, A⟩ o = true := by rfl) (hd : o.dst = none := by rfl) (hK : OpU P ⟨l, j, A⟩ o L) (hh : Held pend' L := by (repeat (first | exact Held.nil | apply Held.zero | (apply Held.one; (repeat (first | exact Pick.here | apply Pick.there))))); done)
    (k : TG P n ops Q (c :: D) pend' ⟨l, j, L⟩) : TG P n ops Q D pend ⟨l, j, A⟩ :=
  TG.lo c ho hp hok hw (OpK.ofU hK) fun v M h => by rw [hd]; obtain ⟨rfl, rfl⟩ := h; exact ⟨hh, k⟩
/-- a quiet one that must wait for its time (it writes a slot that others read before) -/
theorem TG.lv {pend' : List (Nat × List SP)} (c : Nat) {o : Oper} {d : Nat} {v : Value} (ho : ops[c]? = some o := by rfl) (hp : pend.filter (fun x => !(clo ops c).contains x.1) = pend' := by rfl)
    (hok : okL ops D (pend'.map (·.1)) c = true := by rfl) (hw : want ops ⟨l, j, A⟩ o = true := by rfl) (hd : o.dst = some d := by rfl) (hdn : Nat.blt d n = true := by rfl) (hv : OpV P ⟨l, j, A⟩ o v) (hh : Held pend' A := by (repeat (first | exact Held.nil | apply Held.zero | (apply Held.one; (repeat (first | exact Pick.here | apply Pick.there))))); done)
    (k : TG P n ops Q (c :: D) pend' ⟨(d, v) :: l, j, A⟩) : TG P n ops Q D pend ⟨l, j, A⟩ :=
  TG.ld c ho hp hok hw hd hdn (OpK.ofV hv) fun v M h => by obtain ⟨rfl, rfl⟩ := h; exact ⟨hh, k⟩
theorem TG.fin (hall : ((List.range ops.size).all fun k => D.contains k) = true := by rfl) (h : Q .normal ⟨l, j, A⟩) : TG P n ops Q D pend ⟨l, j, A⟩ :=
  TG.loud [] (List.all_eq_true.2 fun q hq => by have := List.all_eq_true.1 hall q hq; rw [this]; rfl) (fun _ => h) (fun c hc => by cases hc)

section
variable {ty : TypeId} {pos : String} {af : Array Edge} {g : Option (Nat × Bool)} {m : Bool} {d : Nat}
theorem TG.qLoad (i : Nat) {x : Operand} {t t' : TypeId} {b off : Nat} {c : List Value} {M : List SP} {v : Value} [a : TyA P t false] (ho : ops[i]? = some ⟨some d, .load t x, ty, pos, af, g⟩ := by rfl)
    (hok : okQ ops D (pend.map (·.1)) n i d = true := by rfl) (hw : want ops ⟨l, j, A⟩ ⟨some d, .load t x, ty, pos, af, g⟩ = true := by rfl) (hx : St.ev ⟨l, j, A⟩ x = .pointer (some ⟨b, off, none⟩) := by simp only [St.ev, slk, Nat.reduceBEq, cond_true, cond_false]; first | done | rfl) (hp : Pick (cel m b t' c) A M := by (repeat (first | exact Pick.here | apply Pick.there)); done) (hv : c[off]? = some v := by first | rfl | assumption)
    (k : TG P n ops Q (i :: D) ((i, [cel m b t' c]) :: pend) ⟨(d, v) :: l, j, A⟩) : TG P n ops Q D pend ⟨l, j, A⟩ := TG.q1 i hp ho rfl rfl hok (.yes hw (OpV.load hx .here hv)) k
theorem TG.qLoadA (i : Nat) {x : Operand} {t t' : TypeId} {b off z : Nat} {c : List Value} {M : List SP} {cs : List Value} [a : TyA P t true] [sz : TyS P t z] (ho : ops[i]? = some ⟨some d, .load t x, ty, pos, af, g⟩ := by rfl)
    (hok : okQ ops D (pend.map (·.1)) n i d = true := by rfl) (hw : want ops ⟨l, j, A⟩ ⟨some d, .load t x, ty, pos, af, g⟩ = true := by rfl) (hx : St.ev ⟨l, j, A⟩ x = .pointer (some ⟨b, off, none⟩) := by simp only [St.ev, slk, Nat.reduceBEq, cond_true, cond_false]; first | done | rfl) (hp : Pick (cel m b t' c) A M := by (repeat (first | exact Pick.here | apply Pick.there)); done)
    (hk : Nat.ble (off + z) c.length = true := by rfl) (hv : (c.drop off).take z = cs := by first | exact Go.Fw.seg0 rfl | (simp only [List.drop_succ_cons, List.drop_zero, List.take_succ_cons, List.take_zero]; first | done | rfl))
    (k : TG P n ops Q (i :: D) ((i, [cel m b t' c]) :: pend) ⟨(d, .agg cs.toArray) :: l, j, A⟩) : TG P n ops Q D pend ⟨l, j, A⟩ := TG.q1 i hp ho rfl rfl hok (.yes hw (OpV.loadA hx .here hk hv)) k
variable {e : TypeId} {sz : Nat} {v : Value} {css : List (List Value)} {M : List SP}
theorem TG.qLenR (i : Nat) {x : Operand} {t e' : TypeId} [u : TyU P t (.slice e')] (ho : ops[i]? = some ⟨some d, .call ⟨.builtin .len, #[x], #[t]⟩, ty, pos, af, g⟩ := by rfl)
    (hok : okQ ops D (pend.map (·.1)) n i d = true := by rfl) (hw : want ops ⟨l, j, A⟩ ⟨some d, .call ⟨.builtin .len, #[x], #[t]⟩, ty, pos, af, g⟩ = true := by rfl) (hx : St.ev ⟨l, j, A⟩ x = v := by simp only [St.ev, slk, Nat.reduceBEq, cond_true, cond_false]; first | done | rfl) (hp : Pick (row m e sz v css) A M := by (repeat (first | exact Pick.here | apply Pick.there)); done)
    (k : TG P n ops Q (i :: D) ((i, [row m e sz v css]) :: pend) ⟨(d, .int .i64 css.length) :: l, j, A⟩) : TG P n ops Q D pend ⟨l, j, A⟩ := TG.q1 i hp ho rfl rfl hok (.yes hw (OpV.lenR hx .here)) k
theorem TG.qIndexR (i : Nat) {x y : Operand} {t e' : TypeId} {k : IntKind} {q : Int} [u : TyU P t (.slice e')] [z : TyS P e' sz] (ho : ops[i]? = some ⟨some d, .indexAddr t x y, ty, pos, af, g⟩ := by rfl)
    (hok : okQ ops D (pend.map (·.1)) n i d = true := by rfl) (hw : want ops ⟨l, j, A⟩ ⟨some d, .indexAddr t x y, ty, pos, af, g⟩ = true := by rfl) (hx : St.ev ⟨l, j, A⟩ x = v := by simp only [St.ev, slk, Nat.reduceBEq, cond_true, cond_false]; first | done | rfl) (hi : St.ev ⟨l, j, A⟩ y = .int k q := by simp only [St.ev, slk, Nat.reduceBEq, cond_true, cond_false]; first | done | rfl) (hp : Pick (row m e sz v css) A M := by (repeat (first | exact Pick.here | apply Pick.there)); done) (h0 : 0 ≤ q := by first | omega | (simp; done) | (simp; omega)) (h1 : q < css.length := by first | omega | (simp; done) | (simp; omega)) {q' : Nat} (hq : q.toNat = q' := by first | with_reducible exact Go.Fw.toNat_pred _ | with_reducible exact Int.toNat_natCast _ | exact Int.toNat_natCast _ | rfl)
    (h : TG P n ops Q (i :: D) ((i, [row m e sz v css]) :: pend) ⟨(d, ep v sz q' 0) :: l, j, A⟩) : TG P n ops Q D pend ⟨l, j, A⟩ := TG.q1 i hp ho rfl rfl hok (.yes hw (OpV.indexR (s := ⟨l, j, [row m e sz v css]⟩) hx hi .here h0 h1 hq)) h
theorem TG.qFieldEp (i : Nat) {x : Operand} {t : TypeId} {f q o y r ft : Nat} [u : TyF P t f o ft] (ho : ops[i]? = some ⟨some d, .fieldAddr t x f, ty, pos, af, g⟩ := by rfl)
    (hok : okQ ops D (pend.map (·.1)) n i d = true := by rfl) (hw : want ops ⟨l, j, A⟩ ⟨some d, .fieldAddr t x f, ty, pos, af, g⟩ = true := by rfl) (hx : St.ev ⟨l, j, A⟩ x = ep v sz q y := by simp only [St.ev, slk, Nat.reduceBEq, cond_true, cond_false]; first | done | rfl) (hp : Pick (row m e sz v css) A M := by (repeat (first | exact Pick.here | apply Pick.there)); done) (hi : q < css.length := by first | omega | (simp; done) | (simp; omega)) (hq : y + o = r := by first | (simp only [Nat.zero_add, Nat.add_zero, Nat.reduceAdd]; first | done | rfl) | rfl)
    (h : TG P n ops Q (i :: D) ((i, [row m e sz v css]) :: pend) ⟨(d, ep v sz q r) :: l, j, A⟩) : TG P n ops Q D pend ⟨l, j, A⟩ := TG.q1 i hp ho rfl rfl hok (.yes hw (OpV.fieldEp (s := ⟨l, j, [row m e sz v css]⟩) hx .here hi hq)) h
theorem TG.qLoadEp (i : Nat) {x : Operand} {t : TypeId} {q f : Nat} {xs : List Value} {u : Value} [a : TyA P t false] (ho : ops[i]? = some ⟨some d, .load t x, ty, pos, af, g⟩ := by rfl)
    (hok : okQ ops D (pend.map (·.1)) n i d = true := by rfl) (hw : want ops ⟨l, j, A⟩ ⟨some d, .load t x, ty, pos, af, g⟩ = true := by rfl) (hx : St.ev ⟨l, j, A⟩ x = ep v sz q f := by simp only [St.ev, slk, Nat.reduceBEq, cond_true, cond_false]; first | done | rfl) (hp : Pick (row m e sz v css) A M := by (repeat (first | exact Pick.here | apply Pick.there)); done) (hi : css[q]? = some xs := by first | assumption | rfl) (hu : xs[f]? = some u := by rfl)
    (h : TG P n ops Q (i :: D) ((i, [row m e sz v css]) :: pend) ⟨(d, u) :: l, j, A⟩) : TG P n ops Q D pend ⟨l, j, A⟩ := TG.q1 i hp ho rfl rfl hok (.yes hw (OpV.loadEp hx .here hi hu)) h
theorem TG.qLoadEpA (i : Nat) {x : Operand} {t : TypeId} {q f z : Nat} {xs cs : List Value} [a : TyA P t true] [y : TyS P t z] (ho : ops[i]? = some ⟨some d, .load t x, ty, pos, af, g⟩ := by rfl)
    (hok : okQ ops D (pend.map (·.1)) n i d = true := by rfl) (hw : want ops ⟨l, j, A⟩ ⟨some d, .load t x, ty, pos, af, g⟩ = true := by rfl) (hx : St.ev ⟨l, j, A⟩ x = ep v sz q f := by simp only [St.ev, slk, Nat.reduceBEq, cond_true, cond_false]; first | done | rfl) (hp : Pick (row m e sz v css) A M := by (repeat (first | exact Pick.here | apply Pick.there)); done) (hi : css[q]? = some xs := by first | assumption | rfl)
    (hk : Nat.ble (f + z) sz = true := by rfl) (hu : (xs.drop f).take z = cs := by first | exact Go.Fw.seg0 rfl | (simp only [List.drop_succ_cons, List.drop_zero, List.take_succ_cons, List.take_zero]; first | done | rfl))
    (h : TG P n ops Q (i :: D) ((i, [row m e sz v css]) :: pend) ⟨(d, .agg cs.toArray) :: l, j, A⟩) : TG P n ops Q D pend ⟨l, j, A⟩ := TG.q1 i hp ho rfl rfl hok (.yes hw (OpV.loadEpA hx .here hi hk hu)) h
end
end
end Go.Fw
