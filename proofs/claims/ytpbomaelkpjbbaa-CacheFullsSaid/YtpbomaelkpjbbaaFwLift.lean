import Derived.Test.YtpbomaelkpjbbaaFwRes
import Derived.Test.YtpbomaelkpjbbaaRows
import Derived.WalkKit
import Derived.ProofKit
import Derived.OpenShut
import Derived.WideKeyArgs
namespace Go.Fw
variable {P : Program}

/-! from a contract to a call that only grows memory -/
/-- All of a world, only to be read. -/
def wview (w : World) : Hp
  | 0 => some (false, .gh w.os w.output w.heap.size)
  | i + 1 => (w.heap[i]?).map fun o => (false, .obj o)
def full (w : World) : SP := fun h => ∀ i, h i = wview w i
/-- Parts that are only read, and are so. -/
def Ro (w : World) (A : SP) : Prop := ∃ a, A a ∧ ∀ i x, a i = some x → wview w i = some x
theorem Ro.full (w : World) : Ro w (full w) := ⟨wview w, fun _ => rfl, fun _ _ h => h⟩
theorem Ro.emp (w : World) : Ro w emp := ⟨fun _ => none, fun _ => rfl, fun _ _ h => by cases h⟩
theorem wview_ro {w : World} {i : Nat} {x : Bool × Cel} (h : wview w i = some x) : x.1 = false := by
  cases i with
  | zero => simp only [wview, Option.some.injEq] at h; subst h; rfl
  | succ i =>
    simp only [wview] at h
    cases hw : w.heap[i]? with
    | none => rw [hw] at h; cases h
    | some o => rw [hw] at h; simp only [Option.map_some, Option.some.injEq] at h; subst h; rfl
theorem Ro.sep {w : World} {A B : SP} (ha : Ro w A) (hb : Ro w B) : Ro w (sep A B) := by
  obtain ⟨a, hA, ha⟩ := ha
  obtain ⟨b, hB, hb⟩ := hb
  refine ⟨fun i => match a i with | some x => some x | none => b i, ⟨a, b, fun i => ?_, hA, hB⟩, fun i x hx => ?_⟩
  · unfold Cmp
    cases h1 : a i with
    | none => simp only [h1]
    | some x =>
      cases h2 : b i with
      | none => simp only [h1]
      | some y =>
        have e1 := ha i x h1
        have e2 := hb i y h2
        rw [e1] at e2
        simp only [Option.some.injEq] at e2
        simp only [h1]
        exact ⟨wview_ro e1, e2.symm, trivial⟩
  · cases h1 : a i with
    | none => simp only [h1] at hx; exact hb i x hx
    | some y => simp only [h1, Option.some.injEq] at hx; subst hx; exact ha i y h1
theorem fits_wview (w : World) : Fits (wview w) w := by
  intro i m x h
  cases i with
  | zero =>
    simp only [wview, Option.some.injEq, Prod.mk.injEq] at h
    obtain ⟨rfl, rfl⟩ := h
    refine ⟨rfl, rfl, Nat.le_refl _, fun i c t fr hi hw => ?_⟩
    have := (Array.getElem?_eq_some_iff.1 hw).1
    omega
  | succ i =>
    simp only [wview] at h
    cases hw : w.heap[i]? with
    | none => rw [hw] at h; cases h
    | some o =>
      rw [hw] at h
      simp only [Option.map_some, Option.some.injEq, Prod.mk.injEq] at h
      obtain ⟨rfl, rfl⟩ := h
      exact hw
theorem Ro.sat {w : World} {A : SP} (h : Ro w A) : Sat w A := by
  obtain ⟨a, hA, ha⟩ := h
  exact ⟨a, hA, fun i m x hx => fits_wview w i m x (ha i _ hx)⟩
theorem Ro.seps {w : World} {L : List SP} (h : ∀ A ∈ L, Ro w A) : Ro w (seps L) := by
  induction L with
  | nil => exact Ro.emp w
  | cons A L ih => exact Ro.sep (h A (by simp)) (ih fun B hB => h B (by simp [hB]))
theorem Ro.cel {w : World} {b : Nat} {t : TypeId} {c : List Value} {t' : TypeId} {fr : Nat × Nat} (h : w.heap[b]? = some (.cells c.toArray t' fr)) : Ro w (cel false b t c) := by
  refine ⟨fun i => if i = b + 1 then some (false, .obj (.cells c.toArray t' fr)) else none, ⟨t', fr, fun h => (by cases h), fun i => rfl⟩, fun i x hx => ?_⟩
  by_cases e : i = b + 1
  · subst e
    simp only [if_true] at hx
    simp only [wview, h, Option.map_some]
    exact hx
  · simp [e] at hx
def Keeps (w w' : World) : Prop := ∀ (i : Nat) (o : Obj), w.heap[i]? = some o → w'.heap[i]? = some o
theorem full_grown {w w' : World} {A : SP} (h : Sat w' (sep (full w) A)) : RowKit.Grown w w' ∧ Keeps w w' := by
  obtain ⟨x, hx, hf⟩ := h.left
  have hg : Okg w' w.os w.output w.heap.size := hf 0 false (.gh w.os w.output w.heap.size) (by rw [hx 0]; rfl)
  have hb : ∀ i o, w.heap[i]? = some o → w'.heap[i]? = some o := fun i o hi => hf (i + 1) false (.obj o) (by rw [hx (i + 1)]; simp only [wview, hi, Option.map_some])
  refine ⟨⟨⟨hg.os, hg.out, fun i hi => ?_⟩, fun a => ?_, hg.size⟩, hb⟩
  · obtain ⟨o, ho⟩ : ∃ o, w.heap[i]? = some o := ⟨_, Array.getElem?_eq_getElem hi⟩
    rw [ho, hb i o ho]
    cases o with
    | cells c t fr => exact ⟨rfl, rfl, rfl, fun _ _ => rfl⟩
    | map es clock => exact .inr ⟨rfl, rfl⟩
    | _ => rfl
  · cases hw : w.heap[a.block]? with
    | some o =>
      unfold World.frozen?
      rw [hw, hb _ o hw]
    | none =>
      have hle : w.heap.size ≤ a.block := by
        rcases Nat.lt_or_ge a.block w.heap.size with hlt | hge
        · rw [Array.getElem?_eq_getElem hlt] at hw; cases hw
        · exact hge
      unfold World.frozen?
      rw [hw]
      cases hw' : w'.heap[a.block]? with
      | none => rfl
      | some o =>
        cases o with
        | cells c t fr =>
          have := hg.cold a.block c t fr hle hw'
          subst this
          simp
        | _ => rfl
theorem Ctr.grown {f : FuncId} {args : Array Value} {pre : List SP} {v0 : Value} {w : World} (h : Ctr P f args pre fun v L => v = v0 ∧ L = pre) (hw : ∀ A ∈ pre, Ro w A) :
    Calls P f args w fun e w' => e = .returned v0 ∧ RowKit.Grown w w' ∧ Keeps w w' := by
  have hs : Sat w (seps (pre ++ [full w])) := Ro.sat (Ro.seps fun A hA => by
    rcases List.mem_append.1 hA with hA | hA
    · exact hw A hA
    · simp only [List.mem_singleton] at hA; subst hA; exact Ro.full w)
  refine (h (full w) w hs).mono ?_
  rintro e w' ⟨v, L, rfl, hs', rfl, rfl⟩
  rw [seps_append, sep_comm] at hs'
  refine ⟨rfl, full_grown (A := seps L) ?_⟩
  rw [Fw.seps, Fw.seps, sep_emp] at hs'
  exact hs'

/-! slices that come in -/
theorem flat_one (us : List Value) : (us.map fun u => [u]).flatten = us := by
  induction us with
  | nil => rfl
  | cons u us ih => simp [ih]
theorem ro_row {w : World} {e : TypeId} {a : Addr} {len cap : Nat} {us : List Value} (hl : len ≤ cap) (hm : cap ≤ 9223372036854775807) (hz : us.length = cap)
    (hcell : ∀ i u, us[i]? = some u → w.cell? (a.add i) = some u) (h1 : ∀ u ∈ us, u.oneCell' = true) : Ro w (row false e 1 (.slice (some a) len cap) ((us.take len).map fun u => [u])) := by
  by_cases h0 : cap = 0
  · subst h0
    have hl0 : len = 0 := by omega
    subst hl0
    exact ⟨fun _ => none, .inl ⟨some a, rfl, fun h => (by cases h), by simp, fun _ => rfl⟩, fun i x h => by cases h⟩
  · have hc0 := hcell 0 us[0] (List.getElem?_eq_getElem (by omega))
    have hadd : a.add 0 = a := rfl
    rw [hadd] at hc0
    cases hb : w.heap[a.block]? with
    | none => simp [World.cell?, hb] at hc0
    | some o =>
      cases o with
      | cells c t fr =>
        have hsp : a.spot = none := by
          cases hs : a.spot with
          | none => rfl
          | some k => simp [World.cell?, hb, hs] at hc0
        obtain ⟨b, off, sp⟩ := a
        simp only at hb hsp
        subst hsp
        have hcs : ∀ i u, us[i]? = some u → c[off + i]? = some u := by
          intro i u hu
          have h := hcell i u hu
          rw [Addr.add_at] at h
          simpa [World.cell?, hb] using h
        have hlast := hcs (cap - 1) us[cap - 1] (List.getElem?_eq_getElem (by omega))
        have hsz := (Array.getElem?_eq_some_iff.1 hlast).1
        obtain ⟨h, hh, hv⟩ := Ro.cel (b := b) (t := e) (c := c.toList) (w := w) (t' := t) (fr := fr) (by simpa using hb)
        refine ⟨h, .inr ⟨b, off, cap, c.toList, ?_, ?_, hm, ?_, ?_, ?_, hh⟩, hv⟩
        · simp; omega
        · simp; omega
        · simp; omega
        · rw [flat_one]
          apply List.ext_getElem?
          intro i
          simp only [List.length_map, List.length_take, Nat.mul_one, List.getElem?_take, List.getElem?_drop]
          by_cases hi : i < len
          · rw [if_pos (by omega), if_pos hi]
            have hu : us[i]? = some us[i] := List.getElem?_eq_getElem (by omega)
            rw [hu]
            simpa using hcs i us[i] hu
          · rw [if_neg (by omega), if_neg hi]
        · intro x hx
          obtain ⟨u, hu, rfl⟩ := List.mem_map.1 hx
          exact ⟨rfl, by simpa using h1 u (List.mem_of_mem_take hu)⟩
      | _ => simp [World.cell?, hb] at hc0
section
variable {H : Type} {enc : TypeId × Value → H} {w : World}
theorem open_row_int {t e : TypeId} {v : Value} {d : DataW H} {p : List MemPlace} (ht : P.underlying t = some (.slice e)) (he : P.underlying e = some (.int .i64)) (hc : P.cellsOf e = 1)
    (h : DataW.Trod enc P w 0 (fun _ => true) true t v d p) (hs : ∃ a n k, v = .slice a n k) :
    ∃ (x : Value) (xs : List Int), v = x ∧ Ro w (row false e 1 x (xs.map fun y => [.int .i64 y])) ∧ xs.length ≤ 9223372036854775807 ∧ ∀ y ∈ xs, -9223372036854775808 ≤ y ∧ y ≤ 9223372036854775807 := by
  obtain ⟨a0, n0, k0, rfl⟩ := hs
  obtain ⟨fuel, hf⟩ := h
  rcases ChangeShapes.open_ints ht he hc hf with ⟨hcs, _⟩ | ⟨a, len, cap, zs, hcs, _, hl, hm, hz, _, hcell, hwz⟩
  · simp [Value.cells] at hcs
    obtain ⟨rfl, rfl, rfl⟩ := hcs
    exact ⟨_, [], rfl, ⟨fun _ => none, .inl ⟨none, rfl, fun _ => rfl, rfl, fun _ => rfl⟩, fun i x h => by cases h⟩, by simp, by simp⟩
  · simp [Value.cells] at hcs
    obtain ⟨rfl, rfl, rfl⟩ := hcs
    simp only [if_true] at hz
    have hr := ro_row (w := w) (e := e) (a := a) (len := n0) (cap := k0) (us := zs.map fun y => .int .i64 y) hl (by unfold maxLen at hm; exact hm) (by simp [hz]) (fun i u hu => by
      have hi : i < zs.length := by
        have := (List.getElem?_eq_some_iff.1 hu).1
        simpa using this
      rw [hcell i hi, ← hu]
      simp [List.getD, hi]) (by intro u hu; obtain ⟨y, _, rfl⟩ := List.mem_map.1 hu; rfl)
    refine ⟨_, zs.take n0, rfl, ?_, by unfold maxLen at hm; simp; omega, fun y hy => ?_⟩
    · have e2 : ((zs.map fun y => Value.int .i64 y).take n0).map (fun u => [u]) = (zs.take n0).map fun y => [.int .i64 y] := by
        rw [← List.map_take, List.map_map]; rfl
      rw [e2] at hr
      exact hr
    · have := hwz y (List.mem_of_mem_take hy)
      simpa [Lit.wf, IntKind.min, IntKind.max, IntKind.signed, IntKind.bits] using this
end

/-! arguments, read again -/
open Go.WideElems Go.ChangeShapes Go.RowKit
section
variable {H : Type} {enc : TypeId × Value → H} {W W' : World} {base : Nat}
theorem sameAt_keeps {p : MemPlace} (hg : Keeps W W') (hp : p.block < W.heap.size) : W.sameAt W' p := by
  have h1 := hg p.block _ (Array.getElem?_eq_getElem hp)
  cases p with
  | cell b off =>
    show W'.cell? ⟨b, off, none⟩ = W.cell? ⟨b, off, none⟩
    simp only [World.cell?]
    rw [show W'.heap[b]? = _ from h1, show W.heap[b]? = _ from Array.getElem?_eq_getElem hp]
  | map b =>
    show W'.heap[b]? = W.heap[b]?
    rw [show W'.heap[b]? = _ from h1, show W.heap[b]? = _ from Array.getElem?_eq_getElem hp]
theorem trodAll_stays (hl : laidOutB P = true) (hg : Keeps W W') : ∀ {ts : List TypeId} {vs : List Value} {ds : List (DataW H)} {ps : List MemPlace}, (∀ t ∈ ts, P.readableRec t = true ∧ t < P.types.size) →
    DataW.TrodAll enc P W base (fun _ => true) true ts vs ds ps → (∀ p ∈ ps, p.block < W.heap.size) → ∀ sp : Nat → Bool, (∀ p ∈ ps, sp p.block = true) → DataW.TrodAll enc P W' base sp true ts vs ds ps := by
  intro ts
  induction ts with
  | nil =>
    intro vs ds ps _ h _ sp _
    obtain ⟨rfl, rfl, rfl⟩ := trodAll_nil h
    rfl
  | cons t ts ih =>
    intro vs ds ps ht h hp sp hsp
    obtain ⟨v, vs', d, ds', p, q, rfl, rfl, rfl, h1, h2⟩ := trodAll_cons h
    exact trodAll_cons_mk (Trod_stays hl (ht t (by simp)).1 (ht t (by simp)).2 h1 (fun x hx => sameAt_keeps hg (hp x (by simp [hx]))) fun x hx => hsp x (by simp [hx]))
      (ih (fun u hu => ht u (by simp [hu])) h2 (fun x hx => hp x (by simp [hx])) sp fun x hx => hsp x (by simp [hx]))
/-- A law's post, out of the walk. -/
theorem law_post {f : FuncId} {fn : Func} {s : ChangeSpec} {apart fresh handsOn again : Bool} {args : Array Value} {ds gs : List (DataW H)} {before : List MemPlace} {tb : TypeId}
    (hl : laidOutB P = true) (hp : (fn.params.toList.all fun t => P.readableRec t && decide (t < P.types.size)) = true) (hv : s.vars = []) (hrt : fn.resultTypes = #[tb]) (htb : P.underlying tb = some .bool)
    (hs : s.fn H (ds ++ gs) = { results := [.lit (.bool true)], args := ds })
    (hW : DataW.Whole enc P fn.params.toList s.vars apart W args.toList ds gs before)
    (hc : Calls P f args W fun e W' => e = .returned (.bool true) ∧ Grown W W' ∧ Keeps W W') :
    Calls P f args W fun e W' => ∃ v, e = .returned v ∧ s.post enc P fn apart fresh handsOn again W args v W' := by
  refine hc.mono fun e W' ⟨he, hg, hk⟩ => ?_
  subst he
  have hW' := hW
  obtain ⟨p, q, hA, hV, hb, _, _⟩ := hW
  have hV' : DataW.TrodVars enc P W (fun _ => true) [] gs q := by rw [← hv]; exact hV
  obtain ⟨rfl, rfl⟩ := trodVars_none hV'
  rw [List.append_nil] at hb
  subst hb
  have hpt : ∀ t ∈ fn.params.toList, P.readableRec t = true ∧ t < P.types.size := fun t ht => by
    have := List.all_eq_true.1 hp t ht
    simpa using this
  refine ⟨_, rfl, post_of_same (pa := before) (pv := []) hW' (fun _ _ _ => ?_) (fun sp hsp => ?_) (fun _ _ => ?_) (by simp) (hg.frame _) hg.2.1 (ok_one hrt rfl (okWide_bool_mk htb _))⟩
  · rw [hs, hrt]
    exact trodAll_cons_mk (shut_bool htb _) trodAll_mk0
  · rw [hs]
    exact trodAll_stays hl hk hpt hA (DataW.TrodAll.lt hA) sp hsp
  · rw [hs, hv]
    rfl
end
end Go.Fw
