import Derived.Test.YtpbomaelkpjbbaaFwOps
namespace Go.Fw
variable {P : Program} {n : Nat} {s : St}

/-- Each element has so many cells, each one cell. -/
def Els (sz : Nat) (css : List (List Value)) : Prop := ∀ x ∈ css, x.length = sz ∧ ∀ u ∈ x, u.oneCell' = true
theorem Els.nil (sz : Nat) : Els sz [] := by simp [Els]
theorem Els.append {sz : Nat} {a b : List (List Value)} (ha : Els sz a) (hb : Els sz b) : Els sz (a ++ b) := by
  intro x hx
  rcases List.mem_append.1 hx with h | h
  · exact ha x h
  · exact hb x h
theorem Els.flat {sz : Nat} {css : List (List Value)} (h : Els sz css) : css.flatten.length = css.length * sz := by
  induction css with
  | nil => simp
  | cons x l ih =>
    have h1 := (h x (by simp)).1
    have h2 := ih fun y hy => h y (by simp [hy])
    simp only [List.flatten_cons, List.length_append, h1, h2, List.length_cons, Nat.succ_mul]
    omega
theorem Els.one {sz : Nat} {css : List (List Value)} (h : Els sz css) : ∀ u ∈ css.flatten, u.oneCell' = true := by
  intro u hu
  obtain ⟨x, hx, hux⟩ := List.mem_flatten.1 hu
  exact (h x hx).2 u hux
theorem Els.at {sz : Nat} {css : List (List Value)} (h : Els sz css) {i : Nat} {x : List Value} (hi : css[i]? = some x) {f : Nat} (hf : f < sz) : css.flatten[i * sz + f]? = x[f]? := by
  induction css generalizing i with
  | nil => simp at hi
  | cons y l ih =>
    have h1 := (h y (by simp)).1
    cases i with
    | zero =>
      simp only [List.getElem?_cons_zero, Option.some.injEq] at hi
      subst hi
      simp only [List.flatten_cons, Nat.zero_mul, Nat.zero_add]
      rw [List.getElem?_append_left (by omega)]
    | succ i =>
      simp only [List.getElem?_cons_succ] at hi
      have h2 := ih (fun y hy => h y (by simp [hy])) hi
      simp only [List.flatten_cons]
      rw [List.getElem?_append_right (by rw [h1, Nat.succ_mul]; omega), h1, ← h2]
      congr 1
      rw [Nat.succ_mul]
      omega
theorem Els.seg {sz : Nat} {css : List (List Value)} (h : Els sz css) {i : Nat} {x : List Value} (hi : css[i]? = some x) : (css.flatten.drop (i * sz)).take sz = x := by
  induction css generalizing i with
  | nil => simp at hi
  | cons y l ih =>
    have h1 := (h y (by simp)).1
    cases i with
    | zero =>
      simp only [List.getElem?_cons_zero, Option.some.injEq] at hi
      subst hi
      simp only [List.flatten_cons, Nat.zero_mul, List.drop_zero]
      rw [List.take_append_of_le_length (by omega), List.take_of_length_le (by omega)]
    | succ i =>
      simp only [List.getElem?_cons_succ] at hi
      have h2 := ih (fun y hy => h y (by simp [hy])) hi
      simp only [List.flatten_cons]
      rw [List.drop_append, List.drop_eq_nil_of_le (by rw [h1, Nat.succ_mul]; omega), List.nil_append, h1]
      rw [← h2]
      congr 2
      rw [Nat.succ_mul]
      omega

/-- A slice value that is a row of elements: css are the elements' cells. m: may it be written? -/
def row (m : Bool) (e : TypeId) (sz : Nat) (v : Value) (css : List (List Value)) : SP := fun h =>
  (∃ a, v = .slice a 0 0 ∧ (m = true → a = none) ∧ css = [] ∧ emp h) ∨
  ∃ b off cap c, v = .slice (some ⟨b, off, none⟩) css.length cap ∧ css.length ≤ cap ∧ cap ≤ 9223372036854775807 ∧ off + cap * sz ≤ c.length ∧
    (c.drop off).take (css.length * sz) = css.flatten ∧ Els sz css ∧ cel m b e c h
theorem sat_row {m : Bool} {e : TypeId} {sz : Nat} {v : Value} {css : List (List Value)} {w : World} {A : SP} : Sat w (sep (row m e sz v css) A) ↔
    ((∃ a, v = .slice a 0 0 ∧ (m = true → a = none) ∧ css = [] ∧ Sat w A) ∨ ∃ b off cap c, v = .slice (some ⟨b, off, none⟩) css.length cap ∧ css.length ≤ cap ∧ cap ≤ 9223372036854775807 ∧ off + cap * sz ≤ c.length ∧
      (c.drop off).take (css.length * sz) = css.flatten ∧ Els sz css ∧ Sat w (sep (cel m b e c) A)) := by
  constructor
  · rintro ⟨h, ⟨a, b, hc, ha, hA⟩, hf⟩
    rcases ha with ⟨a', hv, hm, hcs, he⟩ | ⟨b', off, cap, c, h1, h2, h3, h4, h5, h6, h7⟩
    · refine .inl ⟨a', hv, hm, hcs, ?_⟩
      have : h = b := by
        funext i
        have := hc i
        rw [he i] at this
        exact this
      exact ⟨b, hA, this ▸ hf⟩
    · exact .inr ⟨b', off, cap, c, h1, h2, h3, h4, h5, h6, h, ⟨a, b, hc, h7, hA⟩, hf⟩
  · rintro (⟨a', hv, hm, hcs, h, hA, hf⟩ | ⟨b, off, cap, c, h1, h2, h3, h4, h5, h6, h, ⟨a, b', hc, h7, hA⟩, hf⟩)
    · exact ⟨h, ⟨fun _ => none, h, fun i => rfl, .inl ⟨a', hv, hm, hcs, fun _ => rfl⟩, hA⟩, hf⟩
    · exact ⟨h, ⟨a, b', hc, .inr ⟨b, off, cap, c, h1, h2, h3, h4, h5, h6, h7⟩, hA⟩, hf⟩
theorem row_nil (m : Bool) (e : TypeId) (sz : Nat) : row m e sz (.slice none 0 0) [] = emp := by
  funext h
  apply propext
  constructor
  · rintro (⟨_, _, _, _, h⟩ | ⟨b, off, cap, c, h1, _⟩)
    · exact h
    · cases h1
  · intro h
    exact .inl ⟨none, rfl, fun _ => rfl, rfl, h⟩
theorem row_dup {e : TypeId} {sz : Nat} {v : Value} {css : List (List Value)} {h : Hp} (hh : row false e sz v css h) : sep (row false e sz v css) (row false e sz v css) h := by
  rcases hh with ⟨a, hv, hm, hc, he⟩ | ⟨b, off, cap, c, h1, h2, h3, h4, h5, h6, h7⟩
  · exact ⟨fun _ => none, h, fun i => rfl, .inl ⟨a, hv, hm, hc, fun _ => rfl⟩, .inl ⟨a, hv, hm, hc, he⟩⟩
  · obtain ⟨x, y, hxy, hx, hy⟩ := cel_dup _ _ _ _ h7
    exact ⟨x, y, hxy, .inr ⟨b, off, cap, c, h1, h2, h3, h4, h5, h6, hx⟩, .inr ⟨b, off, cap, c, h1, h2, h3, h4, h5, h6, hy⟩⟩
theorem Sat.shareRow {w : World} {e : TypeId} {sz : Nat} {v : Value} {css : List (List Value)} {A : SP} (h : Sat w (sep (row true e sz v css) A)) : Sat w (sep (row false e sz v css) A) := by
  rw [sat_row] at h ⊢
  rcases h with ⟨a, h1, h2, h3, h4⟩ | ⟨b, off, cap, c, h1, h2, h3, h4, h5, h6, h7⟩
  · exact .inl ⟨a, h1, fun _ => h2 rfl, h3, h4⟩
  · exact .inr ⟨b, off, cap, c, h1, h2, h3, h4, h5, h6, h7.shareCel⟩
theorem Pick.isRow {m : Bool} {e : TypeId} {sz : Nat} {v : Value} {css : List (List Value)} {A M : List SP} (h : Pick (row m e sz v css) A M) {w : World} (hs : Sat w (Fw.seps A)) :
    (∃ a, v = .slice a 0 0 ∧ (m = true → a = none) ∧ css = []) ∨ ∃ (b off cap : Nat) (c : List Value), v = .slice (some ⟨b, off, none⟩) css.length cap ∧ css.length ≤ cap ∧ cap ≤ 9223372036854775807 ∧ off + cap * sz ≤ c.length ∧
      (c.drop off).take (css.length * sz) = css.flatten ∧ Els sz css ∧ ∃ t' fr, w.heap[b]? = some (.cells c.toArray t' fr) := by
  rw [h.eq, sat_row] at hs
  rcases hs with ⟨a, h1, h2, h3, _⟩ | ⟨b, off, cap, c, h1, h2, h3, h4, h5, h6, h7⟩
  · exact .inl ⟨a, h1, h2, h3⟩
  · exact .inr ⟨b, off, cap, c, h1, h2, h3, h4, h5, h6, h7.celBlock⟩

/-- The place of element i's cell f. -/
def ep (v : Value) (sz i f : Nat) : Value :=
  match v with
  | .slice (some a) _ _ => .pointer (some ⟨a.block, a.off + (i * sz + f), none⟩)
  | _ => .pointer none

section
variable {d : Option Tmp} {ty : TypeId} {pos : String} {af : Array Edge} {g : Option (Nat × Bool)} {m : Bool} {e : TypeId} {sz : Nat} {v : Value} {css : List (List Value)} {M : List SP}
theorem OpV.lenR {x : Operand} {t e' : TypeId} [u : TyU P t (.slice e')] (hx : s.ev x = v := by simp only [St.ev, slk, Nat.reduceBEq, cond_true, cond_false]; first | done | rfl) (hp : Pick (row m e sz v css) s.A M := by (repeat (first | exact Pick.here | apply Pick.there)); done) :
    OpV P s ⟨d, .call ⟨.builtin .len, #[x], #[t]⟩, ty, pos, af, g⟩ (.int .i64 css.length) := fun w hs => by
  simp only [execOp, resolve, invoke, builtin, Builtin.len_, List.map_toArray, List.map_cons, List.map_nil, hx]
  rcases hp.isRow hs with ⟨_, rfl, _, rfl⟩ | ⟨b, off, cap, c, rfl, _⟩ <;> simp [u.h w, goInt]
theorem OpV.indexR {x i : Operand} {t e' : TypeId} {k : IntKind} {q : Int} [u : TyU P t (.slice e')] [z : TyS P e' sz] (hx : s.ev x = v := by simp only [St.ev, slk, Nat.reduceBEq, cond_true, cond_false]; first | done | rfl) (hi : s.ev i = .int k q := by simp only [St.ev, slk, Nat.reduceBEq, cond_true, cond_false]; first | done | rfl) (hp : Pick (row m e sz v css) s.A M := by (repeat (first | exact Pick.here | apply Pick.there)); done)
    (h0 : 0 ≤ q := by first | omega | (simp; done) | (simp; omega)) (h1 : q < css.length := by first | omega | (simp; done) | (simp; omega)) {q' : Nat} (hq : q.toNat = q' := by first | with_reducible exact Go.Fw.toNat_pred _ | with_reducible exact Int.toNat_natCast _ | exact Int.toNat_natCast _ | rfl) : OpV P s ⟨d, .indexAddr t x i, ty, pos, af, g⟩ (ep v sz q' 0) := fun w hs => by
  subst hq
  simp only [execOp, Instr.indexAt, hx, hi]
  rcases hp.isRow hs with ⟨_, rfl, _, rfl⟩ | ⟨b, off, cap, c, rfl, _⟩
  · simp at h1; omega
  · simp [u.h w, asIntOf, h0, h1, z.h w, ep, Addr.add_at]
theorem OpV.fieldEp {x : Operand} {t : TypeId} {f i o q r ft : Nat} [u : TyF P t f o ft] (hx : s.ev x = ep v sz i q := by simp only [St.ev, slk, Nat.reduceBEq, cond_true, cond_false]; first | done | rfl) (hp : Pick (row m e sz v css) s.A M := by (repeat (first | exact Pick.here | apply Pick.there)); done) (hi : i < css.length := by first | omega | (simp; done) | (simp; omega))
    (hq : q + o = r := by first | (simp only [Nat.zero_add, Nat.add_zero, Nat.reduceAdd]; first | done | rfl) | rfl) : OpV P s ⟨d, .fieldAddr t x f, ty, pos, af, g⟩ (ep v sz i r) := fun w hs => by
  subst hq
  obtain ⟨fs, fd, hu, hf, ho, ht, z, hz, hz0⟩ := u.h
  subst ho
  subst ht
  simp only [execOp, Instr.fieldAt, hx]
  rcases hp.isRow hs with ⟨_, rfl, _, rfl⟩ | ⟨b, off, cap, c, rfl, _⟩
  · simp at hi
  · simp [run_underlying hu, hf, Instr.sureAddr, fieldPlace, hz w, hz0, ep, Addr.add_at, Nat.add_assoc]
theorem row_cell {off : Nat} {c : List Value} {x : List Value} {i f : Nat} {u : Value} (h5 : (c.drop off).take (css.length * sz) = css.flatten) (h6 : Els sz css)
    (hi : css[i]? = some x) (hf : x[f]? = some u) : c[off + (i * sz + f)]? = some u := by
  have hxl := (h6 x (List.mem_of_getElem? hi)).1
  have hfl : f < sz := by
    have := (List.getElem?_eq_some_iff.1 hf).1
    omega
  have hil : i < css.length := (List.getElem?_eq_some_iff.1 hi).1
  have h := h6.at hi hfl
  rw [← h5, List.getElem?_take, if_pos, List.getElem?_drop] at h
  · rw [h, hf]
  · have : (i + 1) * sz ≤ css.length * sz := Nat.mul_le_mul_right _ hil
    rw [Nat.succ_mul] at this
    omega
theorem OpV.loadEp {x : Operand} {t : TypeId} {i f : Nat} {xs : List Value} {u : Value} [a : TyA P t false] (hx : s.ev x = ep v sz i f := by simp only [St.ev, slk, Nat.reduceBEq, cond_true, cond_false]; first | done | rfl) (hp : Pick (row m e sz v css) s.A M := by (repeat (first | exact Pick.here | apply Pick.there)); done) (hi : css[i]? = some xs := by first | assumption | rfl) (hu : xs[f]? = some u := by rfl) :
    OpV P s ⟨d, .load t x, ty, pos, af, g⟩ u := fun w hs => by
  rcases hp.isRow hs with ⟨_, rfl, _, rfl⟩ | ⟨b, off, cap, c, rfl, h2, h3, h4, h5, h6, _, _, h7⟩
  · simp at hi
  · have hc := cell_of h7 (row_cell h5 h6 hi hu)
    simp only [execOp, Instr.loadAt, hx, ep]
    simp [Instr.sureAddr, loadVar, a.h w, hc]
theorem OpV.loadEpA {x : Operand} {t : TypeId} {i f z : Nat} {xs cs : List Value} [a : TyA P t true] [y : TyS P t z] (hx : s.ev x = ep v sz i f := by simp only [St.ev, slk, Nat.reduceBEq, cond_true, cond_false]; first | done | rfl) (hp : Pick (row m e sz v css) s.A M := by (repeat (first | exact Pick.here | apply Pick.there)); done) (hi : css[i]? = some xs := by first | assumption | rfl)
    (hk : Nat.ble (f + z) sz = true := by rfl) (hu : (xs.drop f).take z = cs := by first | exact Go.Fw.seg0 rfl | (simp only [List.drop_succ_cons, List.drop_zero, List.take_succ_cons, List.take_zero]; first | done | rfl)) : OpV P s ⟨d, .load t x, ty, pos, af, g⟩ (.agg cs.toArray) := fun w hs => by
  subst hu
  have hk' : f + z ≤ sz := by simpa using hk
  rcases hp.isRow hs with ⟨_, rfl, _, rfl⟩ | ⟨b, off, cap, c, rfl, h2, h3, h4, h5, h6, _, _, h7⟩
  · simp at hi
  · have hil : i < css.length := (List.getElem?_eq_some_iff.1 hi).1
    have hm : (i + 1) * sz ≤ css.length * sz := Nat.mul_le_mul_right _ hil
    have hm2 : css.length * sz ≤ cap * sz := Nat.mul_le_mul_right _ h2
    rw [Nat.succ_mul] at hm
    have hc := run_loadCells_at (P := P) (k := z) (off := off + (i * sz + f)) h7 (by omega)
    have hseg := h6.seg hi
    have e : (c.drop (off + (i * sz + f))).take z = (xs.drop f).take z := by
      rw [← hseg, ← h5]
      apply List.ext_getElem?
      intro q
      simp only [List.getElem?_take, List.getElem?_drop]
      by_cases hq : q < z
      · rw [if_pos hq, if_pos hq, if_pos (by omega), if_pos (by omega)]
        congr 1
        omega
      · rw [if_neg hq, if_neg hq]
    rw [e] at hc
    simp only [execOp, Instr.loadAt, hx, ep]
    simp [Instr.sureAddr, loadVar, a.h w, y.h w, hc]
end
end Go.Fw
