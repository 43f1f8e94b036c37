import Derived.Test.YtpbomaelkpjbbaaFwMor
namespace Go.Fw
variable {P : Program} {n : Nat} {s : St}
/-- A slice value. -/
structure Sl where
  a : Option Addr
  k : Nat
  c : Nat
def Sl.v (x : Sl) : Value := .slice x.a x.k x.c
def Sl.nil : Sl := ⟨none, 0, 0⟩
theorem row_sl {m : Bool} {e : TypeId} {sz : Nat} {v : Value} {css : List (List Value)} {A : SP} {w : World} (h : Sat w (sep (row m e sz v css) A)) : ∃ x : Sl, v = x.v := by
  rw [sat_row] at h
  rcases h with ⟨a, rfl, _⟩ | ⟨b, off, cap, c, rfl, _⟩
  · exact ⟨⟨a, 0, 0⟩, rfl⟩
  · exact ⟨⟨_, _, _⟩, rfl⟩
theorem sat_len {m : Bool} {e : TypeId} {sz : Nat} {x : Sl} {css : List (List Value)} {A : SP} {w : World} (h : Sat w (sep (row m e sz x.v css) A)) : x.k = css.length := by
  rw [sat_row] at h
  rcases h with ⟨a, h, _, rfl, _⟩ | ⟨b, off, cap, c, h, _⟩
  · simp only [Sl.v, Value.slice.injEq] at h; simp [h.2.1]
  · simp only [Sl.v, Value.slice.injEq] at h; exact h.2.1

/-! what is known, turned -/
section
variable {ops : Array Oper} {Q : Exit → St → Prop} {l : List (Nat × Value)} {j : Nat → Value} {A B : List SP} {r : List Oper} {c : Code}
theorem T.parts (h : ∀ w, Sat w (seps A) → Sat w (seps B)) (k : T P n c Q ⟨l, j, B⟩) : T P n c Q ⟨l, j, A⟩ := fun a w hf hs => k a w (hf.atoms B) (h w hs)
theorem TL.parts (h : ∀ w, Sat w (seps A) → Sat w (seps B)) (k : TL P n ops Q r ⟨l, j, B⟩) : TL P n ops Q r ⟨l, j, A⟩ := fun a w hf hs => k a w (hf.atoms B) (h w hs)
/-- A fact that memory tells. -/
theorem T.fact {p : Prop} (h : ∀ w, Sat w (seps A) → p) (k : p → T P n c Q ⟨l, j, A⟩) : T P n c Q ⟨l, j, A⟩ := fun a w hf hs => k (h w hs) a w hf hs
theorem TL.fact {p : Prop} (h : ∀ w, Sat w (seps A) → p) (k : p → TL P n ops Q r ⟨l, j, A⟩) : TL P n ops Q r ⟨l, j, A⟩ := fun a w hf hs => k (h w hs) a w hf hs
theorem TL.restart (k : T P n (.region 0 r.toArray false) Q ⟨l, j, A⟩) (hr : T P n (.region 0 r.toArray false) Q ⟨l, j, A⟩ → TL P n ops Q r ⟨l, j, A⟩) : TL P n ops Q r ⟨l, j, A⟩ := hr k
theorem add_nil (m : Bool) (e : TypeId) (sz : Nat) : ∀ w, Sat w (seps A) → Sat w (seps (row m e sz Sl.nil.v [] :: A)) := fun w h => by
  rw [seps]
  show Sat w (sep (row m e sz (.slice none 0 0) []) (seps A))
  rw [row_nil, emp_sep]
  exact h
theorem share_row {e : TypeId} {sz : Nat} {v : Value} {css : List (List Value)} {M : List SP} (hp : Pick (row true e sz v css) A M := by (repeat (first | exact Pick.here | apply Pick.there)); done) : ∀ w, Sat w (seps A) → Sat w (seps (row false e sz v css :: M)) := fun w h => by
  rw [hp.eq] at h
  exact h.shareRow
theorem share_cel {t : TypeId} {b : Nat} {c : List Value} {M : List SP} (hp : Pick (cel true b t c) A M := by (repeat (first | exact Pick.here | apply Pick.there)); done) : ∀ w, Sat w (seps A) → Sat w (seps (cel false b t c :: M)) := fun w h => by
  rw [hp.eq] at h
  exact h.shareCel
theorem dup_row {e : TypeId} {sz : Nat} {v : Value} {css : List (List Value)} {M : List SP} (hp : Pick (row false e sz v css) A M := by (repeat (first | exact Pick.here | apply Pick.there)); done) : ∀ w, Sat w (seps A) → Sat w (seps (row false e sz v css :: row false e sz v css :: M)) := fun w h => by
  rw [hp.eq] at h
  have h' := Sat.mono h (B := sep (sep (row false e sz v css) (row false e sz v css)) (seps M)) fun x ⟨a, b, hab, ha, hb⟩ => ⟨a, b, hab, row_dup ha, hb⟩
  rw [sep_assoc] at h'
  exact h'
theorem dup_cel {t : TypeId} {b : Nat} {c : List Value} {M : List SP} (hp : Pick (cel false b t c) A M := by (repeat (first | exact Pick.here | apply Pick.there)); done) : ∀ w, Sat w (seps A) → Sat w (seps (cel false b t c :: cel false b t c :: M)) := fun w h => by
  rw [hp.eq] at h
  have h' := Sat.mono h (B := sep (sep (cel false b t c) (cel false b t c)) (seps M)) fun x ⟨a, y, hab, ha, hb⟩ => ⟨a, y, hab, cel_dup _ _ _ _ ha, hb⟩
  rw [sep_assoc] at h'
  exact h'
end

section
variable {d : Option Tmp} {ty : TypeId} {pos : String} {af : Array Edge} {g : Option (Nat × Bool)}
/-! rows that are made, with their slices seen -/
class TyBt (P : Program) (t : TypeId) (n : outParam Nat) : Prop where h : ∃ i, P.info? t = some i ∧ i.bytes = n
theorem TyBt.eq {t : TypeId} {k : Nat} {i : TypeInfo} (h : TyBt P t k) (hi : TyI P t i) : i.bytes = k := by
  obtain ⟨i', h1, h2⟩ := h.h
  rw [hi.h] at h1
  cases h1
  exact h2
theorem OpE.mono {o : Oper} {K K' : Value → List SP → Prop} (h : OpE P s o K) (hk : ∀ v w' L, Sat w' (seps L) → K v L → K' v L) : OpE P s o K' := fun w hs => by
  obtain ⟨v, w', L, hr, hs', h1⟩ := h w hs
  exact ⟨v, w', L, hr, hs', hk v w' L hs' h1⟩
theorem OpE.app {t t' e e1 e2 : TypeId} {sz : Nat} {m : Bool} {ti : TypeInfo} {z v v2 : Value} {css css2 : List (List Value)} {M M2 : List SP} {x y : Operand} {bt : Nat} [u : TyU P t (.slice e)] [u' : TyU P t' (.slice e1)] [i : TyI P e ti] [hbt : TyBt P e bt]
    (hx : s.ev x = v := by simp only [St.ev, slk, Nat.reduceBEq, cond_true, cond_false]; first | done | rfl) (hy : s.ev y = v2 := by simp only [St.ev, slk, Nat.reduceBEq, cond_true, cond_false]; first | done | rfl) (hp : Pick (row true e sz v css) s.A M := by (repeat (first | exact Pick.here | apply Pick.there)); done)
    (hp2 : Pick (row m e2 sz v2 css2) M M2 := by (repeat (first | exact Pick.here | apply Pick.there)); done) (hsz : ti.size = sz := by rfl) (hz : ti.zero = some z := by rfl) (hzs : z.cells.size = sz := by rfl)
    (h63 : css.length + css2.length ≤ 9223372036854775807 := by first | omega | (simp; done) | (simp; omega) | (simp at *; omega)) (hb : (css.length + css2.length) * bt ≤ 140737488355328 := by first | omega | (simp; done) | (simp; omega) | (simp at *; omega)) :
    OpE P s ⟨d, .call ⟨.builtin .append, #[x, y], #[t, t']⟩, ty, pos, af, g⟩ fun r L => ∃ q : Sl, r = q.v ∧ L = row true e sz q.v (css ++ css2) :: M := OpE.mono (OpE.append hx hy hp hp2 hsz hz hzs h63 (by rw [hbt.eq i]; exact hb)) fun v w' L hs' hL => by
  subst hL
  obtain ⟨q, rfl⟩ := row_sl hs'
  exact ⟨q, rfl, rfl⟩
theorem OpE.appS {t t' e : TypeId} {ti : TypeInfo} {z v : Value} {a : ByteArray} {css : List (List Value)} {M : List SP} {x y : Operand} {bt : Nat} [u : TyU P t (.slice e)] [u' : TyU P t' .string] [i : TyI P e ti] [hbt : TyBt P e bt]
    (hx : s.ev x = v := by simp only [St.ev, slk, Nat.reduceBEq, cond_true, cond_false]; first | done | rfl) (hy : s.ev y = .string a := by simp only [St.ev, slk, Nat.reduceBEq, cond_true, cond_false]; first | done | rfl) (hp : Pick (row true e 1 v css) s.A M := by (repeat (first | exact Pick.here | apply Pick.there)); done)
    (hsz : ti.size = 1 := by rfl) (hz : ti.zero = some z := by rfl) (hzs : z.cells.size = 1 := by rfl)
    (h63 : css.length + a.size ≤ 9223372036854775807 := by first | omega | (simp; done) | (simp; omega) | (simp at *; omega)) (hb : (css.length + a.size) * bt ≤ 140737488355328 := by first | omega | (simp; done) | (simp; omega) | (simp at *; omega)) :
    OpE P s ⟨d, .call ⟨.builtin .append, #[x, y], #[t, t']⟩, ty, pos, af, g⟩ fun r L => ∃ q : Sl, r = q.v ∧ L = row true e 1 q.v (css ++ bytesCells a) :: M := OpE.mono (OpE.appendS hx hy hp hsz hz hzs h63 (by rw [hbt.eq i]; exact hb)) fun v w' L hs' hL => by
  subst hL
  obtain ⟨q, rfl⟩ := row_sl hs'
  exact ⟨q, rfl, rfl⟩
theorem OpE.bsl {t e : TypeId} {k sz : Nat} {parts : Array (Nat × Operand)} {z : Value} {ps : List (Nat × Value)} {xs : List Value} {css : List (List Value)} [u : TyU P t (.slice e)] [y : TyS P e sz] [zz : TyZ P e z]
    (hk : parts.toList.map (fun p => (p.1, s.ev p.2)) = ps := by simp only [List.map_cons, List.map_nil, St.ev, slk, Nat.reduceBEq, cond_true, cond_false]; first | done | rfl)
    (hk' : ps.map (·.2) = xs := by simp only [List.map_cons, List.map_nil]; first | done | rfl) (hki : ps = (xs.zipIdx 0).map fun p => (p.2, p.1) := by rfl) (hl : xs.length = k := by rfl)
    (hx : (xs.all fun x => x.cells.size == sz && x.cells.toList.all fun c => c.oneCell') = true := by rfl)
    (hsz : Nat.ble (k * sz) 16777216 = true := by rfl) (hkk : Nat.ble k 16777216 = true := by rfl) (hc : (xs.map fun x => x.cells.toList) = css := by simp only [List.map_cons, List.map_nil, Value.cells]; first | done | rfl) :
    OpE P s ⟨d, .buildSlice t k parts, ty, pos, af, g⟩ fun v L => ∃ q : Sl, v = q.v ∧ L = row true e sz q.v css :: s.A := by
  subst hc
  have hx' : ∀ x ∈ xs, x.cells.size = sz ∧ ∀ c ∈ x.cells.toList, c.oneCell' = true := by
    intro x hx2
    have := List.all_eq_true.1 hx x hx2
    simp only [Bool.and_eq_true, beq_iff_eq, List.all_eq_true] at this
    exact this
  refine OpE.mono (OpE.bslice (hk.trans hki) hl hx' hsz hkk) fun v w' L hs' hL => ?_
  subst hL
  obtain ⟨q, rfl⟩ := row_sl hs'
  exact ⟨q, rfl, rfl⟩
/-! slices of slices -/
theorem row_sub {m : Bool} {e : TypeId} {sz : Nat} {a : Option Addr} {k c : Nat} {css : List (List Value)} {A : SP} {w : World} (h : Sat w (sep (row m e sz (.slice a k c) css) A)) {l hi mx : Nat} (h1 : l ≤ hi) (h2 : hi ≤ css.length) (h3 : hi ≤ mx) (h4 : mx ≤ c) :
    Sat w (sep (row m e sz (sliced a l hi mx sz) ((css.take hi).drop l)) A) := by
  rw [sat_row] at h ⊢
  rcases h with ⟨a', hv, hm0, rfl, h⟩ | ⟨b, off, cap, cs, hv, g1, g2, g3, g4, g5, g6⟩
  · simp only [Value.slice.injEq] at hv
    obtain ⟨rfl, rfl, rfl⟩ := hv
    have : l = 0 := by simp at h2; omega
    subst this
    refine .inl ⟨a, ?_, hm0, by simp, h⟩
    have e1 : hi = 0 := by simpa using h2
    have e2 : mx = 0 := by omega
    subst e1; subst e2
    rfl
  · simp only [Value.slice.injEq] at hv
    obtain ⟨rfl, rfl, rfl⟩ := hv
    have hm : mx * sz ≤ c * sz := Nat.mul_le_mul_right _ h4
    by_cases he : mx = l
    · subst he
      have : hi = mx := by omega
      subst this
      refine .inr ⟨b, off, 0, cs, by simp [sliced], by simp, by omega, by omega, by simp [List.drop_take], by simp [List.drop_take, Els.nil], g6⟩
    · have hl : l * sz ≤ mx * sz := Nat.mul_le_mul_right _ (by omega)
      refine .inr ⟨b, off + l * sz, mx - l, cs, ?_, by simp; omega, by omega, ?_, ?_, ?_, g6⟩
      · simp only [sliced, if_neg he, Option.map_some, Addr.add_at, List.length_drop, List.length_take, Nat.min_eq_left h2]
      · rw [Nat.sub_mul]; omega
      · have hel : ∀ (css : List (List Value)) (i : Nat), Els sz css → i ≤ css.length → (css.take i).flatten = css.flatten.take (i * sz) ∧ (css.drop i).flatten = css.flatten.drop (i * sz) := by
          intro css
          induction css with
          | nil => intro i _ hi; simp
          | cons x l ih =>
            intro i hE hi
            have hx := (hE x (by simp)).1
            cases i with
            | zero => simp
            | succ i =>
              obtain ⟨a1, a2⟩ := ih i (fun y hy => hE y (by simp [hy])) (by simpa using hi)
              have e3 : (i + 1) * sz = x.length + i * sz := by rw [hx, Nat.succ_mul]; omega
              constructor
              · rw [e3, List.take_succ_cons, List.flatten_cons, List.flatten_cons, a1, List.take_length_add_append]
              · rw [e3, List.drop_succ_cons, List.flatten_cons, a2, List.drop_length_add_append]
        have hE2 : Els sz (css.take hi) := fun x hx => g5 x (List.mem_of_mem_take hx)
        rw [(hel _ l hE2 (by simp; omega)).2, (hel css hi g5 h2).1, ← g4]
        have hlen : ((css.take hi).drop l).length * sz = hi * sz - l * sz := by
          simp only [List.length_drop, List.length_take, Nat.min_eq_left h2, Nat.sub_mul]
        rw [hlen]
        have hh : hi * sz ≤ css.length * sz := Nat.mul_le_mul_right _ h2
        apply List.ext_getElem?
        intro q
        simp only [List.getElem?_take, List.getElem?_drop]
        have hli : l * sz ≤ hi * sz := Nat.mul_le_mul_right _ h1
        by_cases hq : q < hi * sz - l * sz
        · rw [if_pos hq, if_pos (by omega), if_pos (by omega)]
          congr 1
          omega
        · rw [if_neg hq, if_neg (by omega)]
      · intro x hx
        exact g5 x (List.mem_of_mem_take (List.mem_of_mem_drop hx))
end
end Go.Fw
