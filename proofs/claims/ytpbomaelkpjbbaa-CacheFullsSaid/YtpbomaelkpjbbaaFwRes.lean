import Derived.Test.YtpbomaelkpjbbaaFwSl
namespace Go.Fw
variable {P : Program} {n : Nat} {s : St}
section
variable {d : Option Tmp} {ty : TypeId} {pos : String} {af : Array Edge} {g : Option (Nat × Bool)}
/-! slices of slices: the row that was is given up -/
theorem elem_of {t e : TypeId} (u : P.underlying t = some (.slice e)) : P.elem t = e := by simp [Program.elem, u]
theorem sliced_v (a : Option Addr) (l h m sz : Nat) : ∃ x : Sl, sliced a l h m sz = x.v := ⟨⟨_, _, _⟩, rfl⟩
theorem Pick.sub {m : Bool} {e : TypeId} {sz : Nat} {x : Sl} {css : List (List Value)} {A M : List SP} (hp : Pick (row m e sz x.v css) A M) {w : World} (hs : Sat w (seps A)) : x.k = css.length := by
  rw [hp.eq] at hs
  exact sat_len hs
theorem Pick.cap {m : Bool} {e : TypeId} {sz : Nat} {x : Sl} {css : List (List Value)} {A M : List SP} (hp : Pick (row m e sz x.v css) A M) {w : World} (hs : Sat w (seps A)) : css.length ≤ x.c := by
  rcases hp.isRow hs with ⟨_, h, _, rfl⟩ | ⟨_, _, _, _, h, h2, _⟩
  · simp
  · simp only [Sl.v, Value.slice.injEq] at h; omega
theorem OpE.subL {t e : TypeId} {x i : Operand} {k : IntKind} {q : Int} {lo sz : Nat} {m : Bool} {y : Sl} {css : List (List Value)} {M : List SP} [u : TyU P t (.slice e)] [z : TyS P e sz] (hx : s.ev x = y.v := by simp only [St.ev, slk, Nat.reduceBEq, cond_true, cond_false]; first | done | rfl) (hi : s.ev i = .int k q := by simp only [St.ev, slk, Nat.reduceBEq, cond_true, cond_false]; first | done | rfl)
    (hp : Pick (row m e sz y.v css) s.A M := by (repeat (first | exact Pick.here | apply Pick.there)); done) (hq : q.toNat = lo := by first | with_reducible exact Go.Fw.toNat_pred _ | with_reducible exact Int.toNat_natCast _ | exact Int.toNat_natCast _ | rfl) (h0 : 0 ≤ q := by first | omega | (simp; done) | (simp; omega)) (h1 : q ≤ css.length := by first | omega | (simp; done) | (simp; omega)) :
    OpE P s ⟨d, .slice t x (some i) none none, ty, pos, af, g⟩ fun v L => ∃ r : Sl, v = r.v ∧ L = row m e sz r.v (css.drop lo) :: M := fun w hs => by
  subst hq
  have hl := hp.sub hs
  have hc := hp.cap hs
  have hT : P.underlying t = some (.slice (P.elem t)) := by rw [elem_of u.u]; exact u.u
  have hr := run_slice_l w t y.a y.k y.c hT k q h0 (by omega)
  have hs2 := hs
  rw [hp.eq] at hs2
  have h3 := row_sub (l := q.toNat) (hi := css.length) (mx := y.c) hs2 (by omega) (Nat.le_refl _) hc (Nat.le_refl _)
  rw [List.take_length] at h3
  refine ⟨sliced y.a q.toNat y.k y.c sz, w, _, ?_, ?_, ⟨⟨_, _, _⟩, rfl, rfl⟩⟩
  · simp only [execOp, Option.map_some, Option.map_none, hx, hi, Sem.run_bind]
    rw [run_sliceAt_slice w t _ _ _ _ hT]
    simp only [Sl.v] at hr ⊢
    rw [hr, elem_of u.u, z.h w]
    rfl
  · show Sat w (sep (row m e sz (sliced y.a q.toNat y.k y.c sz) (css.drop q.toNat)) (seps M))
    rw [hl]
    exact h3
theorem OpE.subH {t e : TypeId} {x i : Operand} {k : IntKind} {q : Int} {hi' sz : Nat} {m : Bool} {y : Sl} {css : List (List Value)} {M : List SP} [u : TyU P t (.slice e)] [z : TyS P e sz] (hx : s.ev x = y.v := by simp only [St.ev, slk, Nat.reduceBEq, cond_true, cond_false]; first | done | rfl) (hi : s.ev i = .int k q := by simp only [St.ev, slk, Nat.reduceBEq, cond_true, cond_false]; first | done | rfl)
    (hp : Pick (row m e sz y.v css) s.A M := by (repeat (first | exact Pick.here | apply Pick.there)); done) (hq : q.toNat = hi' := by first | with_reducible exact Go.Fw.toNat_pred _ | with_reducible exact Int.toNat_natCast _ | exact Int.toNat_natCast _ | rfl) (h0 : 0 ≤ q := by first | omega | (simp; done) | (simp; omega)) (h1 : q ≤ css.length := by first | omega | (simp; done) | (simp; omega)) :
    OpE P s ⟨d, .slice t x none (some i) none, ty, pos, af, g⟩ fun v L => ∃ r : Sl, v = r.v ∧ L = row m e sz r.v (css.take hi') :: M := fun w hs => by
  subst hq
  have hl := hp.sub hs
  have hc := hp.cap hs
  have hT : P.underlying t = some (.slice (P.elem t)) := by rw [elem_of u.u]; exact u.u
  have hr := run_slice_h w t y.a y.k y.c hT k q h0 (by omega)
  have hs2 := hs
  rw [hp.eq] at hs2
  have h3 := row_sub (l := 0) (hi := q.toNat) (mx := y.c) hs2 (by omega) (by omega) (by omega) (Nat.le_refl _)
  rw [List.drop_zero] at h3
  refine ⟨sliced y.a 0 q.toNat y.c sz, w, row m e sz (sliced y.a 0 q.toNat y.c sz) (css.take q.toNat) :: M, ?_, h3, ⟨⟨_, _, _⟩, rfl, rfl⟩⟩
  simp only [execOp, Option.map_some, Option.map_none, hx, hi, Sem.run_bind]
  rw [run_sliceAt_slice w t _ _ _ _ hT]
  simp only [Sl.v] at hr ⊢
  rw [hr, elem_of u.u, z.h w]
  rfl
theorem OpE.subLH {t e : TypeId} {x i i2 : Operand} {k k2 : IntKind} {q q2 : Int} {lo hi' sz : Nat} {m : Bool} {y : Sl} {css : List (List Value)} {M : List SP} [u : TyU P t (.slice e)] [z : TyS P e sz] (hx : s.ev x = y.v := by simp only [St.ev, slk, Nat.reduceBEq, cond_true, cond_false]; first | done | rfl) (hi : s.ev i = .int k q := by simp only [St.ev, slk, Nat.reduceBEq, cond_true, cond_false]; first | done | rfl)
    (hi2 : s.ev i2 = .int k2 q2 := by simp only [St.ev, slk, Nat.reduceBEq, cond_true, cond_false]; first | done | rfl)
    (hp : Pick (row m e sz y.v css) s.A M := by (repeat (first | exact Pick.here | apply Pick.there)); done) (hq : q.toNat = lo := by first | with_reducible exact Go.Fw.toNat_pred _ | with_reducible exact Int.toNat_natCast _ | exact Int.toNat_natCast _ | rfl) (hq2 : q2.toNat = hi' := by first | with_reducible exact Go.Fw.toNat_pred _ | with_reducible exact Int.toNat_natCast _ | exact Int.toNat_natCast _ | rfl)
    (h0 : 0 ≤ q := by first | omega | (simp; done) | (simp; omega)) (h1 : q ≤ q2 := by first | omega | (simp; done) | (simp; omega)) (h2 : q2 ≤ css.length := by first | omega | (simp; done) | (simp; omega)) :
    OpE P s ⟨d, .slice t x (some i) (some i2) none, ty, pos, af, g⟩ fun v L => ∃ r : Sl, v = r.v ∧ L = row m e sz r.v ((css.take hi').drop lo) :: M := fun w hs => by
  subst hq
  subst hq2
  have hl := hp.sub hs
  have hc := hp.cap hs
  have hT : P.underlying t = some (.slice (P.elem t)) := by rw [elem_of u.u]; exact u.u
  have hr := run_slice_lh w t y.a y.k y.c hT k k2 q q2 h0 h1 (by omega)
  have hs2 := hs
  rw [hp.eq] at hs2
  have h3 := row_sub (l := q.toNat) (hi := q2.toNat) (mx := y.c) hs2 (by omega) (by omega) (by omega) (Nat.le_refl _)
  refine ⟨sliced y.a q.toNat q2.toNat y.c sz, w, row m e sz (sliced y.a q.toNat q2.toNat y.c sz) ((css.take q2.toNat).drop q.toNat) :: M, ?_, h3, ⟨⟨_, _, _⟩, rfl, rfl⟩⟩
  simp only [execOp, Option.map_some, Option.map_none, hx, hi, hi2, Sem.run_bind]
  rw [run_sliceAt_slice w t _ _ _ _ hT]
  simp only [Sl.v] at hr ⊢
  rw [hr, elem_of u.u, z.h w]
  rfl

/-! structs held against each other -/
inductive KK where | int (k : IntKind) | str | bool
def KK.is : KK → Value → Bool
  | .int k, .int k' _ => k == k'
  | .str, .string _ => true
  | .bool, .bool _ => true
  | _, _ => false
def ceq : Value → Value → Bool
  | .int _ a, .int _ b => a == b
  | .string a, .string b => a == b
  | .bool a, .bool b => a == b
  | _, _ => false
def kinds : List KK → List Value → Bool
  | [], [] => true
  | k :: ks, v :: vs => k.is v && kinds ks vs
  | _, _ => false
def ceqs : List Value → List Value → Bool
  | x :: xs, y :: ys => ceq x y && ceqs xs ys
  | _, _ => true
theorem kinds_len : ∀ {ks : List KK} {vs : List Value}, kinds ks vs = true → vs.length = ks.length := by
  intro ks
  induction ks with
  | nil => intro vs h; cases vs with | nil => rfl | cons => cases h
  | cons k ks ih => intro vs h; cases vs with | nil => cases h | cons v vs => simp only [kinds, Bool.and_eq_true] at h; simp [ih h.2]
theorem kinds_append : ∀ {ks ks' : List KK} {vs : List Value}, kinds (ks ++ ks') vs = true → kinds ks (vs.take ks.length) = true ∧ kinds ks' (vs.drop ks.length) = true := by
  intro ks
  induction ks with
  | nil => intro ks' vs h; simpa [kinds] using h
  | cons k ks ih =>
    intro ks' vs h
    cases vs with
    | nil => cases h
    | cons v vs =>
      simp only [List.cons_append, kinds, Bool.and_eq_true] at h
      obtain ⟨h1, h2⟩ := ih h.2
      simp [kinds, h.1, h1, h2]
theorem ceqs_append : ∀ {xs ys xs' ys' : List Value}, xs.length = ys.length → ceqs (xs ++ xs') (ys ++ ys') = (ceqs xs ys && ceqs xs' ys') := by
  intro xs
  induction xs with
  | nil => intro ys xs' ys' h; cases ys with | nil => simp [ceqs] | cons => cases h
  | cons x xs ih => intro ys xs' ys' h; cases ys with | nil => cases h | cons y ys => simp only [List.cons_append, ceqs, ih (by simpa using h), Bool.and_assoc]
/-- A part's value from its cells. -/
def pv (b : Bool) (cs : List Value) : Value := bif b then .agg cs.toArray else cs.headD undef
class TyEq (P : Program) (t : TypeId) (b : outParam Bool) (m : outParam Nat) (ks : outParam (List KK)) : Prop where
  a : TyA P t b
  z : TyS P t ks.length
  one : b = false → ks.length = 1
  h : ∀ d, m ≤ d → ∀ w xs ys, kinds ks xs = true → kinds ks ys = true → (Op.equalIn d t (pv b xs) (pv b ys)).run P w = .ok (ceqs xs ys) w
theorem run_part_ {t : TypeId} {b : Bool} {z : Nat} (ha : TyA P t b) (hz : TyS P t z) (h1 : b = false → z = 1) (cs : List Value) (off : Nat) (ho : off + z ≤ cs.length) (w : World) :
    (part t cs.toArray off).run P w = .ok (pv b ((cs.drop off).take z)) w := by
  cases b with
  | true => simp [part, ha.h w, hz.h w, pv, List.drop_take]
  | false =>
    obtain rfl := h1 rfl
    have hc : cs[off]? = some cs[off] := List.getElem?_eq_getElem (by omega)
    have : (cs.drop off).take 1 = [cs[off]] := by
      rw [List.drop_eq_getElem_cons (by omega)]; rfl
    simp [part, ha.h w, pv, this, hc]
theorem kinds_int {k : IntKind} {xs : List Value} (h : kinds [.int k] xs = true) : ∃ x, xs = [.int k x] := by
  match xs with
  | [] => cases h
  | v :: w :: l => simp [kinds] at h
  | [v] => cases v <;> simp [kinds, KK.is] at h; subst h; exact ⟨_, rfl⟩
theorem kinds_str {xs : List Value} (h : kinds [.str] xs = true) : ∃ x, xs = [.string x] := by
  match xs with
  | [] => cases h
  | v :: w :: l => simp [kinds] at h
  | [v] => cases v <;> simp [kinds, KK.is] at h; exact ⟨_, rfl⟩
theorem kinds_bool {xs : List Value} (h : kinds [.bool] xs = true) : ∃ x, xs = [.bool x] := by
  match xs with
  | [] => cases h
  | v :: w :: l => simp [kinds] at h
  | [v] => cases v <;> simp [kinds, KK.is] at h; exact ⟨_, rfl⟩
instance TyEq.int {t : TypeId} {k : IntKind} [u : TyU P t (.int k)] [a : TyA P t false] [z : TyS P t 1] : TyEq P t false 1 [.int k] := ⟨a, z, fun _ => rfl, fun d hd w xs ys hx hy => by
  obtain ⟨d, rfl⟩ : ∃ d', d = d' + 1 := ⟨d - 1, by omega⟩
  obtain ⟨x, rfl⟩ := kinds_int hx
  obtain ⟨y, rfl⟩ := kinds_int hy
  rw [show pv false [Value.int k x] = .int k x from rfl, show pv false [Value.int k y] = .int k y from rfl, run_equalIn_int w d t k k x y u.u]
  simp [ceqs, ceq]⟩
instance TyEq.str {t : TypeId} [u : TyU P t .string] [a : TyA P t false] [z : TyS P t 1] : TyEq P t false 1 [.str] := ⟨a, z, fun _ => rfl, fun d hd w xs ys hx hy => by
  obtain ⟨d, rfl⟩ : ∃ d', d = d' + 1 := ⟨d - 1, by omega⟩
  obtain ⟨x, rfl⟩ := kinds_str hx
  obtain ⟨y, rfl⟩ := kinds_str hy
  rw [show pv false [Value.string x] = .string x from rfl, show pv false [Value.string y] = .string y from rfl, run_equalIn_string w d t x y u.u]
  simp [ceqs, ceq, beq_toListBytes]⟩
instance TyEq.bool {t : TypeId} [u : TyU P t .bool] [a : TyA P t false] [z : TyS P t 1] : TyEq P t false 1 [.bool] := ⟨a, z, fun _ => rfl, fun d hd w xs ys hx hy => by
  obtain ⟨d, rfl⟩ : ∃ d', d = d' + 1 := ⟨d - 1, by omega⟩
  obtain ⟨x, rfl⟩ := kinds_bool hx
  obtain ⟨y, rfl⟩ := kinds_bool hy
  rw [show pv false [Value.bool x] = .bool x from rfl, show pv false [Value.bool y] = .bool y from rfl, run_equalIn_bool' w d t x y u.u]
  simp [ceqs, ceq]⟩
inductive EqFs (P : Program) : List Field → Nat → Nat → List KK → Prop where
  | nil {o m : Nat} : EqFs P [] o m []
  | cons {a : String} {t o o' m : Nat} {b : Bool} {c d : String} {e : Nat} {fs : List Field} {f : Bool} {m1 : Nat} {ks ks' : List KK} (h : TyEq P t f m1 ks) (hn : (a == "_") = false) (ho : o + ks.length = o') (hm : Nat.ble m1 m = true) (k : EqFs P fs o' m ks') : EqFs P (⟨a, t, o, b, c, d, e⟩ :: fs) o m (ks ++ ks')
theorem EqFs.run {fs : List Field} {o m : Nat} {ks : List KK} (h : EqFs P fs o m ks) : ∀ d, m ≤ d → ∀ w (xs ys : List Value), xs.length = o + ks.length → ys.length = o + ks.length → kinds ks (xs.drop o) = true → kinds ks (ys.drop o) = true →
    (Op.eqFields d xs.toArray ys.toArray fs).run P w = .ok (ceqs (xs.drop o) (ys.drop o)) w := by
  induction h with
  | @nil o m =>
    intro d _ w xs ys hx hy _ _
    have h0 : xs.drop o = [] := List.drop_eq_nil_of_le (by simp at hx; omega)
    simp [Op.eqFields, h0, ceqs]
  | @cons a t o o' m b c dd e fs f m1 ks ks' h hn ho hm k ih =>
    intro d hd w xs ys hx hy hkx hky
    subst ho
    simp only [List.length_append] at hx hy
    obtain ⟨kx1, kx2⟩ := kinds_append hkx
    obtain ⟨ky1, ky2⟩ := kinds_append hky
    rw [List.drop_drop] at kx2 ky2
    have px := run_part_ h.a h.z h.one xs o (by omega) w
    have py := run_part_ h.a h.z h.one ys o (by omega) w
    have pe := h.h d (by simp at hm; omega) w _ _ kx1 ky1
    have ih' := ih d hd w xs ys (by omega) (by omega) kx2 ky2
    have hne : a ≠ "_" := by simpa using hn
    simp only [Op.eqFields, hne, ne_eq, not_false_eq_true, if_true, Sem.run_bind, px, py, pe, Result.andThen_ok]
    have hsx : xs.drop o = (xs.drop o).take ks.length ++ xs.drop (o + ks.length) := by rw [← List.drop_drop, List.take_append_drop]
    have hsy : ys.drop o = (ys.drop o).take ks.length ++ ys.drop (o + ks.length) := by rw [← List.drop_drop, List.take_append_drop]
    have hce : ceqs (xs.drop o) (ys.drop o) = (ceqs ((xs.drop o).take ks.length) ((ys.drop o).take ks.length) && ceqs (xs.drop (o + ks.length)) (ys.drop (o + ks.length))) := by
      conv => lhs; rw [hsx, hsy]
      exact ceqs_append (by simp; omega)
    rw [hce]
    cases hc : ceqs ((xs.drop o).take ks.length) ((ys.drop o).take ks.length) with
    | false => simp
    | true => simp [ih']
theorem TyEq.strct {t : TypeId} {fs : Array Field} {m : Nat} {ks : List KK} (u : P.underlying t = some (.struct fs)) (hp : P.stoodInHeld t = false) (a : TyA P t true) (z : TyS P t ks.length) (h : EqFs P fs.toList 0 m ks) : TyEq P t true (m + 1) ks :=
  ⟨a, z, fun h => (by cases h), fun d hd w xs ys hx hy => by
    obtain ⟨d, rfl⟩ : ∃ d', d = d' + 1 := ⟨d - 1, by omega⟩
    have hf : P.fieldsOf t = fs := by simp [Program.fieldsOf, u]
    have hu : P.underlying t = some (.struct (P.fieldsOf t)) := by rw [hf]; exact u
    rw [show pv true xs = .agg xs.toArray from rfl, show pv true ys = .agg ys.toArray from rfl, run_equalIn_struct w d t _ _ hu hp, hf]
    have := h.run d (by omega) w xs ys (by rw [kinds_len hx]; simp) (by rw [kinds_len hy]; simp) (by simpa using hx) (by simpa using hy)
    simpa using this⟩
class TyG (P : Program) (t : TypeId) : Prop where h : P.eqGuardType P.depth t = false
theorem OpV.eqA {t t' : TypeId} {x y : Operand} {xs ys : List Value} {m : Nat} {ks : List KK} {q : Bool} [e : TyEq P t true m ks] [gg : TyG P t] (hx : s.ev x = .agg xs.toArray := by simp only [St.ev, slk, Nat.reduceBEq, cond_true, cond_false]; first | done | rfl) (hy : s.ev y = .agg ys.toArray := by simp only [St.ev, slk, Nat.reduceBEq, cond_true, cond_false]; first | done | rfl)
    (hm : Nat.ble m 10000 = true := by rfl) (h1 : kinds ks xs = true := by rfl) (h2 : kinds ks ys = true := by rfl) (hq : ceqs xs ys = q := by first | rfl | (simp only [ceqs, ceq, Bool.and_true]; first | done | rfl)) : OpV P s ⟨d, .binOp .eql t x y t', ty, pos, af, g⟩ (.bool q) := fun w _ => by
  subst hq
  have h := e.h 10000 (by simpa using hm) w xs ys h1 h2
  have h' : (Op.equalIn 10000 t (.agg xs.toArray) (.agg ys.toArray)).run P w = .ok (ceqs xs ys) w := h
  simp only [execOp, hx, hy, Sem.run_bind, run_eqGuard_agg w .eql t x y _ _ gg.h, run_eql_struct w t, h', Result.andThen_ok]
  rfl
theorem OpV.neA {t t' : TypeId} {x y : Operand} {xs ys : List Value} {m : Nat} {ks : List KK} {q : Bool} [e : TyEq P t true m ks] [gg : TyG P t] (hx : s.ev x = .agg xs.toArray := by simp only [St.ev, slk, Nat.reduceBEq, cond_true, cond_false]; first | done | rfl) (hy : s.ev y = .agg ys.toArray := by simp only [St.ev, slk, Nat.reduceBEq, cond_true, cond_false]; first | done | rfl)
    (hm : Nat.ble m 10000 = true := by rfl) (h1 : kinds ks xs = true := by rfl) (h2 : kinds ks ys = true := by rfl) (hq : ceqs xs ys = q := by first | rfl | (simp only [ceqs, ceq, Bool.and_true]; first | done | rfl)) : OpV P s ⟨d, .binOp .neq t x y t', ty, pos, af, g⟩ (.bool (!q)) := fun w _ => by
  subst hq
  have h := e.h 10000 (by simpa using hm) w xs ys h1 h2
  have h' : (Op.equalIn 10000 t (.agg xs.toArray) (.agg ys.toArray)).run P w = .ok (ceqs xs ys) w := h
  simp only [execOp, hx, hy, Sem.run_bind, run_eqGuard_agg w .neq t x y _ _ gg.h, run_neq_struct w t, h', Result.andThen_ok]
  rfl
end

/-! results -/
def RV (P : Program) (n : Nat) (s : St) (r : ResultVar) (v : Value) : Prop := ∀ a w, Fr n s a → Sat w (seps s.A) → (match r with | .tmp t => (pure (a.tmps.getD t undef) : Sem Value) | .cell c t => do loadVar t (← asAddr (a.tmps.getD c undef))).run P w = .ok v w
theorem RV.tmp {t : Tmp} {v : Value} (hv : slk s.j s.l t = v := by simp only [slk, Nat.reduceBEq, cond_true, cond_false]; first | done | rfl) : RV P n s (.tmp t) v := fun a w hf _ => by
  show (pure _ : Sem Value).run P w = _
  rw [hf.slots, hv]; rfl
theorem RV.cell {c t t' : Nat} {b off : Nat} {m : Bool} {cs : List Value} {M : List SP} {v : Value} [a : TyA P t false] (hv : slk s.j s.l c = .pointer (some ⟨b, off, none⟩) := by simp only [slk, Nat.reduceBEq, cond_true, cond_false]; first | done | rfl)
    (hp : Pick (cel m b t' cs) s.A M := by (repeat (first | exact Pick.here | apply Pick.there)); done) (hc : cs[off]? = some v := by rfl) : RV P n s (.cell c t) v := fun ac w hf hs => by
  obtain ⟨_, _, hb⟩ := hp.block hs
  have hx := cell_of hb hc
  simp only [hf.slots, hv, asAddr]
  simp [loadVar, a.h w, hx]
theorem RV.cellA {c t t' z : Nat} {b off : Nat} {m : Bool} {cs vs : List Value} {M : List SP} [a : TyA P t true] [y : TyS P t z] (hv : slk s.j s.l c = .pointer (some ⟨b, off, none⟩) := by simp only [slk, Nat.reduceBEq, cond_true, cond_false]; first | done | rfl)
    (hp : Pick (cel m b t' cs) s.A M := by (repeat (first | exact Pick.here | apply Pick.there)); done) (hk : Nat.ble (off + z) cs.length = true := by rfl)
    (hc : (cs.drop off).take z = vs := by first | exact Go.Fw.seg0 rfl | (simp only [List.drop_succ_cons, List.drop_zero, List.take_succ_cons, List.take_zero]; first | done | rfl)) : RV P n s (.cell c t) (.agg vs.toArray) := fun ac w hf hs => by
  subst hc
  obtain ⟨_, _, hb⟩ := hp.block hs
  have hx := run_loadCells_at (P := P) (k := z) hb (by simpa using hk)
  simp only [hf.slots, hv, asAddr]
  simp [loadVar, a.h w, y.h w, hx]
theorem mapM1 {f : ResultVar → Sem Value} {r : ResultVar} {v : Value} {w : World} (h : (f r).run P w = .ok v w) : (#[r].mapM f).run P w = .ok #[v] w := by simp [h]
theorem mapM2 {f : ResultVar → Sem Value} {r r' : ResultVar} {v v' : Value} {w : World} (h : (f r).run P w = .ok v w) (h' : (f r').run P w = .ok v' w) : (#[r, r'].mapM f).run P w = .ok #[v, v'] w := by simp [h, h']
theorem ResIs.r1 {fn : Func} {r : ResultVar} {v : Value} (hr : fn.results = #[r]) (h : RV P n s r v) : ResIs P n fn s v := fun a w hf hs => by
  unfold results
  rw [hr, Sem.run_bind]
  refine (congrArg (fun r => Result.andThen r _) (mapM1 (h a w hf hs))).trans ?_
  rfl
theorem ResIs.r2 {fn : Func} {r r' : ResultVar} {v v' : Value} (hr : fn.results = #[r, r']) (h : RV P n s r v) (h' : RV P n s r' v') : ResIs P n fn s (.tuple #[v, v']) := fun a w hf hs => by
  unfold results
  rw [hr, Sem.run_bind]
  refine (congrArg (fun r => Result.andThen r _) (mapM2 (h a w hf hs) (h' a w hf hs))).trans ?_
  rfl

/-! calls of function values -/
section
variable {ops : Array Oper} {Q : Exit → St → Prop} {l : List (Nat × Value)} {j : Nat → Value} {A : List SP} {r : List Oper}
theorem TL.callV {d : Nat} {f : FuncId} [c : CallE P f] {x : Operand} {fi ca : Array Value} {xs : Array Operand} {ats : Array TypeId} {ty : TypeId} {pos : String} {af : Array Edge} {as args : Array Value} {pre rest : List SP} {post : Value → List SP → Prop}
    (h : Ctr P f args pre post) (hx : St.ev ⟨l, j, A⟩ x = .func (.func f) fi ca := by simp only [St.ev, slk, Nat.reduceBEq, cond_true, cond_false]; first | done | rfl)
    (ha : xs.map (St.ev ⟨l, j, A⟩) = as := by simp only [List.map_toArray, List.map_cons, List.map_nil, St.ev, slk, Nat.reduceBEq, cond_true, cond_false]; first | done | rfl)
    (hs : fi ++ as ++ ca = args := by rfl) (hd : Nat.blt d n = true := by rfl) (hp : Picks pre A rest := by (repeat (first | exact Picks.nil | (apply Picks.cons; (repeat (first | exact Pick.here | apply Pick.there))))); done)
    (k : ∀ v L, post v L → TL P n ops Q r ⟨(d, v) :: l, j, L ++ rest⟩) :
    TL P n ops Q ({ dst := some d, op := .call { callee := .value x, args := xs, argTypes := ats }, type := ty, pos := pos, after := af, guard := none } :: r) ⟨l, j, A⟩ :=
  TL.enter rfl rfl hd (fun w => by
    subst hs
    subst ha
    have : execOp (St.ev ⟨l, j, A⟩) { dst := some d, op := .call { callee := .value x, args := xs, argTypes := ats }, type := ty, pos := pos, after := af, guard := none } = (do let q ← Deferred.ofValue (St.ev ⟨l, j, A⟩ x) (xs.map (St.ev ⟨l, j, A⟩)); invoke q.target q.args) := rfl
    rw [this, hx]
    exact c.h _ w) h hp k
theorem OpK.callV {s : St} {dst : Option Tmp} {f : FuncId} [c : CallE P f] {x : Operand} {fi ca : Array Value} {xs : Array Operand} {ats : Array TypeId} {ty : TypeId} {pos : String} {af : Array Edge} {g : Option (Nat × Bool)} {as args : Array Value} {pre rest : List SP} {post : Value → List SP → Prop}
    (h : Ctr P f args pre post) (hx : St.ev s x = .func (.func f) fi ca := by simp only [St.ev, slk, Nat.reduceBEq, cond_true, cond_false]; first | done | rfl)
    (ha : xs.map (St.ev s) = as := by simp only [List.map_toArray, List.map_cons, List.map_nil, St.ev, slk, Nat.reduceBEq, cond_true, cond_false]; first | done | rfl)
    (hs : fi ++ as ++ ca = args := by rfl) (hp : Picks pre s.A rest := by (repeat (first | exact Picks.nil | (apply Picks.cons; (repeat (first | exact Pick.here | apply Pick.there))))); done) :
    OpK P s { dst := dst, op := .call { callee := .value x, args := xs, argTypes := ats }, type := ty, pos := pos, after := af, guard := g } fun v M => ∃ L, M = L ++ rest ∧ post v L := fun w hsat a next Q k => by
  subst hs
  subst ha
  have : execOp s.ev { dst := dst, op := .call { callee := .value x, args := xs, argTypes := ats }, type := ty, pos := pos, after := af, guard := g } = (do let q ← Deferred.ofValue (s.ev x) (xs.map s.ev); invoke q.target q.args) := rfl
  rw [this, hx]
  have h2 : ((do let q ← Deferred.ofValue (.func (.func f) fi ca) (xs.map s.ev); invoke q.target q.args : Sem Next)).run P w = .ok (.enter f (fi ++ xs.map s.ev ++ ca)) w := c.h _ w
  rw [h2, Oper.upon_enter]
  refine (h (seps rest) w (hp.sat hsat)).mono ?_
  rintro e w' ⟨v, L, rfl, hs', hq⟩
  rw [seps_flat] at hs'
  exact k v (L ++ rest) w' hs' ⟨L, rfl, hq⟩
end
end Go.Fw
namespace Go.Fw
variable {P : Program} {n : Nat} {s : St}
section
variable {ops : Array Oper} {Q : Exit → St → Prop} {l : List (Nat × Value)} {j : Nat → Value} {A : List SP} {r : List Oper}
variable {d i g : Nat} {b c : Bool} {op : Op} {ty : TypeId} {pos : String} {af : Array Edge}
/-- A guard's slot, parted where the guard asks. -/
theorem TL.gcase (hi : (ops[i]?).bind (·.dst) = some g := by rfl) (hv : slk j l g = .bool c := by simp only [slk, Nat.reduceBEq, cond_true, cond_false]; first | done | rfl)
    (ht : c = true → TL P n ops Q (⟨some d, op, ty, pos, af, some (i, b)⟩ :: r) ⟨(g, .bool true) :: l, j, A⟩) (hf : c = false → TL P n ops Q (⟨some d, op, ty, pos, af, some (i, b)⟩ :: r) ⟨(g, .bool false) :: l, j, A⟩) :
    TL P n ops Q (⟨some d, op, ty, pos, af, some (i, b)⟩ :: r) ⟨l, j, A⟩ := TL.split g hv ht hf
variable {D : List Nat} {pend : List (Nat × List SP)}
/-- A slot's truth, parted where it is not plain. -/
theorem TG.lit (g : Nat) {c : Bool} (ht : c = true → TG P n ops Q D pend ⟨(g, .bool true) :: l, j, A⟩) (hf : c = false → TG P n ops Q D pend ⟨(g, .bool false) :: l, j, A⟩) (hv : slk j l g = .bool c := by simp only [slk, Nat.reduceBEq, cond_true, cond_false]; first | done | rfl) :
    TG P n ops Q D pend ⟨l, j, A⟩ := TG.split g hv ht hf
variable {d' : Option Tmp} {gg : Option (Nat × Bool)}
theorem OpV.makeFunc {fn : Fn} {fi ca : Array Operand} {fv cv : Array Value} (h1 : fi.map s.ev = fv := by simp only [List.map_toArray, List.map_cons, List.map_nil, St.ev, slk, Nat.reduceBEq, cond_true, cond_false]; first | done | rfl)
    (h2 : ca.map s.ev = cv := by simp only [List.map_toArray, List.map_cons, List.map_nil, St.ev, slk, Nat.reduceBEq, cond_true, cond_false]; first | done | rfl) : OpV P s ⟨d', .makeFunc fn fi ca, ty, pos, af, gg⟩ (.func fn fv cv) := fun w _ => by
  simp only [execOp, h1, h2]
  rfl
theorem eqNilS_run {t e : TypeId} (w : World) (hu : P.underlying t = some (.slice e)) (x : Sl) (d : Nat) : (Op.equalIn (d + 1) t x.v (.slice none 0 0)).run P w = .ok x.a.isNone w := by
  obtain ⟨a, k, c⟩ := x
  cases a <;> simp [Op.equalIn, run_underlying hu, Sl.v]
theorem OpV.eqNilS {t t' e : TypeId} {x y : Operand} {q : Sl} [u : TyU P t (.slice e)] (hx : s.ev x = q.v := by simp only [St.ev, slk, Nat.reduceBEq, cond_true, cond_false]; first | done | rfl) (hy : s.ev y = .slice none 0 0 := by simp only [St.ev, slk, Nat.reduceBEq, cond_true, cond_false]; first | done | rfl) :
    OpV P s ⟨d', .binOp .eql t x y t', ty, pos, af, gg⟩ (.bool q.a.isNone) := fun w _ => by
  have h : (Op.equalIn 10000 t q.v (.slice none 0 0)).run P w = .ok q.a.isNone w := eqNilS_run w u.u q 9999
  simp only [execOp, hx, hy]
  simp only [Sl.v] at h ⊢
  simp [eqGuard, binOp, Op.equal, Op.maxDepth, h]
theorem OpV.neNilS {t t' e : TypeId} {x y : Operand} {q : Sl} [u : TyU P t (.slice e)] (hx : s.ev x = q.v := by simp only [St.ev, slk, Nat.reduceBEq, cond_true, cond_false]; first | done | rfl) (hy : s.ev y = .slice none 0 0 := by simp only [St.ev, slk, Nat.reduceBEq, cond_true, cond_false]; first | done | rfl) :
    OpV P s ⟨d', .binOp .neq t x y t', ty, pos, af, gg⟩ (.bool (!q.a.isNone)) := fun w _ => by
  have h : (Op.equalIn 10000 t q.v (.slice none 0 0)).run P w = .ok q.a.isNone w := eqNilS_run w u.u q 9999
  simp only [execOp, hx, hy]
  simp only [Sl.v] at h ⊢
  simp [eqGuard, binOp, Op.equal, Op.maxDepth, h]
theorem OpV.indexSL {x i : Operand} {t : TypeId} {a : ByteArray} {k : IntKind} {q : Int} {q' : Nat} {y : UInt8} [u : TyU P t .string] (hx : s.ev x = .string a := by simp only [St.ev, slk, Nat.reduceBEq, cond_true, cond_false]; first | done | rfl) (hi : s.ev i = .int k q := by simp only [St.ev, slk, Nat.reduceBEq, cond_true, cond_false]; first | done | rfl)
    (hq : q.toNat = q' := by first | with_reducible exact Go.Fw.toNat_pred _ | with_reducible exact Int.toNat_natCast _ | exact Int.toNat_natCast _ | rfl) (h0 : 0 ≤ q := by first | omega | (simp; done) | (simp; omega)) (hy : a.data.toList[q']? = some y := by first | assumption | rfl) : OpV P s ⟨d', .index t x i, ty, pos, af, gg⟩ (.int .u8 y.toNat) := fun w hs => by
  subst hq
  have hl : q.toNat < a.size := by
    have := (List.getElem?_eq_some_iff.1 hy).1
    simpa using this
  have h1 := OpV.indexS (P := P) (s := s) (d := d') (ty := ty) (pos := pos) (af := af) (g := gg) (t := t) hx hi h0 hl w hs
  have e : a[q.toNat]'hl = y := by
    have := (List.getElem?_eq_some_iff.1 hy).2
    rw [← this]
    simp [ByteArray.getElem_eq_getElem_data]
  rw [e] at h1
  exact h1
/-- A guard whose own operation was passed over. -/
theorem TL.passN (hi : (ops[i]?).bind (·.dst) = some g := by rfl) (ht : Nat.blt g n = true := by rfl) (hv : slk j l g = undef := by simp only [slk, Nat.reduceBEq, cond_true, cond_false]; first | done | rfl) (hd : Nat.blt d n = true := by rfl)
    (k : TL P n ops Q r ⟨(d, undef) :: l, j, A⟩) : TL P n ops Q (⟨some d, op, ty, pos, af, some (i, b)⟩ :: r) ⟨l, j, A⟩ :=
  TL.gq (w := false) rfl hi ht rfl hd (by rw [hv]; rfl) (v := undef) (fun h => by cases h) k
theorem OpV.rem {t t' : TypeId} {x y : Operand} {k : IntKind} {a b : Int} (hx : s.ev x = .int k a := by simp only [St.ev, slk, Nat.reduceBEq, cond_true, cond_false]; first | done | rfl) (hy : s.ev y = .int k b := by simp only [St.ev, slk, Nat.reduceBEq, cond_true, cond_false]; first | done | rfl) (h : ¬ b = 0 := by first | assumption | omega | (simp; done)) :
    OpV P s ⟨d', .binOp .rem t x y t', ty, pos, af, gg⟩ (.int k (a.tmod b)) := OpV.binI hx hy (by simp only [Fw.binI, if_neg h])
theorem OpV.quo {t t' : TypeId} {x y : Operand} {k : IntKind} {a b : Int} (hx : s.ev x = .int k a := by simp only [St.ev, slk, Nat.reduceBEq, cond_true, cond_false]; first | done | rfl) (hy : s.ev y = .int k b := by simp only [St.ev, slk, Nat.reduceBEq, cond_true, cond_false]; first | done | rfl) (h : ¬ b = 0 := by first | assumption | omega | (simp; done)) :
    OpV P s ⟨d', .binOp .quo t x y t', ty, pos, af, gg⟩ (.int k (k.wrap (a.tdiv b))) := OpV.binI hx hy (by simp only [Fw.binI, if_neg h])
/-! tests that are known by now -/
theorem TL.gT (hi : (ops[i]?).bind (·.dst) = some g := by rfl) (hv : slk j l g = .bool c := by simp only [slk, Nat.reduceBEq, cond_true, cond_false]; first | done | rfl) (hc : c = true := by first | assumption | decide)
    (k : TL P n ops Q (⟨some d, op, ty, pos, af, some (i, b)⟩ :: r) ⟨(g, .bool true) :: l, j, A⟩) : TL P n ops Q (⟨some d, op, ty, pos, af, some (i, b)⟩ :: r) ⟨l, j, A⟩ := TL.split g hv (fun _ => k) (fun h => by rw [hc] at h; cases h)
theorem TL.gF (hi : (ops[i]?).bind (·.dst) = some g := by rfl) (hv : slk j l g = .bool c := by simp only [slk, Nat.reduceBEq, cond_true, cond_false]; first | done | rfl) (hc : c = false := by first | assumption | decide)
    (k : TL P n ops Q (⟨some d, op, ty, pos, af, some (i, b)⟩ :: r) ⟨(g, .bool false) :: l, j, A⟩) : TL P n ops Q (⟨some d, op, ty, pos, af, some (i, b)⟩ :: r) ⟨l, j, A⟩ := TL.split g hv (fun h => by rw [hc] at h; cases h) (fun _ => k)
theorem TG.litT (g : Nat) {c : Bool} (hv : slk j l g = .bool c := by simp only [slk, Nat.reduceBEq, cond_true, cond_false]; first | done | rfl) (hc : c = true := by first | assumption | decide) (k : TG P n ops Q D pend ⟨(g, .bool true) :: l, j, A⟩) : TG P n ops Q D pend ⟨l, j, A⟩ := TG.split g hv (fun _ => k) (fun h => by rw [hc] at h; cases h)
theorem TG.litF (g : Nat) {c : Bool} (hv : slk j l g = .bool c := by simp only [slk, Nat.reduceBEq, cond_true, cond_false]; first | done | rfl) (hc : c = false := by first | assumption | decide) (k : TG P n ops Q D pend ⟨(g, .bool false) :: l, j, A⟩) : TG P n ops Q D pend ⟨l, j, A⟩ := TG.split g hv (fun h => by rw [hc] at h; cases h) (fun _ => k)
theorem T.cT {o : Operand} {x y : Code} {c : Bool} {s : St} (hv : s.ev o = .bool c := by simp only [St.ev, slk, Nat.reduceBEq, cond_true, cond_false]; first | done | rfl) (hc : c = true := by first | assumption | decide) (h : T P n x Q s) : T P n (.cond o x y) Q s := T.condT (by rw [hv, hc]) h
theorem T.cF {o : Operand} {x y : Code} {c : Bool} {s : St} (hv : s.ev o = .bool c := by simp only [St.ev, slk, Nat.reduceBEq, cond_true, cond_false]; first | done | rfl) (hc : c = false := by first | assumption | decide) (h : T P n y Q s) : T P n (.cond o x y) Q s := T.condF (by rw [hv, hc]) h
/-! new blocks, in plain words -/
theorem OpE.al {t : TypeId} {z : Value} {cs : List Value} [c : TyZ P t z] (hc : z.cells.toList = cs := by first | (simp only [Value.cells, List.toList_toArray]; first | done | rfl) | rfl) : OpE P ⟨l, j, A⟩ ⟨d', .alloc t, ty, pos, af, gg⟩ fun v L => ∃ b : Nat, v = .pointer (some ⟨b, 0, none⟩) ∧ L = cel true b t cs :: A := by
  subst hc
  exact OpE.alloc
theorem OpE.bx {t : TypeId} {x : Operand} {v : Value} {cs : List Value} (hx : St.ev ⟨l, j, A⟩ x = v := by simp only [St.ev, slk, Nat.reduceBEq, cond_true, cond_false]; first | done | rfl) (hc : v.cells.toList = cs := by first | (simp only [Value.cells, List.toList_toArray]; first | done | rfl) | rfl) : OpE P ⟨l, j, A⟩ ⟨d', .box t x, ty, pos, af, gg⟩ fun u L => ∃ b : Nat, u = .pointer (some ⟨b, 0, none⟩) ∧ L = cel true b t cs :: A := by
  subst hc
  exact OpE.box hx
theorem OpE.bs {t e : TypeId} {k sz : Nat} {parts : Array (Nat × Operand)} {z : Value} {ps : List (Nat × Value)} {xs : List Value} {css : List (List Value)} [u : TyU P t (.slice e)] [y : TyS P e sz] [zz : TyZ P e z]
    (hk : parts.toList.map (fun p => (p.1, St.ev ⟨l, j, A⟩ p.2)) = ps := by simp only [List.map_cons, List.map_nil, St.ev, slk, Nat.reduceBEq, cond_true, cond_false]; first | done | rfl)
    (hk' : ps.map (·.2) = xs := by simp only [List.map_cons, List.map_nil]; first | done | rfl) (hki : ps = (xs.zipIdx 0).map fun p => (p.2, p.1) := by rfl) (hl : xs.length = k := by rfl)
    (hx : (xs.all fun x => x.cells.size == sz && x.cells.toList.all fun c => c.oneCell') = true := by rfl)
    (hsz : Nat.ble (k * sz) 16777216 = true := by rfl) (hkk : Nat.ble k 16777216 = true := by rfl) (hc : (xs.map fun x => x.cells.toList) = css := by simp only [List.map_cons, List.map_nil, Value.cells]; first | done | rfl) :
    OpE P ⟨l, j, A⟩ ⟨d', .buildSlice t k parts, ty, pos, af, gg⟩ fun v L => ∃ q : Sl, v = q.v ∧ L = row true e sz q.v css :: A := OpE.bsl hk hk' hki hl hx hsz hkk hc
/-! calls, in the order in which their parts get known -/
theorem TL.callF {d : Nat} {f : FuncId} [c : CallE P f] {xs : Array Operand} {ats : Array TypeId} {ty : TypeId} {pos : String} {af : Array Edge} {args : Array Value} {pre rest : List SP} {post : Value → List SP → Prop}
    (ha : xs.map (St.ev ⟨l, j, A⟩) = args := by simp only [List.map_toArray, List.map_cons, List.map_nil, St.ev, slk, Nat.reduceBEq, cond_true, cond_false]; first | done | rfl) (hp : Picks pre A rest := by (repeat (first | exact Picks.nil | (apply Picks.cons; (repeat (first | exact Pick.here | apply Pick.there))))); done) (h : Ctr P f args pre post) (hd : Nat.blt d n = true := by rfl)
    (k : ∀ v L, post v L → TL P n ops Q r ⟨(d, v) :: l, j, L ++ rest⟩) :
    TL P n ops Q ({ dst := some d, op := .call { callee := .value (.func f), args := xs, argTypes := ats }, type := ty, pos := pos, after := af, guard := none } :: r) ⟨l, j, A⟩ := TL.callE h ha hd hp k
theorem OpK.callF {s : St} {dst : Option Tmp} {f : FuncId} [c : CallE P f] {xs : Array Operand} {ats : Array TypeId} {ty : TypeId} {pos : String} {af : Array Edge} {g : Option (Nat × Bool)} {args : Array Value} {pre rest : List SP} {post : Value → List SP → Prop}
    (ha : xs.map (St.ev s) = args := by simp only [List.map_toArray, List.map_cons, List.map_nil, St.ev, slk, Nat.reduceBEq, cond_true, cond_false]; first | done | rfl) (hp : Picks pre s.A rest := by (repeat (first | exact Picks.nil | (apply Picks.cons; (repeat (first | exact Pick.here | apply Pick.there))))); done) (h : Ctr P f args pre post) :
    OpK P s { dst := dst, op := .call { callee := .value (.func f), args := xs, argTypes := ats }, type := ty, pos := pos, after := af, guard := g } fun v M => ∃ L, M = L ++ rest ∧ post v L := OpK.call h ha hp
end
end Go.Fw
namespace Go.Fw
variable {P : Program} {n : Nat}
/-- What stands between two parts of a code. -/
def ThnI (I : List (Nat × Value) → List SP → Prop) (Q : Exit → St → Prop) : Exit → St → Prop
  | .normal, s => ∃ l' A' C, I l' A' ∧ AllIs s.j s.l l' ∧ Picks A' s.A C
  | e, s => Q e s
theorem T.seqI {x y : Code} {Q : Exit → St → Prop} {s : St} (I : List (Nat × Value) → List SP → Prop) (hx : T P n x (ThnI I Q) s) (hy : ∀ l A j, I l A → T P n y Q ⟨l, j, A⟩) : T P n (.seq x y) Q s := by
  refine T.seq (T.mono hx ?_)
  intro e s hq
  cases e with
  | normal => obtain ⟨l', A', C, h1, h2, h3⟩ := hq; exact T.to h2 h3 fun j' => hy l' A' j' h1
  | _ => exact hq
theorem ThnI.done {I : List (Nat × Value) → List SP → Prop} {Q : Exit → St → Prop} {l l' : List (Nat × Value)} {j : Nat → Value} {A A' C : List SP} (hI : I l' A') (hl : AllIs j l l') (hA : Picks A' A C) : ThnI I Q .normal ⟨l, j, A⟩ := ⟨l', A', C, hI, hl, hA⟩
theorem ThnI.ret {I : List (Nat × Value) → List SP → Prop} {Q : Exit → St → Prop} {s : St} (h : Q .ret s) : ThnI I Q .ret s := h
theorem ThnI.exit {I : List (Nat × Value) → List SP → Prop} {Q : Exit → St → Prop} {s : St} {i : Nat} (h : Q (.exit i) s) : ThnI I Q (.exit i) s := h
end Go.Fw

namespace Go.Fw
variable {P : Program} {n : Nat}
theorem T.blkI {x y : Code} {i : Nat} {Q : Exit → St → Prop} {s : St} (I : List (Nat × Value) → List SP → Prop) (hx : T P n x (Blk i (ThnI I Q)) s) (hy : ∀ l A j, I l A → T P n y Q ⟨l, j, A⟩) : T P n x (Blk i (Thn P n y Q)) s := by
  have key : ∀ e s, ThnI I Q e s → Thn P n y Q e s := by
    intro e s hq
    cases e with
    | normal => obtain ⟨l', A', C, h1, h2, h3⟩ := hq; exact T.to h2 h3 fun j' => hy l' A' j' h1
    | _ => exact hq
  refine T.mono hx ?_
  intro e s hq
  cases e with
  | exit k =>
    simp only [Blk] at hq ⊢
    cases h : k == i with
    | true => rw [h] at hq; exact key .normal s hq
    | false => rw [h] at hq; exact key (.exit k) s hq
  | normal => exact key .normal s hq
  | ret => exact key .ret s hq
  | goto l => exact key (.goto l) s hq
  | panic c => exact key (.panic c) s hq
  | outgrown => exact key .outgrown s hq
end Go.Fw
