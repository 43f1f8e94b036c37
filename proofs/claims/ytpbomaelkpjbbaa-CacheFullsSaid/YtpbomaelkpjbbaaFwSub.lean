import Derived.Test.YtpbomaelkpjbbaaFwArr

namespace Go.Fw
variable {P : Program} {n : Nat} {s : St}
/-! slices of slices, the row being kept -/
def Sl.sub (y : Sl) (l h mx sz : Nat) : Sl := ⟨if mx = l then y.a else y.a.map (·.add (l * sz)), h - l, mx - l⟩
theorem sliced_sub (y : Sl) (l h mx sz : Nat) : sliced y.a l h mx sz = (y.sub l h mx sz).v := rfl
section
variable {d : Option Tmp} {ty : TypeId} {pos : String} {af : Array Edge} {g : Option (Nat × Bool)}
theorem OpV.qsL {t e : TypeId} {x i : Operand} {k : IntKind} {q : Int} {lo sz : Nat} {m : Bool} {y : Sl} {css : List (List Value)} {M : List SP} [u : TyU P t (.slice e)] [z : TyS P e sz] (hx : s.ev x = y.v := by simp only [St.ev, slk, Nat.reduceBEq, cond_true, cond_false]; first | done | rfl) (hi : s.ev i = .int k q := by simp only [St.ev, slk, Nat.reduceBEq, cond_true, cond_false]; first | done | rfl)
    (hp : Pick (row m e sz y.v css) s.A M := by (repeat (first | exact Pick.here | apply Pick.there)); done) (hq : q.toNat = lo := by first | with_reducible exact Go.Fw.toNat_pred _ | with_reducible exact Int.toNat_natCast _ | exact Int.toNat_natCast _ | rfl) (h0 : 0 ≤ q := by first | omega | (simp; done) | (simp; omega)) (h1 : q ≤ css.length := by first | omega | (simp; done) | (simp; omega)) :
    OpV P s ⟨d, .slice t x (some i) none none, ty, pos, af, g⟩ (y.sub lo y.k y.c sz).v := fun w hs => by
  subst hq
  have hl := hp.sub hs
  have hc := hp.cap hs
  have hT : P.underlying t = some (.slice (P.elem t)) := by rw [elem_of u.u]; exact u.u
  have hr := run_slice_l w t y.a y.k y.c hT k q h0 (by omega)
  simp only [execOp, Option.map_some, Option.map_none, hx, hi, Sem.run_bind]
  rw [run_sliceAt_slice w t _ _ _ _ hT]
  simp only [Sl.v] at hr ⊢
  rw [hr, elem_of u.u, z.h w]
  rfl
theorem OpV.qsH {t e : TypeId} {x i : Operand} {k : IntKind} {q : Int} {hi' sz : Nat} {m : Bool} {y : Sl} {css : List (List Value)} {M : List SP} [u : TyU P t (.slice e)] [z : TyS P e sz] (hx : s.ev x = y.v := by simp only [St.ev, slk, Nat.reduceBEq, cond_true, cond_false]; first | done | rfl) (hi : s.ev i = .int k q := by simp only [St.ev, slk, Nat.reduceBEq, cond_true, cond_false]; first | done | rfl)
    (hp : Pick (row m e sz y.v css) s.A M := by (repeat (first | exact Pick.here | apply Pick.there)); done) (hq : q.toNat = hi' := by first | with_reducible exact Go.Fw.toNat_pred _ | with_reducible exact Int.toNat_natCast _ | exact Int.toNat_natCast _ | rfl) (h0 : 0 ≤ q := by first | omega | (simp; done) | (simp; omega)) (h1 : q ≤ css.length := by first | omega | (simp; done) | (simp; omega)) :
    OpV P s ⟨d, .slice t x none (some i) none, ty, pos, af, g⟩ (y.sub 0 hi' y.c sz).v := fun w hs => by
  subst hq
  have hl := hp.sub hs
  have hc := hp.cap hs
  have hT : P.underlying t = some (.slice (P.elem t)) := by rw [elem_of u.u]; exact u.u
  have hr := run_slice_h w t y.a y.k y.c hT k q h0 (by omega)
  simp only [execOp, Option.map_some, Option.map_none, hx, hi, Sem.run_bind]
  rw [run_sliceAt_slice w t _ _ _ _ hT]
  simp only [Sl.v] at hr ⊢
  rw [hr, elem_of u.u, z.h w]
  rfl
theorem OpE.appSub {t t' e e1 : TypeId} {sz l h mx : Nat} {m : Bool} {ti : TypeInfo} {z v : Value} {y : Sl} {css cz : List (List Value)} {M M2 : List SP} {x x2 : Operand} {bt : Nat} [u : TyU P t (.slice e)] [u' : TyU P t' (.slice e1)] [i : TyI P e ti] [hbt : TyBt P e bt]
    (hx : s.ev x = v) (hy : s.ev x2 = (y.sub l h mx sz).v) (hp : Pick (row true e sz v css) s.A M) (hp2 : Pick (row m e sz y.v cz) M M2) (h1 : l ≤ h) (h2 : h ≤ cz.length) (h3 : ∀ w, Sat w (seps (row m e sz y.v cz :: M2)) → h ≤ mx ∧ mx ≤ y.c)
    (hsz : ti.size = sz) (hz : ti.zero = some z) (hzs : z.cells.size = sz)
    (h63 : css.length + (h - l) ≤ 9223372036854775807) (hb : (css.length + (h - l)) * bt ≤ 140737488355328) :
    OpE P s ⟨d, .call ⟨.builtin .append, #[x, x2], #[t, t']⟩, ty, pos, af, g⟩ fun r L => ∃ q : Sl, r = q.v ∧ L = row true e sz q.v (css ++ (cz.take h).drop l) :: M := fun w hs => by
  have hs2 := hs
  rw [hp.eq] at hs2
  have hs3 := hs2.right
  rw [hp2.eq] at hs3
  obtain ⟨h4, h5⟩ := h3 w hs3
  have hsub : Sat w (seps (row m e sz (y.sub l h mx sz).v ((cz.take h).drop l) :: M2)) := row_sub (a := y.a) (k := y.k) (c := y.c) hs3 h1 h2 h4 h5
  have hlen : ((cz.take h).drop l).length = h - l := by simp; omega
  have he2 : Els sz ((cz.take h).drop l) := by
    rcases (Pick.here (p := row m e sz (y.sub l h mx sz).v ((cz.take h).drop l))).isRow hsub with ⟨_, _, _, h0⟩ | ⟨_, _, _, _, _, _, _, _, _, h6, _⟩
    · rw [h0]; exact Els.nil sz
    · exact h6
  have hsrc : Src P sz (y.sub l h mx sz).v ((cz.take h).drop l).length ((cz.take h).drop l).flatten w := Src.row .here hsub
  obtain ⟨v', w', hr, hs'⟩ := run_append (ty := ty) (css2 := (cz.take h).drop l) u.u u'.u (.inl ⟨e1, rfl⟩) i.h hsz hz hzs hp hs hsrc he2 (by rw [hlen]; exact_mod_cast h63) (by rw [hlen, hbt.eq i]; exact hb)
  obtain ⟨q, rfl⟩ := row_sl hs'
  refine ⟨q.v, w', _, ?_, hs', q, rfl, rfl⟩
  simp only [execOp, resolve, invoke, builtin, List.map_toArray, List.map_cons, List.map_nil, hx, hy, Sem.run_bind, Sem.run_pure, Result.andThen_ok, hr]
theorem OpE.appSubH {t t' e e1 : TypeId} {sz h : Nat} {m : Bool} {ti : TypeInfo} {z v : Value} {y : Sl} {css cz : List (List Value)} {M M2 : List SP} {x x2 : Operand} {bt : Nat} [u : TyU P t (.slice e)] [u' : TyU P t' (.slice e1)] [i : TyI P e ti] [hbt : TyBt P e bt]
    (hx : s.ev x = v := by simp only [St.ev, slk, Nat.reduceBEq, cond_true, cond_false]; first | done | rfl) (hy : s.ev x2 = (y.sub 0 h y.c sz).v := by simp only [St.ev, slk, Nat.reduceBEq, cond_true, cond_false]; first | done | rfl) (hp : Pick (row true e sz v css) s.A M := by (repeat (first | exact Pick.here | apply Pick.there)); done) (hp2 : Pick (row m e sz y.v cz) M M2 := by (repeat (first | exact Pick.here | apply Pick.there)); done) (h2 : h ≤ cz.length := by first | omega | (simp; done) | (simp; omega))
    (hsz : ti.size = sz := by rfl) (hz : ti.zero = some z := by rfl) (hzs : z.cells.size = sz := by rfl)
    (h63 : css.length + h ≤ 9223372036854775807 := by first | omega | (simp; done) | (simp; omega)) (hb : (css.length + h) * bt ≤ 140737488355328 := by first | omega | (simp; done) | (simp; omega)) :
    OpE P s ⟨d, .call ⟨.builtin .append, #[x, x2], #[t, t']⟩, ty, pos, af, g⟩ fun r L => ∃ q : Sl, r = q.v ∧ L = row true e sz q.v (css ++ cz.take h) :: M := by
  have h1 := OpE.appSub (P := P) (s := s) (d := d) (ty := ty) (pos := pos) (af := af) (g := g) (t := t) (t' := t') (m := m) (z := z) hx hy hp hp2 (Nat.zero_le _) h2 (fun w hw => ⟨by have := (Pick.here (p := row m e sz y.v cz)).cap hw; omega, Nat.le_refl _⟩) hsz hz hzs (by omega) (by simpa using hb)
  simpa using h1
theorem OpE.appSubL {t t' e e1 : TypeId} {sz l : Nat} {m : Bool} {ti : TypeInfo} {z v : Value} {y : Sl} {css cz : List (List Value)} {M M2 : List SP} {x x2 : Operand} {bt : Nat} [u : TyU P t (.slice e)] [u' : TyU P t' (.slice e1)] [i : TyI P e ti] [hbt : TyBt P e bt]
    (hx : s.ev x = v := by simp only [St.ev, slk, Nat.reduceBEq, cond_true, cond_false]; first | done | rfl) (hy : s.ev x2 = (y.sub l y.k y.c sz).v := by simp only [St.ev, slk, Nat.reduceBEq, cond_true, cond_false]; first | done | rfl) (hp : Pick (row true e sz v css) s.A M := by (repeat (first | exact Pick.here | apply Pick.there)); done) (hp2 : Pick (row m e sz y.v cz) M M2 := by (repeat (first | exact Pick.here | apply Pick.there)); done) (h2 : l ≤ cz.length := by first | omega | (simp; done) | (simp; omega))
    (hsz : ti.size = sz := by rfl) (hz : ti.zero = some z := by rfl) (hzs : z.cells.size = sz := by rfl)
    (h63 : css.length + (cz.length - l) ≤ 9223372036854775807 := by first | omega | (simp; done) | (simp; omega)) (hb : (css.length + (cz.length - l)) * bt ≤ 140737488355328 := by first | omega | (simp; done) | (simp; omega)) :
    OpE P s ⟨d, .call ⟨.builtin .append, #[x, x2], #[t, t']⟩, ty, pos, af, g⟩ fun r L => ∃ q : Sl, r = q.v ∧ L = row true e sz q.v (css ++ cz.drop l) :: M := fun w hs => by
  have hs2 := hs
  rw [hp.eq] at hs2
  have hs3 := hs2.right
  rw [hp2.eq] at hs3
  have hk : y.k = cz.length := (Pick.here (p := row m e sz y.v cz)).sub hs3
  have h1 := OpE.appSub (P := P) (s := s) (d := d) (ty := ty) (pos := pos) (af := af) (g := g) (t := t) (t' := t') (m := m) (z := z) (h := y.k) (mx := y.c) hx hy hp hp2 (by omega) (by omega) (fun w hw => ⟨by have := (Pick.here (p := row m e sz y.v cz)).cap hw; omega, Nat.le_refl _⟩) hsz hz hzs (by omega) (by rw [hk]; exact hb)
  have e1 : (cz.take y.k).drop l = cz.drop l := by rw [hk, List.take_length]
  rw [e1] at h1
  exact h1 w hs
end
section
variable {ops : Array Oper} {Q : Exit → St → Prop} {D : List Nat} {pend : List (Nat × List SP)} {l : List (Nat × Value)} {j : Nat → Value} {A : List SP}
variable {ty : TypeId} {pos : String} {af : Array Edge} {g : Option (Nat × Bool)} {m : Bool} {d : Nat}
theorem TG.qSlL (i : Nat) {x y : Operand} {t e : TypeId} {k : IntKind} {q : Int} {sz lo : Nat} {z : Sl} {css : List (List Value)} {M : List SP} [u : TyU P t (.slice e)] [zz : TyS P e sz] (ho : ops[i]? = some ⟨some d, .slice t x (some y) none none, ty, pos, af, g⟩ := by rfl)
    (hok : okQ ops D (pend.map (·.1)) n i d = true := by rfl) (hw : want ops ⟨l, j, A⟩ ⟨some d, .slice t x (some y) none none, ty, pos, af, g⟩ = true := by rfl) (hx : St.ev ⟨l, j, A⟩ x = z.v := by simp only [St.ev, slk, Nat.reduceBEq, cond_true, cond_false]; first | done | rfl) (hi : St.ev ⟨l, j, A⟩ y = .int k q := by simp only [St.ev, slk, Nat.reduceBEq, cond_true, cond_false]; first | done | rfl) (hp : Pick (row m e sz z.v css) A M := by (repeat (first | exact Pick.here | apply Pick.there)); done) (hq : q.toNat = lo := by first | with_reducible exact Go.Fw.toNat_pred _ | with_reducible exact Int.toNat_natCast _ | exact Int.toNat_natCast _ | rfl) (h0 : 0 ≤ q := by first | omega | (simp; done) | (simp; omega)) (h1 : q ≤ css.length := by first | omega | (simp; done) | (simp; omega))
    (h : TG P n ops Q (i :: D) ((i, [row m e sz z.v css]) :: pend) ⟨(d, (z.sub lo z.k z.c sz).v) :: l, j, A⟩) : TG P n ops Q D pend ⟨l, j, A⟩ := TG.q1 i hp ho rfl rfl hok (.yes hw (OpV.qsL (s := ⟨l, j, [row m e sz z.v css]⟩) hx hi .here hq h0 h1)) h
theorem TG.qSlH (i : Nat) {x y : Operand} {t e : TypeId} {k : IntKind} {q : Int} {sz lo : Nat} {z : Sl} {css : List (List Value)} {M : List SP} [u : TyU P t (.slice e)] [zz : TyS P e sz] (ho : ops[i]? = some ⟨some d, .slice t x none (some y) none, ty, pos, af, g⟩ := by rfl)
    (hok : okQ ops D (pend.map (·.1)) n i d = true := by rfl) (hw : want ops ⟨l, j, A⟩ ⟨some d, .slice t x none (some y) none, ty, pos, af, g⟩ = true := by rfl) (hx : St.ev ⟨l, j, A⟩ x = z.v := by simp only [St.ev, slk, Nat.reduceBEq, cond_true, cond_false]; first | done | rfl) (hi : St.ev ⟨l, j, A⟩ y = .int k q := by simp only [St.ev, slk, Nat.reduceBEq, cond_true, cond_false]; first | done | rfl) (hp : Pick (row m e sz z.v css) A M := by (repeat (first | exact Pick.here | apply Pick.there)); done) (hq : q.toNat = lo := by first | with_reducible exact Go.Fw.toNat_pred _ | with_reducible exact Int.toNat_natCast _ | exact Int.toNat_natCast _ | rfl) (h0 : 0 ≤ q := by first | omega | (simp; done) | (simp; omega)) (h1 : q ≤ css.length := by first | omega | (simp; done) | (simp; omega))
    (h : TG P n ops Q (i :: D) ((i, [row m e sz z.v css]) :: pend) ⟨(d, (z.sub 0 lo z.c sz).v) :: l, j, A⟩) : TG P n ops Q D pend ⟨l, j, A⟩ := TG.q1 i hp ho rfl rfl hok (.yes hw (OpV.qsH (s := ⟨l, j, [row m e sz z.v css]⟩) hx hi .here hq h0 h1)) h
end
end Go.Fw
