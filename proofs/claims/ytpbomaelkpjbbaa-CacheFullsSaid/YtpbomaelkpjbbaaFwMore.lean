import Derived.Test.YtpbomaelkpjbbaaFwDraw
namespace Go.Fw
variable {P : Program} {n : Nat} {s : St}

/-- What a guard's slot says. -/
def gwant (v : Value) (b : Bool) : Bool := match v with | .bool c => bif b then c else !c | _ => false
theorem gwant_bool (c b : Bool) : gwant (.bool c) b = bif b then c else !c := rfl
theorem gwant_cond (p c b : Bool) : gwant (cond p (.bool c) undef) b = (p && bif b then c else !c) := by cases p <;> rfl
theorem yielded_gwant {ops : Array Oper} {a : Act} {s : St} (hf : Fr n s a) {i g : Nat} {b : Bool} {o : Oper} (hg : o.guard = some (i, b)) (hi : (ops[i]?).bind (·.dst) = some g) (ht : Nat.blt g n = true) :
    Region.wanted o (yielded ops a.tmps) = gwant (slk s.j s.l g) b := by
  have hgl : g < a.tmps.size := by rw [hf.size]; simpa using ht
  have h1 := hf.slots g
  rw [Array.getD_eq_getD_getElem?, Array.getElem?_eq_getElem hgl, Option.getD_some] at h1
  unfold Region.wanted yielded
  rw [hg]
  simp only [hi, Option.bind_some, Array.getElem?_eq_getElem hgl, h1]
  cases hv : slk s.j s.l g <;> simp only [gwant] <;> first | (cases b <;> simp; done) | skip
section
variable {ops : Array Oper} {Q : Exit → St → Prop} {l : List (Nat × Value)} {j : Nat → Value} {A : List SP} {r : List Oper} {o : Oper}
/-- A quiet operation under a guard: what it comes to if the guard wants it. -/
theorem TL.gq {d i g : Nat} {b w : Bool} {v : Value} (hg : o.guard = some (i, b) := by rfl) (hi : (ops[i]?).bind (·.dst) = some g := by rfl) (ht : Nat.blt g n = true := by rfl) (ho : o.dst = some d := by rfl) (hd : Nat.blt d n = true := by rfl)
    (hw : gwant (slk j l g) b = w) (h : w = true → OpV P ⟨l, j, A⟩ o v) (k : TL P n ops Q r ⟨(d, cond w v undef) :: l, j, A⟩) : TL P n ops Q (o :: r) ⟨l, j, A⟩ := by
  intro a wd hf hs
  have hy := yielded_gwant (ops := ops) hf hg hi ht
  simp only at hy
  rw [hw] at hy
  refine wpList_step fun K hK => ?_
  rw [hy]
  cases hww : w with
  | true =>
    rw [if_pos rfl]
    unfold Oper.wp
    rw [hf.eval, h hww wd hs]
    refine hK _ _ ?_
    rw [ho]
    rw [hww] at k
    exact k _ _ (hf.put hd A) hs
  | false =>
    rw [if_neg (by simp)]
    refine hK _ _ ?_
    rw [ho]
    rw [hww] at k
    exact k _ _ (hf.put hd A) hs
/-- An operation under a guard: both ways. -/
theorem TL.gsplit {d i g : Nat} {b w : Bool} (hg : o.guard = some (i, b) := by rfl) (hi : (ops[i]?).bind (·.dst) = some g := by rfl) (ht : Nat.blt g n = true := by rfl) (ho : o.dst = some d := by rfl) (hd : Nat.blt d n = true := by rfl)
    (hw : gwant (slk j l g) b = w) (h : w = true → TL P n ops Q ({ o with guard := none } :: r) ⟨l, j, A⟩) (k : w = false → TL P n ops Q r ⟨(d, undef) :: l, j, A⟩) : TL P n ops Q (o :: r) ⟨l, j, A⟩ := by
  intro a wd hf hs
  have hy := yielded_gwant (ops := ops) hf hg hi ht
  simp only at hy
  rw [hw] at hy
  cases hww : w with
  | true =>
    have h1 := h hww a wd hf hs
    have hw' : Region.wanted { o with guard := none } (yielded ops a.tmps) = true := rfl
    unfold wpList at h1 ⊢
    rw [if_pos hw'] at h1
    rw [if_pos (by rw [hy, hww])]
    exact h1
  | false =>
    refine wpList_step fun K hK => ?_
    rw [hy, hww, if_neg (by simp)]
    refine hK _ _ ?_
    rw [ho]
    exact k hww _ _ (hf.put hd A) hs
end
section
variable {d : Option Tmp} {ty : TypeId} {pos : String} {af : Array Edge} {g : Option (Nat × Bool)}
theorem OpV.pickG {c a b : Operand} {p x y : Bool} (hc : s.ev c = .bool p := by simp only [St.ev, slk, Nat.reduceBEq, cond_true, cond_false]; first | done | rfl) (h : p = true → s.ev a = .bool x) (h' : p = false → s.ev b = .bool y) : OpV P s ⟨d, .pick c a b, ty, pos, af, g⟩ (.bool (bif p then x else y)) := fun w _ => by
  simp only [execOp, hc, asBool]
  cases p
  · simp only [h' rfl, Bool.false_eq_true, if_false, Sem.run_bind, Sem.run_pure, Result.andThen_ok, cond_false]
  · simp only [h rfl, if_true, Sem.run_bind, Sem.run_pure, Result.andThen_ok, cond_true]
theorem OpV.eqB {t t' : TypeId} {x y : Operand} {a b : Bool} [u : TyU P t .bool] (hx : s.ev x = .bool a := by simp only [St.ev, slk, Nat.reduceBEq, cond_true, cond_false]; first | done | rfl) (hy : s.ev y = .bool b := by simp only [St.ev, slk, Nat.reduceBEq, cond_true, cond_false]; first | done | rfl) : OpV P s ⟨d, .binOp .eql t x y t', ty, pos, af, g⟩ (.bool (a == b)) := fun w _ => by
  simp only [execOp, hx, hy]
  simp [eqGuard, run_eql_bool w t a b u.u]
theorem OpV.neB {t t' : TypeId} {x y : Operand} {a b : Bool} [u : TyU P t .bool] (hx : s.ev x = .bool a := by simp only [St.ev, slk, Nat.reduceBEq, cond_true, cond_false]; first | done | rfl) (hy : s.ev y = .bool b := by simp only [St.ev, slk, Nat.reduceBEq, cond_true, cond_false]; first | done | rfl) : OpV P s ⟨d, .binOp .neq t x y t', ty, pos, af, g⟩ (.bool (!(a == b))) := fun w _ => by
  simp only [execOp, hx, hy]
  simp [eqGuard, run_neq_bool w t a b u.u]
theorem OpV.eqNil {t t' e : TypeId} {x y : Operand} {p : Option Addr} [u : TyU P t (.pointer e)] (hx : s.ev x = .pointer p := by simp only [St.ev, slk, Nat.reduceBEq, cond_true, cond_false]; first | done | rfl) (hy : s.ev y = .pointer none := by simp only [St.ev, slk, Nat.reduceBEq, cond_true, cond_false]; first | done | rfl) : OpV P s ⟨d, .binOp .eql t x y t', ty, pos, af, g⟩ (.bool p.isNone) := fun w _ => by
  have hu : P.underlying t = some (.pointer (P.pointee t)) := by rw [u.u]; simp [Program.pointee, u.u]
  simp only [execOp, hx, hy]
  simp [eqGuard, run_eql_pointer_nil w t p hu]
theorem OpV.neNil {t t' e : TypeId} {x y : Operand} {p : Option Addr} [u : TyU P t (.pointer e)] (hx : s.ev x = .pointer p := by simp only [St.ev, slk, Nat.reduceBEq, cond_true, cond_false]; first | done | rfl) (hy : s.ev y = .pointer none := by simp only [St.ev, slk, Nat.reduceBEq, cond_true, cond_false]; first | done | rfl) : OpV P s ⟨d, .binOp .neq t x y t', ty, pos, af, g⟩ (.bool (!p.isNone)) := fun w _ => by
  have hu : P.underlying t = some (.pointer (P.pointee t)) := by rw [u.u]; simp [Program.pointee, u.u]
  simp only [execOp, hx, hy]
  simp [eqGuard, run_neq_pointer_nil w t p hu]
/-- An interface value held against nil. -/
def isNilI : Value → Bool
  | .nilIface => true
  | _ => false
def isI : Value → Bool
  | .nilIface | .iface _ _ => true
  | _ => false
theorem eqNilI_run {t : TypeId} {ms : Array (String × TypeId)} {v : Value} (w : World) (hu : P.underlying t = some (.interface ms)) (hi : isI v = true := by first | assumption | rfl) (d : Nat) : (Op.equalIn (d + 1) t v .nilIface).run P w = .ok (isNilI v) w := by
  cases v <;> first | (cases hi; done) | skip
  · simp [Op.equalIn, run_underlying hu, isNilI]
  · simp [Op.equalIn, run_underlying hu, isNilI]
theorem OpV.eqNilI {t t' : TypeId} {x : Operand} {ms : Array (String × TypeId)} {v : Value} [u : TyU P t (.interface ms)] (hx : s.ev x = v := by simp only [St.ev, slk, Nat.reduceBEq, cond_true, cond_false]; first | done | rfl) (hi : isI v = true := by first | assumption | rfl) : OpV P s ⟨d, .binOp .eql t x (.const .nilIface) t', ty, pos, af, g⟩ (.bool (isNilI v)) := fun w _ => by
  have hy : s.ev (.const .nilIface) = .nilIface := rfl
  have h : (Op.equalIn 10000 t v .nilIface).run P w = .ok (isNilI v) w := eqNilI_run w u.u hi 9999
  simp only [execOp, hx, hy]
  cases v <;> first | (cases hi; done) | simp [eqGuard, binOp, Op.equal, Op.maxDepth, h]
theorem OpV.neNilI {t t' : TypeId} {x : Operand} {ms : Array (String × TypeId)} {v : Value} [u : TyU P t (.interface ms)] (hx : s.ev x = v := by simp only [St.ev, slk, Nat.reduceBEq, cond_true, cond_false]; first | done | rfl) (hi : isI v = true := by first | assumption | rfl) : OpV P s ⟨d, .binOp .neq t x (.const .nilIface) t', ty, pos, af, g⟩ (.bool (!isNilI v)) := fun w _ => by
  have hy : s.ev (.const .nilIface) = .nilIface := rfl
  have h : (Op.equalIn 10000 t v .nilIface).run P w = .ok (isNilI v) w := eqNilI_run w u.u hi 9999
  simp only [execOp, hx, hy]
  cases v <;> first | (cases hi; done) | simp [eqGuard, binOp, Op.equal, Op.maxDepth, h]
end
end Go.Fw
