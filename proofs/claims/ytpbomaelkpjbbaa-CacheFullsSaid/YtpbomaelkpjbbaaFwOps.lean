import Derived.Test.YtpbomaelkpjbbaaFwT
namespace Go.Fw

/-! what a program says of its types and functions -/
class TyU (P : Program) (t : TypeId) (d : outParam TypeDesc) : Prop where u : P.underlying t = some d
theorem TyU.h {P : Program} {t : TypeId} {d : TypeDesc} (c : TyU P t d) (w : World) : (underlying t).run P w = .ok d w := run_underlying c.u w
class TyI (P : Program) (t : TypeId) (i : outParam TypeInfo) : Prop where h : P.info? t = some i
theorem info_of_run {P : Program} {t : TypeId} {i : TypeInfo} (h : ∀ w, (typeInfo t).run P w = .ok i w) : P.info? t = some i := by
  have h1 := h default
  simp only [typeInfo, Sem.run_bind, run_program, Result.andThen_ok] at h1
  cases h2 : P.info? t with
  | none => simp [h2] at h1
  | some x => simp [h2] at h1; rw [h1]
class TyA (P : Program) (t : TypeId) (b : outParam Bool) : Prop where h : ∀ w, (isAgg t).run P w = .ok b w
class TyS (P : Program) (t : TypeId) (n : outParam Nat) : Prop where h : ∀ w, (sizeOf t).run P w = .ok n w
class TyZ (P : Program) (t : TypeId) (z : outParam Value) : Prop where h : ∀ w, (zeroValue t).run P w = .ok z w
class TyF (P : Program) (t : TypeId) (f : Nat) (o ft : outParam Nat) : Prop where
  h : ∃ fs fd, P.underlying t = some (.struct fs) ∧ fs[f]? = some fd ∧ fd.offset = o ∧ fd.type = ft ∧ ∃ z, (∀ w, (sizeOf ft).run P w = .ok z w) ∧ z ≠ 0
class CallE (P : Program) (f : FuncId) : Prop where h : ∀ args w, (callFunc f args).run P w = .ok (.enter f args) w

variable {P : Program} {n : Nat} {s : St}

theorem seg0 {xs : List Value} {z : Nat} (h : xs.length = z) : (xs.drop 0).take z = xs := by subst h; simp
theorem toNat_pred (k : Nat) : (((k + 1 : Nat) : Int) - 1).toNat = k := by omega
/-- What an operation yields that turns nothing. -/
def OpV (P : Program) (s : St) (o : Oper) (v : Value) : Prop := ∀ w, Sat w (seps s.A) → (execOp s.ev o).run P w = .ok (.value v) w

section
variable {ops : Array Oper} {Q : Exit → St → Prop} {l : List (Nat × Value)} {j : Nat → Value} {A : List SP} {r : List Oper} {o : Oper}
theorem TL.q {d : Nat} {v : Value} (h : OpV P ⟨l, j, A⟩ o v) (hg : o.guard = none := by rfl) (ho : o.dst = some d := by rfl) (hd : Nat.blt d n = true := by rfl)
    (k : TL P n ops Q r ⟨(d, v) :: l, j, A⟩) : TL P n ops Q (o :: r) ⟨l, j, A⟩ := TL.val hg ho hd h k
theorem TL.callE {d : Nat} {f : FuncId} [c : CallE P f] {xs : Array Operand} {ats : Array TypeId} {ty : TypeId} {pos : String} {af : Array Edge} {args : Array Value} {pre rest : List SP} {post : Value → List SP → Prop}
    (h : Ctr P f args pre post) (ha : xs.map (St.ev ⟨l, j, A⟩) = args := by simp only [List.map_toArray, List.map_cons, List.map_nil, St.ev, slk, Nat.reduceBEq, cond_true, cond_false]; first | done | rfl) (hd : Nat.blt d n = true := by rfl) (hp : Picks pre A rest := by (repeat (first | exact Picks.nil | (apply Picks.cons; (repeat (first | exact Pick.here | apply Pick.there))))); done)
    (k : ∀ v L, post v L → TL P n ops Q r ⟨(d, v) :: l, j, L ++ rest⟩) :
    TL P n ops Q ({ dst := some d, op := .call { callee := .value (.func f), args := xs, argTypes := ats }, type := ty, pos := pos, after := af, guard := none } :: r) ⟨l, j, A⟩ :=
  TL.enter rfl rfl hd (fun w => by
    have : execOp (St.ev ⟨l, j, A⟩) { dst := some d, op := .call { callee := .value (.func f), args := xs, argTypes := ats }, type := ty, pos := pos, after := af, guard := none } = callFunc f (#[] ++ xs.map (St.ev ⟨l, j, A⟩) ++ #[]) := rfl
    rw [this, ha, Array.empty_append, Array.append_empty]
    exact c.h _ w) h hp k
end

/-! blocks of cells -/
/-- A block that is only read may be of another type, and frozen. -/
def cel (m : Bool) (b : Nat) (t : TypeId) (c : List Value) : SP := fun h => ∃ t' fr, (m = true → t' = t ∧ fr = (0, 0)) ∧ blk m b (.cells c.toArray t' fr) h
theorem cel_true (b : Nat) (t : TypeId) (c : List Value) : cel true b t c = blk true b (.cells c.toArray t (0, 0)) := by
  funext h
  apply propext
  constructor
  · rintro ⟨t', fr, hm, hb⟩
    obtain ⟨rfl, rfl⟩ := hm rfl
    exact hb
  · exact fun hb => ⟨t, (0, 0), fun _ => ⟨rfl, rfl⟩, hb⟩
theorem Sat.celBlock {m : Bool} {b : Nat} {t : TypeId} {c : List Value} {A : SP} {w : World} (hs : Sat w (sep (cel m b t c) A)) : ∃ t' fr, w.heap[b]? = some (.cells c.toArray t' fr) := by
  obtain ⟨x, ⟨t', fr, _, ha⟩, hf⟩ := hs.left
  exact ⟨t', fr, hf (b + 1) m (.obj _) (by rw [ha (b + 1), if_pos rfl])⟩
theorem Sat.celBlockT {b : Nat} {t : TypeId} {c : List Value} {A : SP} {w : World} (hs : Sat w (sep (cel true b t c) A)) : w.heap[b]? = some (.cells c.toArray t (0, 0)) := by
  rw [cel_true] at hs
  exact hs.block
theorem Sat.shareCel {b : Nat} {t : TypeId} {c : List Value} {A : SP} {w : World} (hs : Sat w (sep (cel true b t c) A)) : Sat w (sep (cel false b t c) A) := by
  rw [cel_true] at hs
  obtain ⟨h, ⟨x, y, hxy, hx, hy⟩, hf⟩ := hs.share
  exact ⟨h, ⟨x, y, hxy, ⟨t, (0, 0), fun _ => ⟨rfl, rfl⟩, hx⟩, hy⟩, hf⟩
theorem cel_dup (b : Nat) (t : TypeId) (c : List Value) (h : Hp) (hh : cel false b t c h) : sep (cel false b t c) (cel false b t c) h := by
  obtain ⟨t', fr, hm, hb⟩ := hh
  rw [blk_dup] at hb
  obtain ⟨x, y, hxy, hx, hy⟩ := hb
  exact ⟨x, y, hxy, ⟨t', fr, hm, hx⟩, ⟨t', fr, hm, hy⟩⟩
theorem Pick.block {m : Bool} {b : Nat} {t : TypeId} {c : List Value} {A M : List SP} (h : Pick (cel m b t c) A M) {w : World} (hs : Sat w (seps A)) :
    ∃ t' fr, w.heap[b]? = some (.cells c.toArray t' fr) := by
  rw [h.eq] at hs
  exact hs.celBlock
theorem Pick.blockT {b : Nat} {t : TypeId} {c : List Value} {A M : List SP} (h : Pick (cel true b t c) A M) {w : World} (hs : Sat w (seps A)) :
    w.heap[b]? = some (.cells c.toArray t (0, 0)) := by
  rw [h.eq] at hs
  exact hs.celBlockT
theorem cell_of {w : World} {b : Nat} {t : TypeId} {fr : Nat × Nat} {c : List Value} {off : Nat} {v : Value} (h : w.heap[b]? = some (.cells c.toArray t fr)) (hv : c[off]? = some v) :
    w.cell? ⟨b, off, none⟩ = some v := by
  simp [World.cell?, h, hv]
theorem run_loadCells_at {w : World} {b : Nat} {t : TypeId} {fr : Nat × Nat} {c : List Value} {off k : Nat} (h : w.heap[b]? = some (.cells c.toArray t fr)) (hk : off + k ≤ c.length) :
    (loadCells ⟨b, off, none⟩ k).run P w = .ok ((c.drop off).take k).toArray w := by
  have hl : ((c.drop off).take k).length = k := by simp; omega
  have h1 := run_loadCells_list (P := P) (w := w) (a := ⟨b, off, none⟩) ((c.drop off).take k) (fun i v hv => by
    have hi : i < k := by
      rcases Nat.lt_or_ge i k with hi | hi
      · exact hi
      · rw [List.getElem?_eq_none (by omega)] at hv; cases hv
    rw [List.getElem?_take, if_pos hi, List.getElem?_drop] at hv
    have ha : (⟨b, off, none⟩ : Addr).add i = ⟨b, off + i, none⟩ := by
      unfold Addr.add
      split
      · rename_i h0; subst h0; rfl
      · rfl
    rw [ha]
    exact cell_of h hv)
  rw [hl] at h1
  exact h1

/-! quiet operations -/
section
variable {d : Option Tmp} {ty : TypeId} {pos : String} {af : Array Edge} {g : Option (Nat × Bool)}
theorem OpV.move {x : Operand} {v : Value} (h : s.ev x = v := by simp only [St.ev, slk, Nat.reduceBEq, cond_true, cond_false]; first | done | rfl) : OpV P s ⟨d, .move x, ty, pos, af, g⟩ v := fun w _ => by
  show (pure (Next.value (s.ev x)) : Sem Next).run P w = _
  rw [h]; rfl
theorem OpV.assign {x : Operand} {v : Value} (h : s.ev x = v := by simp only [St.ev, slk, Nat.reduceBEq, cond_true, cond_false]; first | done | rfl) : OpV P s ⟨d, .assign x, ty, pos, af, g⟩ v := fun w _ => by
  show (pure (Next.value (s.ev x)) : Sem Next).run P w = _
  rw [h]; rfl
theorem OpV.pickT {c a b : Operand} {v : Value} (hc : s.ev c = .bool true := by simp only [St.ev, slk, Nat.reduceBEq, cond_true, cond_false]; first | done | rfl) (h : s.ev a = v := by simp only [St.ev, slk, Nat.reduceBEq, cond_true, cond_false]; first | done | rfl) : OpV P s ⟨d, .pick c a b, ty, pos, af, g⟩ v := fun w _ => by
  simp only [execOp, hc, h, asBool]
  rfl
theorem OpV.pickF {c a b : Operand} {v : Value} (hc : s.ev c = .bool false := by simp only [St.ev, slk, Nat.reduceBEq, cond_true, cond_false]; first | done | rfl) (h : s.ev b = v := by simp only [St.ev, slk, Nat.reduceBEq, cond_true, cond_false]; first | done | rfl) : OpV P s ⟨d, .pick c a b, ty, pos, af, g⟩ v := fun w _ => by
  simp only [execOp, hc, h, asBool]
  rfl
theorem OpV.pickB {c a b : Operand} {p x y : Bool} (hc : s.ev c = .bool p := by simp only [St.ev, slk, Nat.reduceBEq, cond_true, cond_false]; first | done | rfl) (h : s.ev a = .bool x := by simp only [St.ev, slk, Nat.reduceBEq, cond_true, cond_false]; first | done | rfl) (h' : s.ev b = .bool y := by simp only [St.ev, slk, Nat.reduceBEq, cond_true, cond_false]; first | done | rfl) : OpV P s ⟨d, .pick c a b, ty, pos, af, g⟩ (.bool (bif p then x else y)) := fun w _ => by
  simp only [execOp, hc, h, h', asBool]
  cases p <;> rfl
theorem OpV.nilCheck {x : Operand} {a : Addr} (h : s.ev x = .pointer (some a) := by simp only [St.ev, slk, Nat.reduceBEq, cond_true, cond_false]; first | done | rfl) : OpV P s ⟨d, .nilCheck x, ty, pos, af, g⟩ (.pointer (some a)) := fun w _ => by
  simp only [execOp, h]
  rfl
theorem OpV.not {x : Operand} {t : TypeId} {b : Bool} (h : s.ev x = .bool b := by simp only [St.ev, slk, Nat.reduceBEq, cond_true, cond_false]; first | done | rfl) : OpV P s ⟨d, .unOp .not t x, ty, pos, af, g⟩ (.bool (!b)) := fun w _ => by
  simp only [execOp, h]
  rfl
theorem OpV.extract {x : Operand} {i : Nat} {vs : Array Value} {v : Value} (h : s.ev x = .tuple vs := by simp only [St.ev, slk, Nat.reduceBEq, cond_true, cond_false]; first | done | rfl) (hv : vs[i]? = some v := by rfl) : OpV P s ⟨d, .extract x i, ty, pos, af, g⟩ v := fun w _ => by
  simp only [execOp, h, Instr.extract, hv]
  rfl

/-- Whole numbers. -/
def binI (op : BinOp) (k : IntKind) (a b : Int) : Option Value :=
  match op with
  | .add => some (.int k (k.wrap (a + b)))
  | .sub => some (.int k (k.wrap (a - b)))
  | .mul => some (.int k (k.wrap (a * b)))
  | .quo => if b = 0 then none else some (.int k (k.wrap (a.tdiv b)))
  | .rem => if b = 0 then none else some (.int k (a.tmod b))
  | .eql => some (.bool (a == b))
  | .neq => some (.bool (a != b))
  | .lss => some (.bool (decide (a < b)))
  | .leq => some (.bool (decide (a ≤ b)))
  | .gtr => some (.bool (decide (a > b)))
  | .geq => some (.bool (decide (a ≥ b)))
  | _ => none
theorem OpV.binI {op : BinOp} {t t' : TypeId} {x y : Operand} {k : IntKind} {a b : Int} {v : Value} (hx : s.ev x = .int k a := by simp only [St.ev, slk, Nat.reduceBEq, cond_true, cond_false]; first | done | rfl) (hy : s.ev y = .int k b := by simp only [St.ev, slk, Nat.reduceBEq, cond_true, cond_false]; first | done | rfl) (hv : Fw.binI op k a b = some v := by rfl) :
    OpV P s ⟨d, .binOp op t x y t', ty, pos, af, g⟩ v := fun w _ => by
  simp only [execOp, hx, hy]
  cases op <;> simp only [Fw.binI] at hv <;> (try split at hv) <;> first | (cases hv; done) | skip
  all_goals
    simp only [Option.some.injEq] at hv
    subst hv
    simp [eqGuard, binOp, Op.intArith, Op.intDiv, Op.intCmp, *]
theorem wrap_in {x : Int} (h : -9223372036854775808 ≤ x ∧ x ≤ 9223372036854775807) : IntKind.i64.wrap x = x := IntWalk.i64_in x h
theorem OpV.add {t t' : TypeId} {x y : Operand} {a b : Int} (hx : s.ev x = .int .i64 a := by simp only [St.ev, slk, Nat.reduceBEq, cond_true, cond_false]; first | done | rfl) (hy : s.ev y = .int .i64 b := by simp only [St.ev, slk, Nat.reduceBEq, cond_true, cond_false]; first | done | rfl) (h : -9223372036854775808 ≤ a + b ∧ a + b ≤ 9223372036854775807 := by first | omega | (simp; done) | (simp; omega)) :
    OpV P s ⟨d, .binOp .add t x y t', ty, pos, af, g⟩ (.int .i64 (a + b)) := OpV.binI hx hy (by simp only [Fw.binI, wrap_in h])
theorem OpV.sub {t t' : TypeId} {x y : Operand} {a b : Int} (hx : s.ev x = .int .i64 a := by simp only [St.ev, slk, Nat.reduceBEq, cond_true, cond_false]; first | done | rfl) (hy : s.ev y = .int .i64 b := by simp only [St.ev, slk, Nat.reduceBEq, cond_true, cond_false]; first | done | rfl) (h : -9223372036854775808 ≤ a - b ∧ a - b ≤ 9223372036854775807 := by first | omega | (simp; done) | (simp; omega)) :
    OpV P s ⟨d, .binOp .sub t x y t', ty, pos, af, g⟩ (.int .i64 (a - b)) := OpV.binI hx hy (by simp only [Fw.binI, wrap_in h])
/-- Texts. -/
def binS (op : BinOp) (a b : ByteArray) : Option Value :=
  match op with
  | .eql => some (.bool (a == b))
  | .neq => some (.bool (a != b))
  | .lss => some (.bool (Op.bytesLess a.toList b.toList))
  | .gtr => some (.bool (!(Op.bytesLess a.toList b.toList || a == b)))
  | .leq => some (.bool (Op.bytesLess a.toList b.toList || a == b))
  | .geq => some (.bool (!Op.bytesLess a.toList b.toList))
  | _ => none
theorem OpV.binS {op : BinOp} {t t' : TypeId} {x y : Operand} {a b : ByteArray} {v : Value} (hx : s.ev x = .string a := by simp only [St.ev, slk, Nat.reduceBEq, cond_true, cond_false]; first | done | rfl) (hy : s.ev y = .string b := by simp only [St.ev, slk, Nat.reduceBEq, cond_true, cond_false]; first | done | rfl) (hv : Fw.binS op a b = some v := by rfl) :
    OpV P s ⟨d, .binOp op t x y t', ty, pos, af, g⟩ v := fun w _ => by
  have hbeq := beq_toListBytes a b
  simp only [execOp, hx, hy]
  cases op <;> simp only [Fw.binS] at hv <;> first | (cases hv; done) | skip
  all_goals
    simp only [Option.some.injEq] at hv
    subst hv
    simp [eqGuard, binOp, Op.stringOp, ← hbeq, bne]
theorem OpV.catS {t t' : TypeId} {x y : Operand} {a b : ByteArray} (hx : s.ev x = .string a := by simp only [St.ev, slk, Nat.reduceBEq, cond_true, cond_false]; first | done | rfl) (hy : s.ev y = .string b := by simp only [St.ev, slk, Nat.reduceBEq, cond_true, cond_false]; first | done | rfl) (h : a.size + b.size ≤ 9223372036854775807 := by first | omega | (simp; done) | (simp; omega)) :
    OpV P s ⟨d, .binOp .add t x y t', ty, pos, af, g⟩ (.string (a ++ b)) := fun w _ => by
  simp only [execOp, hx, hy]
  have : ¬ (((a.size + b.size : Nat) : Int) > IntKind.i64.max) := by
    have : IntKind.i64.max = 9223372036854775807 := rfl
    rw [this]; omega
  simp only [eqGuard, binOp, Op.stringOp, this, if_false]
  rfl
theorem OpV.lenS {x : Operand} {t : TypeId} {a : ByteArray} [u : TyU P t .string] (hx : s.ev x = .string a := by simp only [St.ev, slk, Nat.reduceBEq, cond_true, cond_false]; first | done | rfl) :
    OpV P s ⟨d, .call ⟨.builtin .len, #[x], #[t]⟩, ty, pos, af, g⟩ (.int .i64 a.size) := fun w _ => by
  simp only [execOp, resolve, invoke, builtin, Builtin.len_, List.map_toArray, List.map_cons, List.map_nil, hx]
  simp [u.h w, goInt]
theorem OpV.min2 {x y : Operand} {ts : Array TypeId} {k : IntKind} {a b : Int} (hx : s.ev x = .int k a := by simp only [St.ev, slk, Nat.reduceBEq, cond_true, cond_false]; first | done | rfl) (hy : s.ev y = .int k b := by simp only [St.ev, slk, Nat.reduceBEq, cond_true, cond_false]; first | done | rfl) :
    OpV P s ⟨d, .call ⟨.builtin .min, #[x, y], ts⟩, ty, pos, af, g⟩ (.int k (if b < a then b else a)) := fun w _ => by
  simp only [execOp, resolve, invoke, builtin, List.map_toArray, List.map_cons, List.map_nil, hx, hy, Sem.run_bind, Sem.run_pure, Result.andThen_ok]
  rw [run_min_int2]; rfl
theorem OpV.max2 {x y : Operand} {ts : Array TypeId} {k : IntKind} {a b : Int} (hx : s.ev x = .int k a := by simp only [St.ev, slk, Nat.reduceBEq, cond_true, cond_false]; first | done | rfl) (hy : s.ev y = .int k b := by simp only [St.ev, slk, Nat.reduceBEq, cond_true, cond_false]; first | done | rfl) :
    OpV P s ⟨d, .call ⟨.builtin .max, #[x, y], ts⟩, ty, pos, af, g⟩ (.int k (if b > a then b else a)) := fun w _ => by
  simp only [execOp, resolve, invoke, builtin, List.map_toArray, List.map_cons, List.map_nil, hx, hy, Sem.run_bind, Sem.run_pure, Result.andThen_ok]
  rw [run_max_int2]; rfl
theorem OpV.convI {x : Operand} {t t' : TypeId} {k k' : IntKind} {a : Int} [u : TyU P t (.int k)] [u' : TyU P t' (.int k')] (hx : s.ev x = .int k a := by simp only [St.ev, slk, Nat.reduceBEq, cond_true, cond_false]; first | done | rfl) :
    OpV P s ⟨d, .convert t t' x, ty, pos, af, g⟩ (.int k' (k'.wrap a)) := fun w _ => by
  simp only [execOp, convert, hx]
  simp [u.h w, u'.h w, Conv.intToInt]
theorem OpV.indexS {x i : Operand} {t : TypeId} {a : ByteArray} {k : IntKind} {q : Int} [u : TyU P t .string] (hx : s.ev x = .string a := by simp only [St.ev, slk, Nat.reduceBEq, cond_true, cond_false]; first | done | rfl) (hi : s.ev i = .int k q := by simp only [St.ev, slk, Nat.reduceBEq, cond_true, cond_false]; first | done | rfl) (h0 : 0 ≤ q := by first | omega | (simp; done) | (simp; omega)) (h1 : q.toNat < a.size := by first | omega | (simp; done) | (simp; omega)) :
    OpV P s ⟨d, .index t x i, ty, pos, af, g⟩ (.int .u8 (a[q.toNat]'h1).toNat) := fun w _ => by
  simp only [execOp, Instr.index, hx, hi]
  simp [u.h w, asIntOf, h0, h1]
theorem OpV.mkIface {x : Operand} {t : TypeId} {v : Value} {td : TypeDesc} [u : TyU P t td] (hc : (match td with | .interface _ => false | _ => true) = true := by rfl) (hx : s.ev x = v := by simp only [St.ev, slk, Nat.reduceBEq, cond_true, cond_false]; first | done | rfl) :
    OpV P s ⟨d, .makeInterface t x, ty, pos, af, g⟩ (.iface t v) := fun w _ => by
  simp only [execOp, Instr.makeInterface, hx]
  cases td <;> simp_all [u.h w]

/-- A field's place. -/
theorem Addr.add_at (b off k : Nat) : (⟨b, off, none⟩ : Addr).add k = ⟨b, off + k, none⟩ := by
  unfold Addr.add
  split
  · rename_i h0; subst h0; rfl
  · rfl
theorem OpV.fieldAddr {x : Operand} {t : TypeId} {f b off o ft : Nat} [u : TyF P t f o ft] (hx : s.ev x = .pointer (some ⟨b, off, none⟩) := by simp only [St.ev, slk, Nat.reduceBEq, cond_true, cond_false]; first | done | rfl) {q : Nat} (hq : off + o = q := by first | (simp only [Nat.zero_add, Nat.add_zero, Nat.reduceAdd]; first | done | rfl) | rfl) :
    OpV P s ⟨d, .fieldAddr t x f, ty, pos, af, g⟩ (.pointer (some ⟨b, q, none⟩)) := fun w _ => by
  subst hq
  obtain ⟨fs, fd, hu, hf, ho, ht, z, hz, hz0⟩ := u.h
  subst ho
  subst ht
  simp only [execOp, Instr.fieldAt, hx]
  simp [run_underlying hu, hf, Instr.sureAddr, fieldPlace, hz w, hz0, Addr.add_at]
theorem OpV.load {x : Operand} {t t' : TypeId} {b off : Nat} {m : Bool} {c : List Value} {M : List SP} {v : Value} [a : TyA P t false] (hx : s.ev x = .pointer (some ⟨b, off, none⟩) := by simp only [St.ev, slk, Nat.reduceBEq, cond_true, cond_false]; first | done | rfl) (hp : Pick (cel m b t' c) s.A M := by (repeat (first | exact Pick.here | apply Pick.there)); done)
    (hv : c[off]? = some v := by first | rfl | assumption) : OpV P s ⟨d, .load t x, ty, pos, af, g⟩ v := fun w hs => by
  obtain ⟨_, _, hb⟩ := hp.block hs
  have hc := cell_of hb hv
  simp only [execOp, Instr.loadAt, hx]
  simp [Instr.sureAddr, loadVar, a.h w, hc]
theorem OpV.loadA {x : Operand} {t t' : TypeId} {b off z : Nat} {m : Bool} {c : List Value} {M : List SP} {cs : List Value} [a : TyA P t true] [sz : TyS P t z] (hx : s.ev x = .pointer (some ⟨b, off, none⟩) := by simp only [St.ev, slk, Nat.reduceBEq, cond_true, cond_false]; first | done | rfl)
    (hp : Pick (cel m b t' c) s.A M := by (repeat (first | exact Pick.here | apply Pick.there)); done) (hk : Nat.ble (off + z) c.length = true := by rfl) (hv : (c.drop off).take z = cs := by first | exact Go.Fw.seg0 rfl | (simp only [List.drop_succ_cons, List.drop_zero, List.take_succ_cons, List.take_zero]; first | done | rfl)) : OpV P s ⟨d, .load t x, ty, pos, af, g⟩ (.agg cs.toArray) := fun w hs => by
  subst hv
  obtain ⟨_, _, hb⟩ := hp.block hs
  have hc := run_loadCells_at (P := P) (k := z) hb (by simpa using hk)
  simp only [execOp, Instr.loadAt, hx]
  simp [Instr.sureAddr, loadVar, a.h w, sz.h w, hc]
theorem OpV.field {x : Operand} {t : TypeId} {f : Nat} {fs : Array Field} {fd : Field} {cs : List Value} {v : Value} [u : TyU P t (.struct fs)] (hx : s.ev x = .agg cs.toArray := by simp only [St.ev, slk, Nat.reduceBEq, cond_true, cond_false]; first | done | rfl) (hf : fs[f]? = some fd := by rfl)
    (ha : TyA P fd.type false := by infer_instance) (hv : cs[fd.offset]? = some v := by rfl) : OpV P s ⟨d, .field t x f, ty, pos, af, g⟩ v := fun w _ => by
  simp only [execOp, Instr.field, hx]
  simp [u.h w, hf, asAgg, part, ha.h w, hv]
theorem OpV.fieldA {x : Operand} {t : TypeId} {f z : Nat} {fs : Array Field} {fd : Field} {cs cs' : List Value} [u : TyU P t (.struct fs)] (hx : s.ev x = .agg cs.toArray := by simp only [St.ev, slk, Nat.reduceBEq, cond_true, cond_false]; first | done | rfl) (hf : fs[f]? = some fd := by rfl)
    (ha : TyA P fd.type true := by infer_instance) (hz : TyS P fd.type z := by infer_instance) (hv : (cs.drop fd.offset).take z = cs' := by first | exact Go.Fw.seg0 rfl | (simp only [List.drop_succ_cons, List.drop_zero, List.take_succ_cons, List.take_zero]; first | done | rfl)) : OpV P s ⟨d, .field t x f, ty, pos, af, g⟩ (.agg cs'.toArray) := fun w _ => by
  subst hv
  simp only [execOp, Instr.field, hx]
  simp [u.h w, hf, asAgg, part, ha.h w, hz.h w]
end
end Go.Fw
