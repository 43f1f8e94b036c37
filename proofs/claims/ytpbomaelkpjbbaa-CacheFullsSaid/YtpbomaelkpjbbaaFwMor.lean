import Derived.Test.YtpbomaelkpjbbaaFwMore
namespace Go.Fw
variable {P : Program} {n : Nat} {s : St}

/-! guards whose slots are known -/
section
variable {ops : Array Oper} {Q : Exit → St → Prop} {l : List (Nat × Value)} {j : Nat → Value} {A : List SP} {r : List Oper}
variable {d i g : Nat} {b c : Bool} {op : Op} {ty : TypeId} {pos : String} {af : Array Edge}
theorem TL.pass (hi : (ops[i]?).bind (·.dst) = some g := by rfl) (ht : Nat.blt g n = true := by rfl) (hv : slk j l g = .bool c := by simp only [slk, Nat.reduceBEq, cond_true, cond_false]; first | done | rfl) (hne : (c == b) = false := by rfl) (hd : Nat.blt d n = true := by rfl)
    (k : TL P n ops Q r ⟨(d, undef) :: l, j, A⟩) : TL P n ops Q (⟨some d, op, ty, pos, af, some (i, b)⟩ :: r) ⟨l, j, A⟩ := TL.passed rfl rfl hd hi ht hv hne k
theorem TL.take (hi : (ops[i]?).bind (·.dst) = some g := by rfl) (ht : Nat.blt g n = true := by rfl) (hv : slk j l g = .bool c := by simp only [slk, Nat.reduceBEq, cond_true, cond_false]; first | done | rfl) (hne : (c == b) = true := by rfl)
    (k : TL P n ops Q (⟨some d, op, ty, pos, af, none⟩ :: r) ⟨l, j, A⟩) : TL P n ops Q (⟨some d, op, ty, pos, af, some (i, b)⟩ :: r) ⟨l, j, A⟩ := TL.taken rfl hi ht hv hne k
theorem slk_same {g : Nat} {v : Value} (hv : slk j l g = v) : ∀ k, slk j l k = slk j ((g, v) :: l) k := by
  intro k
  simp only [slk]
  by_cases e : k = g
  · subst e; simp [hv]
  · have e' : (k == g) = false := by simpa using e
    rw [e', cond_false]
/-- A slot's truth, parted. -/
theorem TL.split (g : Nat) {c : Bool} (hv : slk j l g = .bool c := by simp only [slk, Nat.reduceBEq, cond_true, cond_false]; first | done | rfl) (ht : c = true → TL P n ops Q r ⟨(g, .bool true) :: l, j, A⟩) (hf : c = false → TL P n ops Q r ⟨(g, .bool false) :: l, j, A⟩) :
    TL P n ops Q r ⟨l, j, A⟩ := by
  intro a w hfr hs
  cases c with
  | true => exact ht rfl a w ⟨hfr.defers, hfr.size, fun k => (hfr.slots k).trans (slk_same hv k)⟩ hs
  | false => exact hf rfl a w ⟨hfr.defers, hfr.size, fun k => (hfr.slots k).trans (slk_same hv k)⟩ hs
theorem TL.splitD (g : Nat) {p : Prop} [Decidable p] (hv : slk j l g = .bool (decide p) := by simp only [slk, Nat.reduceBEq, cond_true, cond_false]; first | done | rfl) (ht : p → TL P n ops Q r ⟨(g, .bool true) :: l, j, A⟩) (hf : ¬ p → TL P n ops Q r ⟨(g, .bool false) :: l, j, A⟩) :
    TL P n ops Q r ⟨l, j, A⟩ := TL.split g hv (fun h => ht (of_decide_eq_true h)) (fun h => hf (of_decide_eq_false h))
/-- A slot's value, spelled otherwise. -/
theorem TL.say (g : Nat) (v : Value) (hv : slk j l g = v) (k : TL P n ops Q r ⟨(g, v) :: l, j, A⟩) : TL P n ops Q r ⟨l, j, A⟩ := by
  intro a w hfr hs
  exact k a w ⟨hfr.defers, hfr.size, fun k => (hfr.slots k).trans (slk_same hv k)⟩ hs
theorem TL.weak {B C : List SP} (hp : Picks B A C) (k : TL P n ops Q r ⟨l, j, B⟩) : TL P n ops Q r ⟨l, j, A⟩ := TL.drop ⟨C, hp⟩ k
theorem T.say (g : Nat) (v : Value) {c : Code} (hv : slk j l g = v) (k : T P n c Q ⟨(g, v) :: l, j, A⟩) : T P n c Q ⟨l, j, A⟩ := T.conv k (slk_same hv) fun _ h => h
variable {D : List Nat} {pend : List (Nat × List SP)}
theorem TG.conv {l' : List (Nat × Value)} (h : TG P n ops Q D pend ⟨l', j, A⟩) (hl : ∀ k, slk j l k = slk j l' k) : TG P n ops Q D pend ⟨l, j, A⟩ := by
  intro fuel listed a w hfu hi
  refine h fuel listed a w hfu ?_
  have hev : St.ev ⟨l, j, A⟩ = St.ev ⟨l', j, A⟩ := by funext x; cases x <;> simp only [St.ev, hl]
  have hw : ∀ o, want ops ⟨l, j, A⟩ o = want ops ⟨l', j, A⟩ o := by intro o; simp only [want, hl]
  refine ⟨hi.size, hi.sub, hi.rest, hi.low, hi.defers, hi.tmps, fun k hk => (hi.slots k hk).trans (hl k), hi.sat, hi.held, ?_, hi.deps, hi.one, hi.ord⟩
  intro x hx
  obtain ⟨h1, o, d, h2, h3, h4, h5, h6⟩ := hi.ylds x hx
  refine ⟨h1, o, d, h2, h3, h4, h5, ?_⟩
  unfold Ylds at h6 ⊢
  rw [← hev, ← hw, ← show slk j l d = slk j l' d from hl d]
  exact h6
theorem TG.split (g : Nat) {c : Bool} (hv : slk j l g = .bool c := by simp only [slk, Nat.reduceBEq, cond_true, cond_false]; first | done | rfl) (ht : c = true → TG P n ops Q D pend ⟨(g, .bool true) :: l, j, A⟩) (hf : c = false → TG P n ops Q D pend ⟨(g, .bool false) :: l, j, A⟩) :
    TG P n ops Q D pend ⟨l, j, A⟩ := by
  cases c with
  | true => exact TG.conv (ht rfl) (slk_same hv)
  | false => exact TG.conv (hf rfl) (slk_same hv)
theorem TG.splitD (g : Nat) {p : Prop} [Decidable p] (hv : slk j l g = .bool (decide p) := by simp only [slk, Nat.reduceBEq, cond_true, cond_false]; first | done | rfl) (ht : p → TG P n ops Q D pend ⟨(g, .bool true) :: l, j, A⟩) (hf : ¬ p → TG P n ops Q D pend ⟨(g, .bool false) :: l, j, A⟩) :
    TG P n ops Q D pend ⟨l, j, A⟩ := TG.split g hv (fun h => ht (of_decide_eq_true h)) (fun h => hf (of_decide_eq_false h))
end

/-! values that are built -/
inductive Plc (P : Program) : List Field → List (Nat × Nat) → Prop where
  | nil : Plc P [] []
  | cons {a : String} {t o : Nat} {b : Bool} {c d : String} {e z : Nat} {fs : List Field} {pl : List (Nat × Nat)} (h : TyS P t z) (k : Plc P fs pl) : Plc P (⟨a, t, o, b, c, d, e⟩ :: fs) ((o, z) :: pl)
class TyB (P : Program) (t : TypeId) (pl : outParam (List (Nat × Nat))) : Prop where h : ∃ fs : Array Field, P.underlying t = some (.struct fs) ∧ Plc P fs.toList pl
theorem Plc.run {fs : List Field} {pl : List (Nat × Nat)} (h : Plc P fs pl) (w : World) : (fs.mapM fun f => (do pure (f.offset, ← sizeOf f.type) : Sem (Nat × Nat))).run P w = .ok pl w := by
  induction h with
  | nil => simp
  | cons h _ ih => simp only [List.mapM_cons, Sem.run_bind, Result.andThen_ok, h.h w, ih, Sem.run_pure]
theorem TyB.run {t : TypeId} {pl : List (Nat × Nat)} (h : TyB P t pl) : ∃ fs : Array Field, P.underlying t = some (.struct fs) ∧ ∀ w, (fs.mapM fun f => (do pure (f.offset, ← sizeOf f.type) : Sem (Nat × Nat))).run P w = .ok pl.toArray w := by
  obtain ⟨fs, hu, hp⟩ := h.h
  refine ⟨fs, hu, fun w => ?_⟩
  have := hp.run w
  rw [← Array.toArray_toList (xs := fs), List.mapM_toArray, ← bind_pure_comp, Sem.run_bind, this]
  rfl
def fillL (pl : List (Nat × Nat)) (zs : List Value) : List (Nat × Value) → Option (List Value)
  | [] => some zs
  | (i, v) :: r => match pl[i]? with
    | none => none
    | some (o, z) => bif v.cells.size == z && Nat.ble (o + z) zs.length then fillL pl (spl zs o v.cells.toList) r else none
theorem set_fold (ys : List Value) : ∀ (i : Nat) (a b c : List Value) (q : Nat), a.length = q + i → b.length = ys.length →
    ((ys.zipIdx i).foldl (fun (cs : Array Value) (p : Value × Nat) => cs.setIfInBounds (q + p.2) p.1) (a ++ b ++ c).toArray) = (a ++ ys ++ c).toArray := by
  induction ys with
  | nil => intro i a b c q _ hb; simp at hb; simp [hb]
  | cons y ys ihy =>
    intro i a b c q ha hb
    cases b with
    | nil => simp at hb
    | cons b0 b =>
      simp only [List.zipIdx_cons, List.foldl_cons]
      have h1 : (a ++ (b0 :: b) ++ c).toArray.setIfInBounds (q + i) y = ((a ++ [y]) ++ b ++ c).toArray := by
        rw [← ha]
        simp
      rw [h1, ihy (i + 1) (a ++ [y]) b c q (by simp; omega) (by simpa using hb)]
      simp
theorem fillL_eq {pl : List (Nat × Nat)} : ∀ {ps : List (Nat × Value)} {zs cs : List Value}, fillL pl zs ps = some cs → Instr.fill (pl.toArray[·]?) zs.toArray ps = some cs.toArray := by
  intro ps
  induction ps with
  | nil => intro zs cs h; simp only [fillL, Option.some.injEq] at h; subst h; rfl
  | cons p ps ih =>
    obtain ⟨i, v⟩ := p
    intro zs cs h
    simp only [fillL] at h
    simp only [Instr.fill, List.getElem?_toArray]
    cases hp : pl[i]? with
    | none => rw [hp] at h; cases h
    | some oz =>
      obtain ⟨o, z⟩ := oz
      rw [hp] at h
      simp only at h ⊢
      cases hc : (v.cells.size == z && Nat.ble (o + z) zs.length) with
      | false => rw [hc] at h; cases h
      | true =>
        rw [hc, cond_true] at h
        simp only [Bool.and_eq_true, beq_iff_eq, Nat.ble_eq] at hc
        obtain ⟨h1, h2⟩ := hc
        have hno : ¬ (decide (v.cells.size ≠ z) || decide (o + v.cells.size > zs.toArray.size)) = true := by simp; omega
        rw [if_neg hno, ← ih h]
        have hpl : (fun x : Nat => pl[x]?) = fun x => pl.toArray[x]? := by funext x; simp
        rw [hpl]
        congr 1
        have e : zs = zs.take o ++ (zs.drop o).take z ++ zs.drop (o + z) := by
          rw [List.append_assoc, ← List.drop_drop, List.take_append_drop, List.take_append_drop]
        have h3 := set_fold v.cells.toList 0 (zs.take o) ((zs.drop o).take z) (zs.drop (o + z)) o (by simp; omega) (by simp; omega)
        rw [← e] at h3
        unfold spl
        rw [Array.length_toList, h1, ← h3, ← Array.foldl_toList]
        congr 1
        simp
section
variable {d : Option Tmp} {ty : TypeId} {pos : String} {af : Array Edge} {g : Option (Nat × Bool)}
theorem OpV.build {t : TypeId} {parts : Array (Nat × Operand)} {pl : List (Nat × Nat)} {ps : List (Nat × Value)} {zs cs : List Value} [b : TyB P t pl] [z : TyZ P t (.agg zs.toArray)]
    (hk : parts.toList.map (fun p => (p.1, s.ev p.2)) = ps := by simp only [List.map_cons, List.map_nil, St.ev, slk, Nat.reduceBEq, cond_true, cond_false]; first | done | rfl)
    (hv : fillL pl zs ps = some cs := by simp only [fillL, spl, Value.cells, List.getElem?_cons_succ, List.getElem?_cons_zero, List.size_toArray, List.length_cons, List.length_nil, Nat.reduceAdd, Nat.reduceBEq, Nat.ble, Bool.and_true, Bool.and_self, cond_true, List.take_succ_cons, List.take_zero, List.drop_succ_cons, List.drop_zero, List.cons_append, List.nil_append, List.drop_nil, List.append_nil]; first | done | rfl) :
    OpV P s ⟨d, .build t parts, ty, pos, af, g⟩ (.agg cs.toArray) := fun w _ => by
  obtain ⟨fs, hu, hpl⟩ := b.run
  have h1 := fillL_eq hv
  have h2 : (Array.map (fun p : Nat × Operand => (p.1, s.ev p.2)) parts).toList = ps := by rw [Array.toList_map]; exact hk
  have h0 : (underlying t).run P w = .ok (.struct fs) w := run_underlying hu w
  simp only [execOp, Instr.build, Sem.run_bind, z.h w, Result.andThen_ok, h0, hpl w]
  have h3 : (Array.map (fun x : Nat × Operand => match x with | (i, x) => (i, s.ev x)) parts).toList = ps := h2
  simp only [h3, Value.cells, h1, Sem.run_pure, Result.andThen_ok]

/-! stores, in plain words -/
theorem OpU.st {t t' : TypeId} {x y : Operand} {b off : Nat} {c c' : List Value} {v : Value} {M : List SP} [z : TyS P t 1] (hx : s.ev x = .pointer (some ⟨b, off, none⟩) := by simp only [St.ev, slk, Nat.reduceBEq, cond_true, cond_false]; first | done | rfl) (hy : s.ev y = v := by simp only [St.ev, slk, Nat.reduceBEq, cond_true, cond_false]; first | done | rfl)
    (hp : Pick (cel true b t' c) s.A M := by (repeat (first | exact Pick.here | apply Pick.there)); done) (ho : Nat.blt off c.length = true := by rfl) (h1 : v.oneCell' = true := by rfl)
    (hc : c.set off v = c' := by simp only [List.set_cons_succ, List.set_cons_zero]; first | done | rfl) : OpU P s ⟨d, .store t x y, ty, pos, af, g⟩ (cel true b t' c' :: M) := by
  subst hc
  exact OpU.store hx hy hp ho h1
theorem OpU.stA {t t' : TypeId} {x y : Operand} {b off z : Nat} {c c' cs : List Value} {M : List SP} [sz : TyS P t z] (hx : s.ev x = .pointer (some ⟨b, off, none⟩) := by simp only [St.ev, slk, Nat.reduceBEq, cond_true, cond_false]; first | done | rfl) (hy : s.ev y = .agg cs.toArray := by simp only [St.ev, slk, Nat.reduceBEq, cond_true, cond_false]; first | done | rfl)
    (hp : Pick (cel true b t' c) s.A M := by (repeat (first | exact Pick.here | apply Pick.there)); done) (hz : cs.length = z := by rfl) (ho : Nat.ble (off + z) c.length = true := by rfl) (h1 : (cs.all fun v => v.oneCell') = true := by rfl)
    (hc : spl c off cs = c' := by simp only [spl, List.length_cons, List.length_nil, Nat.reduceAdd, List.take_succ_cons, List.take_zero, List.drop_succ_cons, List.drop_zero, List.cons_append, List.nil_append, List.drop_nil, List.append_nil]; first | done | rfl) : OpU P s ⟨d, .store t x y, ty, pos, af, g⟩ (cel true b t' c' :: M) := by
  subst hc
  exact OpU.storeA hx hy hp hz (by simpa using ho) (by simpa using h1)
end
end Go.Fw
