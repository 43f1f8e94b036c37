import Derived.Test.YtpbomaelkpjbbaaFwRow
namespace Go.Fw
variable {P : Program} {n : Nat} {s : St}

/-- An operation that yields a value and turns memory. -/
def OpE (P : Program) (s : St) (o : Oper) (K : Value → List SP → Prop) : Prop :=
  ∀ w, Sat w (seps s.A) → ∃ v w' L, (execOp s.ev o).run P w = .ok (.value v) w' ∧ Sat w' (seps L) ∧ K v L
/-- An operation that yields nothing and turns memory. -/
def OpU (P : Program) (s : St) (o : Oper) (L : List SP) : Prop :=
  ∀ w, Sat w (seps s.A) → ∃ w', (execOp s.ev o).run P w = .ok .skip w' ∧ Sat w' (seps L)

section
variable {ops : Array Oper} {Q : Exit → St → Prop} {l : List (Nat × Value)} {j : Nat → Value} {A : List SP} {r : List Oper} {o : Oper}
theorem TL.e {d : Nat} {K : Value → List SP → Prop} (h : OpE P ⟨l, j, A⟩ o K) (hg : o.guard = none := by rfl) (ho : o.dst = some d := by rfl) (hd : Nat.blt d n = true := by rfl)
    (k : ∀ v L, K v L → TL P n ops Q r ⟨(d, v) :: l, j, L⟩) : TL P n ops Q (o :: r) ⟨l, j, A⟩ := by
  refine TL.step hg fun a w hf hs K hK => ?_
  obtain ⟨v, w', L, hr, hs', hk⟩ := h w hs
  rw [hr]
  refine hK _ _ ?_
  rw [ho]
  exact k v L hk _ _ (hf.put hd L) hs'
theorem TL.u {L : List SP} (h : OpU P ⟨l, j, A⟩ o L) (hg : o.guard = none := by rfl) (ho : o.dst = none := by rfl) (k : TL P n ops Q r ⟨l, j, L⟩) : TL P n ops Q (o :: r) ⟨l, j, A⟩ := by
  refine TL.step hg fun a w hf hs K hK => ?_
  obtain ⟨w', hr, hs'⟩ := h w hs
  rw [hr]
  refine hK _ _ ?_
  rw [ho]
  exact k _ _ (hf.atoms L) hs'
end

theorem sat_new {w : World} {A : List SP} (h : Sat w (seps A)) (c : List Value) (t : TypeId) : Sat (w.alloc (.cells c.toArray t)) (seps (cel true w.heap.size t c :: A)) :=
  (cel_true _ _ _).symm ▸ Sat.new h ⟨rfl, rfl⟩ (fun _ _ _ e => by cases e; rfl) (by show (w.heap.push _).size = _; simp) (heap_alloc_new w _) fun i hi => by rw [heap_alloc_old]; exact hi
theorem sat_drew {w : World} {A : SP} (h : Sat w A) : Sat w.drew A := h.same ⟨rfl, rfl⟩ rfl

section
variable {d : Option Tmp} {ty : TypeId} {pos : String} {af : Array Edge} {g : Option (Nat × Bool)}
theorem OpE.alloc {t : TypeId} {z : Value} [c : TyZ P t z] : OpE P s ⟨d, .alloc t, ty, pos, af, g⟩ fun v L => ∃ b, v = .pointer (some ⟨b, 0, none⟩) ∧ L = cel true b t z.cells.toList :: s.A := fun w hs => by
  refine ⟨.pointer (some ⟨w.heap.size, 0, none⟩), w.alloc (.cells z.cells t), _, ?_, sat_new hs z.cells.toList t, _, rfl, rfl⟩
  simp only [execOp, Instr.alloc]
  simp [c.h w, newVar, newRow]
theorem OpE.box {t : TypeId} {x : Operand} {v : Value} (hx : s.ev x = v := by simp only [St.ev, slk, Nat.reduceBEq, cond_true, cond_false]; first | done | rfl) : OpE P s ⟨d, .box t x, ty, pos, af, g⟩ fun u L => ∃ b, u = .pointer (some ⟨b, 0, none⟩) ∧ L = cel true b t v.cells.toList :: s.A := fun w hs => by
  refine ⟨.pointer (some ⟨w.heap.size, 0, none⟩), w.alloc (.cells v.cells t), _, ?_, sat_new hs v.cells.toList t, _, rfl, rfl⟩
  simp only [execOp, Instr.box, hx]
  simp [newVar, newRow]
theorem World.setCell_at {w : World} {b off : Nat} {t : TypeId} {c : List Value} {v : Value} (h : w.heap[b]? = some (.cells c.toArray t (0, 0))) :
    (w.setCell ⟨b, off, none⟩ v).heap[b]? = some (.cells (c.set off v).toArray t (0, 0)) := by
  rw [heap_setCell_same w b off c.toArray t v h]
  simp
theorem Pick.set {b off : Nat} {t : TypeId} {c : List Value} {v : Value} {A M : List SP} (hp : Pick (cel true b t c) A M) {w : World} (hs : Sat w (seps A)) : Sat (w.setCell ⟨b, off, none⟩ v) (seps (cel true b t (c.set off v) :: M)) := by
  have hb := hp.blockT hs
  rw [hp.eq, cel_true] at hs
  rw [seps, cel_true]
  exact Sat.write hs ⟨rfl, rfl⟩ (fun _ _ _ e => by cases e; rfl) (World.setCell_at hb) fun i hi => heap_setCell_other w _ i v hi
theorem run_storeC {w : World} {b off : Nat} {t : TypeId} {c : List Value} {v : Value} (h : w.heap[b]? = some (.cells c.toArray t (0, 0))) (ho : off < c.length) (h1 : v.oneCell' = true) :
    (store ⟨b, off, none⟩ v).run P w = .ok () (w.setCell ⟨b, off, none⟩ v) := by
  rw [run_store P w _ v _ h1, cell_of h (List.getElem?_eq_getElem ho), frozen_of_row w b off _ t h]
  simp
theorem one_cells {v : Value} (h1 : v.oneCell' = true) : v.cells = #[v] := by cases v <;> simp_all [Value.oneCell', Value.cells]
theorem OpU.store {t t' : TypeId} {x y : Operand} {b off : Nat} {c : List Value} {v : Value} {M : List SP} [z : TyS P t 1] (hx : s.ev x = .pointer (some ⟨b, off, none⟩) := by simp only [St.ev, slk, Nat.reduceBEq, cond_true, cond_false]; first | done | rfl) (hy : s.ev y = v := by simp only [St.ev, slk, Nat.reduceBEq, cond_true, cond_false]; first | done | rfl)
    (hp : Pick (cel true b t' c) s.A M := by (repeat (first | exact Pick.here | apply Pick.there)); done) (ho : Nat.blt off c.length = true := by rfl) (h1 : v.oneCell' = true := by rfl) : OpU P s ⟨d, .store t x y, ty, pos, af, g⟩ (cel true b t' (c.set off v) :: M) := fun w hs => by
  refine ⟨w.setCell ⟨b, off, none⟩ v, ?_, hp.set hs⟩
  have hst := run_storeC (P := P) (hp.blockT hs) (by simpa using ho) h1
  simp only [execOp, Instr.storeAt, hx, hy]
  simp [Instr.sureAddr, storeVar, one_cells h1, z.h w, storeCells, Addr.add_at, hst]
/-- cells put over others -/
def spl (c : List Value) (off : Nat) (vs : List Value) : List Value := c.take off ++ vs ++ c.drop (off + vs.length)
theorem Pick.setRow {b : Nat} {t : TypeId} {c c' : List Value} {A M : List SP} (hp : Pick (cel true b t c) A M) {w : World} (hs : Sat w (seps A)) : Sat (w.setRow b c'.toArray) (seps (cel true b t c' :: M)) := by
  have hb := hp.blockT hs
  rw [hp.eq, cel_true] at hs
  rw [seps, cel_true]
  exact Sat.write hs ⟨rfl, rfl⟩ (fun _ _ _ e => by cases e; rfl) (setRow_heap w b _ _ t _ hb) fun i hi => setRow_other w b i _ hi
theorem run_storeCs {w : World} {b off : Nat} {t : TypeId} {c vs : List Value} (h : w.heap[b]? = some (.cells c.toArray t (0, 0))) (ho : off + vs.length ≤ c.length) (h1 : ∀ v ∈ vs, v.oneCell' = true) :
    (storeCells ⟨b, off, none⟩ vs).run P w = .ok () (w.setRow b (spl c off vs).toArray) := by
  have := run_storeCells_at P b off t vs 0 c.toArray w h (by simpa using ho) h1
  simpa [spl] using this
theorem OpU.storeA {t t' : TypeId} {x y : Operand} {b off z : Nat} {c cs : List Value} {M : List SP} [sz : TyS P t z] (hx : s.ev x = .pointer (some ⟨b, off, none⟩) := by simp only [St.ev, slk, Nat.reduceBEq, cond_true, cond_false]; first | done | rfl) (hy : s.ev y = .agg cs.toArray := by simp only [St.ev, slk, Nat.reduceBEq, cond_true, cond_false]; first | done | rfl)
    (hp : Pick (cel true b t' c) s.A M := by (repeat (first | exact Pick.here | apply Pick.there)); done) (hz : cs.length = z) (ho : off + z ≤ c.length) (h1 : ∀ v ∈ cs, v.oneCell' = true) : OpU P s ⟨d, .store t x y, ty, pos, af, g⟩ (cel true b t' (spl c off cs) :: M) := fun w hs => by
  subst hz
  refine ⟨w.setRow b (spl c off cs).toArray, ?_, hp.setRow hs⟩
  have hst := run_storeCs (P := P) (hp.blockT hs) ho h1
  simp only [execOp, Instr.storeAt, hx, hy]
  simp [Instr.sureAddr, storeVar, Value.cells, sz.h w, hst]

/-! rows that are made -/
theorem row_of_cel {e : TypeId} {sz b cap : Nat} {m : Bool} {css : List (List Value)} {c : List Value} {w : World} {A : SP} (h : Sat w (sep (cel m b e c) A)) (hl : css.length ≤ cap) (hcap : cap ≤ 9223372036854775807)
    (hc : cap * sz ≤ c.length) (ht : c.take (css.length * sz) = css.flatten) (he : Els sz css) : Sat w (sep (row m e sz (.slice (some ⟨b, 0, none⟩) css.length cap) css) A) := by
  rw [sat_row]
  exact .inr ⟨b, 0, cap, c, rfl, hl, hcap, by omega, by simpa using ht, he, h⟩
theorem run_fill (sz : Nat) : ∀ (xs : List Value) (k : Nat) (pre : List Value) (zs : List Value), pre.length = k * sz → (∀ x ∈ xs, x.cells.size = sz) → zs.length = xs.length * sz →
    Instr.fill (fun i => some (i * sz, sz)) (pre ++ zs).toArray ((xs.zipIdx k).map fun p => (p.2, p.1)) = some (pre ++ (xs.map fun x => x.cells.toList).flatten).toArray := by
  intro xs
  induction xs with
  | nil => intro k pre zs _ _ hz; simp at hz; simp [Instr.fill, hz]
  | cons x xs ih =>
    intro k pre zs hp hx hz
    have hxs := hx x (by simp)
    simp only [List.zipIdx_cons, List.map_cons, Instr.fill, hxs]
    have hzl : zs.length = sz + xs.length * sz := by rw [hz, List.length_cons, Nat.succ_mul]; omega
    rw [if_neg (by simp; omega)]
    have hset : ∀ (ys : List Value) (a b c : List Value) (q : Nat), a.length = q → b.length = ys.length →
        ((ys.zipIdx).foldl (fun (cs : Array Value) (p : Value × Nat) => cs.setIfInBounds (q + p.2) p.1) (a ++ b ++ c).toArray) = (a ++ ys ++ c).toArray := by
      intro ys
      have gen : ∀ (ys : List Value) (i : Nat) (a b c : List Value) (q : Nat), a.length = q + i → b.length = ys.length →
          ((ys.zipIdx i).foldl (fun (cs : Array Value) (p : Value × Nat) => cs.setIfInBounds (q + p.2) p.1) (a ++ b ++ c).toArray) = (a ++ ys ++ c).toArray := by
        intro ys
        induction ys with
        | nil => intro i a b c q _ hb; simp at hb; simp [hb]
        | cons y ys ihy =>
          intro i a b c q ha hb
          cases b with
          | nil => simp at hb
          | cons b0 b =>
            simp only [List.zipIdx_cons, List.foldl_cons]
            have h1 : (a ++ (b0 :: b) ++ c).toArray.setIfInBounds (q + i) y = ((a ++ [y]) ++ b ++ c).toArray := by
              rw [← ha]
              simp
            rw [h1, ihy (i + 1) (a ++ [y]) b c q (by simp; omega) (by simpa using hb)]
            simp
      exact fun a b c q ha hb => gen ys 0 a b c q (by simpa using ha) hb
    have h2 := hset x.cells.toList pre (zs.take sz) (zs.drop sz) (k * sz) hp (by simp [hxs]; omega)
    have h3 : (x.cells.zipIdx.foldl (fun cs p => cs.setIfInBounds (k * sz + p.2) p.1) (pre ++ zs).toArray) = (pre ++ x.cells.toList ++ zs.drop sz).toArray := by
      rw [← h2]
      rw [List.append_assoc, List.take_append_drop]
      rw [← Array.foldl_toList]
      congr 1
      simp
    have h4 : (x.cells.zipIdx.foldl (fun cs (x : Value × Nat) => match x with | (c, j) => cs.setIfInBounds (k * sz + j) c) (pre ++ zs).toArray) = (pre ++ x.cells.toList ++ zs.drop sz).toArray := h3
    rw [h4]
    have h5 := ih (k + 1) (pre ++ x.cells.toList) (zs.drop sz) (by simp [hp, hxs, Nat.succ_mul]) (fun y hy => hx y (by simp [hy])) (by simp; omega)
    rw [h5]
    simp
theorem OpE.bslice {t e : TypeId} {k sz : Nat} {parts : Array (Nat × Operand)} {z : Value} {xs : List Value} [u : TyU P t (.slice e)] [y : TyS P e sz] [zz : TyZ P e z]
    (hk : parts.toList.map (fun p => (p.1, s.ev p.2)) = (xs.zipIdx 0).map fun p => (p.2, p.1)) (hl : xs.length = k := by rfl) (hx : ∀ x ∈ xs, x.cells.size = sz ∧ ∀ c ∈ x.cells.toList, c.oneCell' = true)
    (hsz : Nat.ble (k * sz) 16777216 = true := by rfl) (hkk : Nat.ble k 16777216 = true := by rfl) :
    OpE P s ⟨d, .buildSlice t k parts, ty, pos, af, g⟩ fun v L => L = row true e sz v (xs.map fun x => x.cells.toList) :: s.A := fun w hs => by
  have hsz' : k * sz ≤ 16777216 := by simpa using hsz
  have hkk' : k ≤ 16777216 := by simpa using hkk
  have he : Els sz (xs.map fun x => x.cells.toList) := by
    intro q hq
    obtain ⟨x, hx', rfl⟩ := List.mem_map.1 hq
    exact ⟨by simp [(hx x hx').1], (hx x hx').2⟩
  refine ⟨.slice (some ⟨w.heap.size, 0, none⟩) k k, w.alloc (.cells (xs.map fun x => x.cells.toList).flatten.toArray e), _, ?_, ?_, rfl⟩
  · have hfill := run_fill sz xs 0 [] (((Array.range (k * sz)).map (z.cells[· % z.cells.size]!)).toList) (by simp) (fun x hx' => (hx x hx').1) (by simp [hl])
    simp only [List.nil_append, Array.toArray_toList] at hfill
    simp only [execOp, Instr.buildSlice]
    have hp : (Array.map (fun p : Nat × Operand => (p.1, s.ev p.2)) parts).toList = (xs.zipIdx 0).map fun p => (p.2, p.1) := by rw [Array.toList_map]; exact hk
    have hno : ¬ (k * sz > 2 ^ 24) := by omega
    by_cases h0 : k * sz = 0
    · have h00 : (List.map (fun x => x.cells.toList) xs).flatten = [] := by
        apply List.eq_nil_of_length_eq_zero
        rw [he.flat]; simp [hl, h0]
      simp only [h0] at hfill hno
      have hr0 : ∀ f : Nat → Value, (Array.range 0).map f = #[] := fun f => by simp
      simp only [hr0] at hfill
      simp only [Sem.run_bind, u.h w, y.h w, Result.andThen_ok, h0, hno, if_false, if_true, Sem.run_pure, hr0, hp, hfill, newRow, run_newObj, World.alloc]
    · simp only [Sem.run_bind, u.h w, y.h w, Result.andThen_ok, h0, hno, if_false, Sem.run_pure, zz.h w, hp, hfill, newRow, run_newObj, World.alloc]
  · have h1 := sat_new hs (xs.map fun x => x.cells.toList).flatten e
    have hlen : (xs.map fun x => x.cells.toList).length = k := by simp [hl]
    have h2 := row_of_cel (css := xs.map fun x => x.cells.toList) (cap := k) h1 (by omega) (by omega) (by rw [he.flat, hlen]; exact Nat.le_refl _) (by rw [← he.flat]; exact List.take_length) he
    rw [hlen] at h2
    exact h2
end
end Go.Fw
