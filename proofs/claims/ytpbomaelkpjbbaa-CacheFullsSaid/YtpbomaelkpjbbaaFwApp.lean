import Derived.Test.YtpbomaelkpjbbaaFwEff
namespace Go.Fw
variable {P : Program} {n : Nat} {s : St}

/-- What is appended: k elements, their cells. -/
def Src (P : Program) (sz : Nat) (x : Value) (k : Nat) (news : List Value) (w : World) : Prop :=
  (∀ w' : World, w'.heap = w.heap → (Builtin.lenOf x).run P w' = .ok k w') ∧ ∀ w' : World, w'.heap = w.heap → (Builtin.firstCells sz k x).run P w' = .ok news.toArray w'
theorem Src.row {m : Bool} {e : TypeId} {sz : Nat} {v : Value} {css : List (List Value)} {A M : List SP} (hp : Pick (row m e sz v css) A M) {w : World} (hs : Sat w (seps A)) : Src P sz v css.length css.flatten w := by
  rcases hp.isRow hs with ⟨a, rfl, _, rfl⟩ | ⟨b, off, cap, c, rfl, h2, h3, h4, h5, h6, _, _, h7⟩
  · exact ⟨fun w' _ => rfl, fun w' _ => by cases a <;> simp [Builtin.firstCells, loadCells, loadCellsFrom]⟩
  · refine ⟨fun w' _ => rfl, fun w' hw => ?_⟩
    have hm2 : css.length * sz ≤ cap * sz := Nat.mul_le_mul_right _ h2
    have := run_loadCells_at (P := P) (w := w') (k := css.length * sz) (off := off) (by rw [hw]; exact h7) (by omega)
    rw [h5] at this
    simp only [Builtin.firstCells]
    exact this
def bytesCells (a : ByteArray) : List (List Value) := a.data.toList.map fun b => [.int .u8 b.toNat]
theorem bytesCells_flat (a : ByteArray) : (bytesCells a).flatten = a.data.toList.map fun b => .int .u8 b.toNat := by
  unfold bytesCells
  induction a.data.toList with
  | nil => rfl
  | cons b l ih => simp [ih]
theorem bytesCells_len (a : ByteArray) : (bytesCells a).length = a.size := by simp [bytesCells]
theorem bytesCells_els (a : ByteArray) : Els 1 (bytesCells a) := by
  intro x hx
  obtain ⟨b, _, rfl⟩ := List.mem_map.1 hx
  simp [Value.oneCell']
theorem Src.string (a : ByteArray) (w : World) : Src P 1 (.string a) (bytesCells a).length (bytesCells a).flatten w := by
  rw [bytesCells_len, bytesCells_flat]
  refine ⟨fun w' _ => rfl, fun w' _ => ?_⟩
  simp only [Builtin.firstCells, Sem.run_pure]
  congr 1
  have : a.extract 0 a.size = a := by
    apply ByteArray.ext
    simp
  rw [this]
  apply Array.ext'
  simp
theorem grownCap_max {w : World} {need old : Nat} {e : TypeId} (h : need ≤ 9223372036854775807) : grownCap w need old e ≤ 9223372036854775807 := by
  have := grownCap_le_maxLen w need old e (by unfold maxLen; omega)
  unfold maxLen at this
  omega
theorem app_grown {e : TypeId} {sz : Nat} {css css2 : List (List Value)} {z : Value} {w : World} {A : List SP} (hs : Sat w (seps A)) (he : Els sz css) (he2 : Els sz css2) (hz : z.cells.size = sz) {old : Nat}
    (h63 : css.length + css2.length ≤ 9223372036854775807) :
    Sat (w.drew.alloc (.cells (css.flatten.toArray ++ css2.flatten.toArray ++ Builtin.zeroCells z.cells (grownCap w (css.length + css2.length) old e - (css.length + css2.length))) e))
      (seps (row true e sz (.slice (some ⟨w.heap.size, 0, none⟩) (css.length + css2.length) (grownCap w (css.length + css2.length) old e)) (css ++ css2) :: A)) := by
  have hge := grownCap_ge w (css.length + css2.length) old e
  have hea := he.append he2
  have hfl := hea.flat
  simp only [List.length_append] at hfl
  have h1 := sat_new (w := w.drew) (sat_drew hs) (css.flatten ++ css2.flatten ++ (Builtin.zeroCells z.cells (grownCap w (css.length + css2.length) old e - (css.length + css2.length))).toList) e
  have h2 : (css.flatten ++ css2.flatten ++ (Builtin.zeroCells z.cells (grownCap w (css.length + css2.length) old e - (css.length + css2.length))).toList).toArray =
      css.flatten.toArray ++ css2.flatten.toArray ++ Builtin.zeroCells z.cells (grownCap w (css.length + css2.length) old e - (css.length + css2.length)) := by simp
  rw [h2] at h1
  have h3 := row_of_cel (css := css ++ css2) (sz := sz) (cap := grownCap w (css.length + css2.length) old e) h1 (by simpa using hge) (grownCap_max h63)
    (by
      simp only [List.length_append, Array.length_toList, size_zeroCells, hz, he.flat, he2.flat]
      have : (grownCap w (css.length + css2.length) old e) = (css.length + css2.length) + (grownCap w (css.length + css2.length) old e - (css.length + css2.length)) := by omega
      have h4 := congrArg (· * sz) this
      simp only [Nat.add_mul] at h4 ⊢
      omega)
    (by
      rw [← List.flatten_append, List.length_append, ← hfl]
      exact List.take_left) hea
  rw [List.length_append] at h3
  exact h3
theorem run_append {t t' ty e : TypeId} {sz : Nat} {td : TypeDesc} {ti : TypeInfo} {z x : Value} {v : Value} {css css2 : List (List Value)} {A M : List SP} {w : World} (u : P.underlying t = some (.slice e)) (u' : P.underlying t' = some td)
    (htd : (∃ e', td = .slice e') ∨ td = .string) (hi : P.info? e = some ti) (hsz : ti.size = sz) (hz : ti.zero = some z) (hzs : z.cells.size = sz) (hp : Pick (row true e sz v css) A M) (hs : Sat w (seps A))
    (hsrc : Src P sz x css2.length css2.flatten w) (he2 : Els sz css2) (h63 : css.length + css2.length ≤ 9223372036854775807) (hb : (css.length + css2.length) * ti.bytes ≤ 140737488355328) :
    ∃ v' w', (Builtin.append_ #[t, t'] ty #[v, x]).run P w = .ok v' w' ∧ Sat w' (seps (row true e sz v' (css ++ css2) :: M)) := by
  generalize hk : css2.length = k at *
  generalize hnews : css2.flatten = news at *
  rcases hp.isRow hs with ⟨a, rfl, ha, rfl⟩ | ⟨b, off, cap, c, rfl, h2, h3, h4, h5, h6, h7⟩
  · obtain rfl := ha rfl
    by_cases hk0 : k = 0
    · subst hk0
      have : css2 = [] := List.eq_nil_of_length_eq_zero hk
      subst this
      refine ⟨.slice none 0 0, w, ?_, ?_⟩
      · rcases htd with ⟨e', rfl⟩ | rfl <;> simp [Builtin.append_, run_underlying u, run_underlying u', sizeOf, typeInfo, hi, hsz, hsrc.1 w rfl, hsrc.2 w rfl]
      · rw [hp.eq] at hs
        exact hs
    · have h48' : ¬ (281474976710656 < Builtin.nextslicecap k 0 * ti.bytes) := by
        have := growslice_fits (need := k) (old := 0) (bytes := ti.bytes) (by omega) (by simpa using hb)
        omega
      have h63' : ¬ (9223372036854775807 < (k : Int)) := by simp at h63; omega
      rw [hp.eq] at hs
      rw [row_nil, emp_sep] at hs
      have hg := app_grown (e := e) (css := []) (css2 := css2) (old := 0) hs (Els.nil sz) he2 hzs (by simpa [hk] using h63)
      refine ⟨_, _, ?_, hg⟩
      simp only [List.length_nil, Nat.zero_add, hk, hnews, List.flatten_nil]
      rcases htd with ⟨e', rfl⟩ | rfl <;>
        simp [Builtin.append_, run_underlying u, run_underlying u', sizeOf, typeInfo, zeroValue, hi, hz, hsz, hsrc.1 w rfl, hsrc.2 w.drew rfl, hk0, h63', h48', Question.forced, run_firstCells_none, newRow, grownCap]
  · have h7 : w.heap[b]? = some (.cells c.toArray e (0, 0)) := by
      have hs2 := hs
      rw [hp.eq, sat_row] at hs2
      rcases hs2 with ⟨_, hv, h0, _⟩ | ⟨b', off', cap', c', k1, k2, k3, k4, k5, k6, k7⟩
      · rw [h0 rfl] at hv; cases hv
      · simp only [Value.slice.injEq, Option.some.injEq, Addr.mk.injEq] at k1
        obtain ⟨⟨rfl, rfl, _⟩, _, rfl⟩ := k1
        have h8 := k7.celBlockT
        obtain ⟨_, _, h9⟩ := h7
        rw [h9] at h8
        simp only [Option.some.injEq, Obj.cells.injEq] at h8
        rw [h9, h8.1, h8.2.1, h8.2.2]
    by_cases hroom : css.length + k ≤ cap
    · have hm : (css.length + k) * sz ≤ cap * sz := Nat.mul_le_mul_right _ hroom
      rw [Nat.add_mul] at hm
      have hnl : news.length = k * sz := by rw [← hnews, he2.flat, hk]
      have hst := run_storeCs (P := P) (off := off + css.length * sz) (vs := news) h7 (by omega) (by rw [← hnews]; exact he2.one)
      rw [hp.eq, sat_row] at hs
      rcases hs with ⟨_, hv, h0, _⟩ | ⟨b', off', cap', c', k1, k2, k3, k4, k5, k6, k7⟩
      · rw [h0 rfl] at hv; cases hv
      simp only [Value.slice.injEq, Option.some.injEq, Addr.mk.injEq] at k1
      obtain ⟨⟨rfl, rfl, _⟩, _, rfl⟩ := k1
      have hcc : c = c' := by
        have h8 := k7.celBlockT
        rw [h7] at h8
        simpa using h8
      subst hcc
      refine ⟨.slice (some ⟨b, off, none⟩) (css.length + k) cap, w.setRow b (spl c (off + css.length * sz) news).toArray, ?_, ?_⟩
      · have hadd : ∀ q, (⟨b, off, none⟩ : Addr).add q = ⟨b, off + q, none⟩ := fun q => Addr.add_at b off q
        rcases htd with ⟨e', rfl⟩ | rfl <;>
          simp [Builtin.append_, run_underlying u, run_underlying u', sizeOf, typeInfo, hi, hsz, hsrc.1 w rfl, hsrc.2 w rfl, hroom, hadd, hst]
      · have k9 : Sat w (sep (blk true b (.cells c.toArray e (0, 0))) (seps M)) := by rw [← cel_true]; exact k7
        have h8 := Sat.write (w' := w.setRow b (spl c (off + css.length * sz) news).toArray) (o' := .cells (spl c (off + css.length * sz) news).toArray e (0, 0)) k9 ⟨rfl, rfl⟩ (fun _ _ _ e => by cases e; rfl) (setRow_heap w b _ _ e _ h7) fun i hi => setRow_other w b i _ hi
        rw [seps, sat_row]
        have hsl : (spl c (off + css.length * sz) news).length = c.length := by simp [spl]; omega
        rw [← cel_true] at h8
        refine .inr ⟨b, off, cap, spl c (off + css.length * sz) news, by simp [hk], by simpa [hk] using hroom, h3, by rw [hsl]; exact h4, ?_, h6.append he2, h8⟩
        rw [List.length_append, List.flatten_append, hnews, ← h5, hk]
        have e1 : (css.length + k) * sz = css.length * sz + news.length := by rw [Nat.add_mul, hnl]
        rw [e1]
        unfold spl
        apply List.ext_getElem?
        intro q
        simp only [List.getElem?_take, List.getElem?_drop, List.getElem?_append, List.length_take, List.length_append, List.length_drop]
        by_cases q1 : q < css.length * sz
        · rw [if_pos (by omega), if_pos (by omega), if_pos (by omega), if_pos (by omega), if_pos (by omega), if_pos (by omega)]
        · by_cases q2 : q < css.length * sz + news.length
          · rw [if_pos q2, if_pos (by omega), if_neg (by omega), if_neg (by omega)]
            congr 1
            omega
          · rw [if_neg q2, if_neg (by omega)]
            rw [List.getElem?_eq_none]
            omega
    · have h48' : ¬ (281474976710656 < Builtin.nextslicecap (css.length + k) cap * ti.bytes) := by
        have := growslice_fits (need := css.length + k) (old := cap) (bytes := ti.bytes) (by omega) hb
        omega
      have h63' : ¬ (9223372036854775807 < ((css.length : Int) + (k : Int))) := by omega
      have hm2 : css.length * sz ≤ cap * sz := Nat.mul_le_mul_right _ h2
      have hold := run_loadCells_at (P := P) (w := w.drew) (k := css.length * sz) (off := off) h7 (by omega)
      rw [h5] at hold
      have hold' : (Builtin.firstCells sz css.length (.slice (some ⟨b, off, none⟩) css.length cap)).run P w.drew = .ok css.flatten.toArray w.drew := hold
      rw [hp.eq] at hs
      have hg := app_grown (e := e) (css := css) (css2 := css2) (old := cap) hs.right h6 he2 hzs (by rw [hk]; exact h63)
      rw [hk, hnews] at hg
      refine ⟨_, _, ?_, hg⟩
      rcases htd with ⟨e', rfl⟩ | rfl <;>
        (simp [Builtin.append_, run_underlying u, run_underlying u', sizeOf, typeInfo, zeroValue, hi, hz, hsz, hsrc.1 w rfl, hsrc.2 w.drew rfl, hroom, h63', h48', Question.forced, hold', newRow, grownCap]
         try (congr 2; apply Array.ext'; simp [List.append_assoc]))
section
variable {d : Option Tmp} {ty : TypeId} {pos : String} {af : Array Edge} {g : Option (Nat × Bool)}
/-- append of a row -/
theorem OpE.append {t t' e e1 e2 : TypeId} {sz : Nat} {m : Bool} {ti : TypeInfo} {z v v2 : Value} {css css2 : List (List Value)} {M M2 : List SP} {x y : Operand} [u : TyU P t (.slice e)] [u' : TyU P t' (.slice e1)] [i : TyI P e ti]
    (hx : s.ev x = v := by simp only [St.ev, slk, Nat.reduceBEq, cond_true, cond_false]; first | done | rfl) (hy : s.ev y = v2 := by simp only [St.ev, slk, Nat.reduceBEq, cond_true, cond_false]; first | done | rfl) (hp : Pick (row true e sz v css) s.A M := by (repeat (first | exact Pick.here | apply Pick.there)); done) (hp2 : Pick (row m e2 sz v2 css2) M M2 := by (repeat (first | exact Pick.here | apply Pick.there)); done) (hsz : ti.size = sz := by rfl) (hz : ti.zero = some z := by rfl) (hzs : z.cells.size = sz := by rfl)
    (h63 : css.length + css2.length ≤ 9223372036854775807 := by first | omega | (simp; done) | (simp; omega)) (hb : (css.length + css2.length) * ti.bytes ≤ 140737488355328 := by first | omega | (simp; done) | (simp; omega)) :
    OpE P s ⟨d, .call ⟨.builtin .append, #[x, y], #[t, t']⟩, ty, pos, af, g⟩ fun r L => L = row true e sz r (css ++ css2) :: M := fun w hs => by
  have hs2 := hs
  rw [hp.eq] at hs2
  have he2 : Els sz css2 := by
    rcases hp2.isRow hs2.right with ⟨_, _, _, rfl⟩ | ⟨_, _, _, _, _, _, _, _, _, h6, _⟩
    · exact Els.nil sz
    · exact h6
  obtain ⟨v', w', hr, hs'⟩ := run_append (ty := ty) u.u u'.u (.inl ⟨e1, rfl⟩) i.h hsz hz hzs hp hs (Src.row hp2 hs2.right) he2 h63 hb
  refine ⟨v', w', _, ?_, hs', rfl⟩
  simp only [execOp, resolve, invoke, builtin, List.map_toArray, List.map_cons, List.map_nil, hx, hy, Sem.run_bind, Sem.run_pure, Result.andThen_ok, hr]
/-- append of a text -/
theorem OpE.appendS {t t' e : TypeId} {ti : TypeInfo} {z v : Value} {a : ByteArray} {css : List (List Value)} {M : List SP} {x y : Operand} [u : TyU P t (.slice e)] [u' : TyU P t' .string] [i : TyI P e ti]
    (hx : s.ev x = v := by simp only [St.ev, slk, Nat.reduceBEq, cond_true, cond_false]; first | done | rfl) (hy : s.ev y = .string a := by simp only [St.ev, slk, Nat.reduceBEq, cond_true, cond_false]; first | done | rfl) (hp : Pick (row true e 1 v css) s.A M := by (repeat (first | exact Pick.here | apply Pick.there)); done) (hsz : ti.size = 1 := by rfl) (hz : ti.zero = some z := by rfl) (hzs : z.cells.size = 1 := by rfl)
    (h63 : css.length + a.size ≤ 9223372036854775807 := by first | omega | (simp; done) | (simp; omega)) (hb : (css.length + a.size) * ti.bytes ≤ 140737488355328 := by first | omega | (simp; done) | (simp; omega)) :
    OpE P s ⟨d, .call ⟨.builtin .append, #[x, y], #[t, t']⟩, ty, pos, af, g⟩ fun r L => L = row true e 1 r (css ++ bytesCells a) :: M := fun w hs => by
  rw [← bytesCells_len] at h63 hb
  obtain ⟨v', w', hr, hs'⟩ := run_append (ty := ty) u.u u'.u (.inr rfl) i.h hsz hz hzs hp hs (Src.string a w) (bytesCells_els a) h63 hb
  refine ⟨v', w', _, ?_, hs', rfl⟩
  simp only [execOp, resolve, invoke, builtin, List.map_toArray, List.map_cons, List.map_nil, hx, hy, Sem.run_bind, Sem.run_pure, Result.andThen_ok, hr]
end
end Go.Fw
