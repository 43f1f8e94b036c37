import Derived.Test.YtpbomaelkpjbbaaFwRes
namespace Go.Fw
variable {P : Program} {n : Nat} {s : St}

/-! elements of a row, written -/
theorem spl_len {c cs : List Value} {o : Nat} (h : o + cs.length ≤ c.length) : (spl c o cs).length = c.length := by
  simp [spl]; omega
theorem spl_left {x r cs : List Value} {f : Nat} (h : f + cs.length ≤ x.length) : spl (x ++ r) f cs = spl x f cs ++ r := by
  unfold spl
  rw [List.take_append_of_le_length (by omega), List.drop_append_of_le_length (by omega)]
  simp
theorem spl_right {x r cs : List Value} {p : Nat} : spl (x ++ r) (x.length + p) cs = x ++ spl r p cs := by
  unfold spl
  have e : x.length + p + cs.length = x.length + (p + cs.length) := by omega
  rw [List.take_length_add_append, e, List.drop_length_add_append]
  simp
theorem flat_set {sz : Nat} {css : List (List Value)} (h : Els sz css) {i f : Nat} {xs cs : List Value} (hi : css[i]? = some xs) (hf : f + cs.length ≤ sz) : (css.set i (spl xs f cs)).flatten = spl css.flatten (i * sz + f) cs := by
  induction css generalizing i with
  | nil => simp at hi
  | cons y l ih =>
    have h1 := (h y (by simp)).1
    cases i with
    | zero =>
      simp only [List.getElem?_cons_zero, Option.some.injEq] at hi
      subst hi
      simp only [List.set_cons_zero, List.flatten_cons, Nat.zero_mul, Nat.zero_add]
      rw [spl_left (by omega)]
    | succ i =>
      simp only [List.getElem?_cons_succ] at hi
      have h2 := ih (fun z hz => h z (by simp [hz])) hi
      simp only [List.set_cons_succ, List.flatten_cons, h2]
      have e : (i + 1) * sz + f = y.length + (i * sz + f) := by rw [h1, Nat.succ_mul]; omega
      rw [e, spl_right]
theorem Els.set {sz : Nat} {css : List (List Value)} (h : Els sz css) {i f : Nat} {xs cs : List Value} (hi : css[i]? = some xs) (hf : f + cs.length ≤ sz) (h1 : ∀ v ∈ cs, v.oneCell' = true) : Els sz (css.set i (spl xs f cs)) := by
  intro x hx
  have hxs := h xs (List.mem_of_getElem? hi)
  rcases List.mem_or_eq_of_mem_set hx with hx | rfl
  · exact h x hx
  · refine ⟨by rw [spl_len (by omega)]; exact hxs.1, fun u hu => ?_⟩
    unfold spl at hu
    rcases List.mem_append.1 hu with hu | hu
    · rcases List.mem_append.1 hu with hu | hu
      · exact hxs.2 u (List.mem_of_mem_take hu)
      · exact h1 u hu
    · exact hxs.2 u (List.mem_of_mem_drop hu)
theorem Pick.rowT {e : TypeId} {sz : Nat} {v : Value} {css : List (List Value)} {A M : List SP} (hp : Pick (row true e sz v css) A M) {w : World} (hs : Sat w (Fw.seps A)) (hne : css ≠ []) :
    ∃ (b off cap : Nat) (c : List Value), v = .slice (some ⟨b, off, none⟩) css.length cap ∧ css.length ≤ cap ∧ cap ≤ 9223372036854775807 ∧ off + cap * sz ≤ c.length ∧
      (c.drop off).take (css.length * sz) = css.flatten ∧ Els sz css ∧ w.heap[b]? = some (.cells c.toArray e (0, 0)) ∧ Sat w (sep (blk true b (.cells c.toArray e (0, 0))) (Fw.seps M)) := by
  rw [hp.eq, sat_row] at hs
  rcases hs with ⟨_, _, _, h0, _⟩ | ⟨b, off, cap, c, h1, h2, h3, h4, h5, h6, h7⟩
  · exact absurd h0 hne
  · rw [cel_true] at h7
    exact ⟨b, off, cap, c, h1, h2, h3, h4, h5, h6, h7.block, h7⟩
theorem sat_setEl {e : TypeId} {sz : Nat} {css : List (List Value)} {M : List SP} {w : World} {b off cap : Nat} {c : List Value} {i f : Nat} {xs cs : List Value}
    (h2 : css.length ≤ cap) (h3 : cap ≤ 9223372036854775807) (h4 : off + cap * sz ≤ c.length) (h5 : (c.drop off).take (css.length * sz) = css.flatten) (h6 : Els sz css) (hb : w.heap[b]? = some (.cells c.toArray e (0, 0)))
    (h8 : Sat w (sep (blk true b (.cells c.toArray e (0, 0))) (seps M))) (hi : css[i]? = some xs) (hf : f + cs.length ≤ sz) (h1 : ∀ v ∈ cs, v.oneCell' = true) :
    Sat (w.setRow b (spl c (off + (i * sz + f)) cs).toArray) (seps (row true e sz (.slice (some ⟨b, off, none⟩) css.length cap) (css.set i (spl xs f cs)) :: M)) := by
  have hil : i < css.length := (List.getElem?_eq_some_iff.1 hi).1
  have hm : (i + 1) * sz ≤ css.length * sz := Nat.mul_le_mul_right _ hil
  have hm2 : css.length * sz ≤ cap * sz := Nat.mul_le_mul_right _ h2
  rw [Nat.succ_mul] at hm
  have h9 := Sat.write (w' := w.setRow b (spl c (off + (i * sz + f)) cs).toArray) (o' := .cells (spl c (off + (i * sz + f)) cs).toArray e (0, 0)) h8 ⟨rfl, rfl⟩ (fun _ _ _ e => by cases e; rfl) (setRow_heap w b _ _ e _ hb) fun i hi => setRow_other w b i _ hi
  rw [← cel_true] at h9
  rw [seps, sat_row]
  refine .inr ⟨b, off, cap, spl c (off + (i * sz + f)) cs, by rw [List.length_set], by rw [List.length_set]; exact h2, h3, by rw [spl_len (by omega)]; exact h4, ?_, h6.set hi hf h1, h9⟩
  rw [List.length_set, flat_set h6 hi hf, ← h5]
  have hcl : c = c.take off ++ c.drop off := (List.take_append_drop off c).symm
  have e1 : spl c (off + (i * sz + f)) cs = c.take off ++ spl (c.drop off) (i * sz + f) cs := by
    have := spl_right (x := c.take off) (r := c.drop off) (p := i * sz + f) (cs := cs)
    rw [← hcl, List.length_take, Nat.min_eq_left (by omega)] at this
    exact this
  rw [e1, List.drop_left' (by simp; omega)]
  have e2 : c.drop off = (c.drop off).take (css.length * sz) ++ (c.drop off).drop (css.length * sz) := (List.take_append_drop _ _).symm
  have e3 : spl (c.drop off) (i * sz + f) cs = spl ((c.drop off).take (css.length * sz)) (i * sz + f) cs ++ (c.drop off).drop (css.length * sz) := by
    conv => lhs; rw [e2]
    rw [spl_left (by simp; omega)]
  rw [e3, List.take_left' (by rw [spl_len (by simp; omega)]; simp; omega)]
theorem spl0 {xs cs : List Value} (h : xs.length = cs.length) : spl xs 0 cs = cs := by
  unfold spl
  simp [← h]
section
variable {d : Option Tmp} {ty : TypeId} {pos : String} {af : Array Edge} {g : Option (Nat × Bool)} {e : TypeId} {sz : Nat} {v : Value} {css : List (List Value)} {M : List SP}
theorem OpU.stEpA {t : TypeId} {x y : Operand} {i f z : Nat} {xs cs xs' : List Value} {css' : List (List Value)} [y' : TyS P t z] (hx : s.ev x = ep v sz i f := by simp only [St.ev, slk, Nat.reduceBEq, cond_true, cond_false]; first | done | rfl) (hy : s.ev y = .agg cs.toArray := by simp only [St.ev, slk, Nat.reduceBEq, cond_true, cond_false]; first | done | rfl)
    (hp : Pick (row true e sz v css) s.A M := by (repeat (first | exact Pick.here | apply Pick.there)); done) (hi : css[i]? = some xs := by first | assumption | rfl) (hz : cs.length = z := by rfl) (hk : Nat.ble (f + z) sz = true := by rfl) (h1 : (cs.all fun v => v.oneCell') = true := by rfl)
    (hc : spl xs f cs = xs' := by first | exact spl0 rfl | simp only [spl, List.length_cons, List.length_nil, Nat.reduceAdd, List.take_succ_cons, List.take_zero, List.drop_succ_cons, List.drop_zero, List.cons_append, List.nil_append, List.drop_nil, List.append_nil]; first | done | rfl) (hcc : css.set i xs' = css' := by first | assumption | rfl) :
    OpU P s ⟨d, .store t x y, ty, pos, af, g⟩ (row true e sz v css' :: M) := fun w hs => by
  subst hz
  subst hc
  subst hcc
  have hk' : f + cs.length ≤ sz := by simpa using hk
  have h1' : ∀ v ∈ cs, v.oneCell' = true := by simpa using h1
  have hil : i < css.length := (List.getElem?_eq_some_iff.1 hi).1
  obtain ⟨b, off, cap, c, rfl, h2, h3, h4, h5, h6, hb, h8⟩ := hp.rowT hs (by rintro rfl; simp at hil)
  have hm : (i + 1) * sz ≤ css.length * sz := Nat.mul_le_mul_right _ hil
  have hm2 : css.length * sz ≤ cap * sz := Nat.mul_le_mul_right _ h2
  rw [Nat.succ_mul] at hm
  refine ⟨_, ?_, sat_setEl h2 h3 h4 h5 h6 hb h8 hi hk' h1'⟩
  have hst := run_storeCs (P := P) (off := off + (i * sz + f)) (vs := cs) hb (by omega) h1'
  simp only [execOp, Instr.storeAt, hx, hy, ep]
  simp [Instr.sureAddr, storeVar, Value.cells, y'.h w, hst]
theorem OpU.stEp {t : TypeId} {x y : Operand} {i f : Nat} {xs xs' : List Value} {u : Value} {css' : List (List Value)} [y' : TyS P t 1] (hx : s.ev x = ep v sz i f := by simp only [St.ev, slk, Nat.reduceBEq, cond_true, cond_false]; first | done | rfl) (hy : s.ev y = u := by simp only [St.ev, slk, Nat.reduceBEq, cond_true, cond_false]; first | done | rfl)
    (hp : Pick (row true e sz v css) s.A M := by (repeat (first | exact Pick.here | apply Pick.there)); done) (hi : css[i]? = some xs := by first | assumption | rfl) (hk : Nat.ble (f + 1) sz = true := by rfl) (h1 : u.oneCell' = true := by rfl)
    (hc : spl xs f [u] = xs' := by simp only [spl, List.length_cons, List.length_nil, Nat.reduceAdd, List.take_succ_cons, List.take_zero, List.drop_succ_cons, List.drop_zero, List.cons_append, List.nil_append, List.drop_nil, List.append_nil]; first | done | rfl) (hcc : css.set i xs' = css' := by first | assumption | rfl) :
    OpU P s ⟨d, .store t x y, ty, pos, af, g⟩ (row true e sz v css' :: M) := fun w hs => by
  subst hc
  subst hcc
  have hk' : f + 1 ≤ sz := by simpa using hk
  have hil : i < css.length := (List.getElem?_eq_some_iff.1 hi).1
  obtain ⟨b, off, cap, c, rfl, h2, h3, h4, h5, h6, hb, h8⟩ := hp.rowT hs (by rintro rfl; simp at hil)
  have hm : (i + 1) * sz ≤ css.length * sz := Nat.mul_le_mul_right _ hil
  have hm2 : css.length * sz ≤ cap * sz := Nat.mul_le_mul_right _ h2
  rw [Nat.succ_mul] at hm
  refine ⟨_, ?_, sat_setEl (cs := [u]) h2 h3 h4 h5 h6 hb h8 hi hk' (by simpa using h1)⟩
  have hst := run_storeCs (P := P) (off := off + (i * sz + f)) (vs := [u]) hb (by simp; omega) (by simpa using h1)
  have hst' := hst
  unfold storeCells at hst'
  simp only [execOp, Instr.storeAt, hx, hy, ep]
  simp [Instr.sureAddr, storeVar, one_cells h1, y'.h w, hst]
/-! x[:h:m], texts cut -/
theorem OpE.subHM {t e : TypeId} {x i i2 : Operand} {k k2 : IntKind} {q q2 : Int} {hi' sz : Nat} {m : Bool} {y : Sl} {css : List (List Value)} {M : List SP} [u : TyU P t (.slice e)] [z : TyS P e sz] (hx : s.ev x = y.v := by simp only [St.ev, slk, Nat.reduceBEq, cond_true, cond_false]; first | done | rfl) (hi : s.ev i = .int k q := by simp only [St.ev, slk, Nat.reduceBEq, cond_true, cond_false]; first | done | rfl)
    (hi2 : s.ev i2 = .int k2 q2 := by simp only [St.ev, slk, Nat.reduceBEq, cond_true, cond_false]; first | done | rfl)
    (hp : Pick (row m e sz y.v css) s.A M := by (repeat (first | exact Pick.here | apply Pick.there)); done) (hq : q.toNat = hi' := by first | with_reducible exact Go.Fw.toNat_pred _ | with_reducible exact Int.toNat_natCast _ | exact Int.toNat_natCast _ | rfl)
    (h0 : 0 ≤ q := by first | omega | (simp; done) | (simp; omega)) (h1 : q ≤ q2 := by first | omega | (simp; done) | (simp; omega)) (h2 : q2 ≤ css.length := by first | omega | (simp; done) | (simp; omega)) :
    OpE P s ⟨d, .slice t x none (some i) (some i2), ty, pos, af, g⟩ fun v L => ∃ r : Sl, v = r.v ∧ L = row m e sz r.v (css.take hi') :: M := fun w hs => by
  subst hq
  have hl := hp.sub hs
  have hc := hp.cap hs
  have hT : P.underlying t = some (.slice (P.elem t)) := by rw [elem_of u.u]; exact u.u
  have hr := run_slice_hm w t y.a y.k y.c hT k k2 q q2 h0 h1 (by omega)
  have hs2 := hs
  rw [hp.eq] at hs2
  have h3 := row_sub (l := 0) (hi := q.toNat) (mx := q2.toNat) hs2 (by omega) (by omega) (by omega) (by omega)
  rw [List.drop_zero] at h3
  refine ⟨sliced y.a 0 q.toNat q2.toNat sz, w, row m e sz (sliced y.a 0 q.toNat q2.toNat sz) (css.take q.toNat) :: M, ?_, h3, ⟨⟨_, _, _⟩, rfl, rfl⟩⟩
  simp only [execOp, Option.map_some, Option.map_none, hx, hi, hi2, Sem.run_bind]
  rw [run_sliceAt_slice w t _ _ _ _ hT]
  simp only [Sl.v] at hr ⊢
  rw [hr, elem_of u.u, z.h w]
  rfl
theorem OpV.subSH {t : TypeId} {x i : Operand} {k : IntKind} {q : Int} {a : ByteArray} {hi' : Nat} [u : TyU P t .string] (hx : s.ev x = .string a := by simp only [St.ev, slk, Nat.reduceBEq, cond_true, cond_false]; first | done | rfl) (hi : s.ev i = .int k q := by simp only [St.ev, slk, Nat.reduceBEq, cond_true, cond_false]; first | done | rfl)
    (hq : q.toNat = hi' := by first | with_reducible exact Go.Fw.toNat_pred _ | with_reducible exact Int.toNat_natCast _ | exact Int.toNat_natCast _ | rfl) (h0 : 0 ≤ q := by first | omega | (simp; done) | (simp; omega)) (h1 : q ≤ a.size := by first | omega | (simp; done) | (simp; omega)) :
    OpV P s ⟨d, .slice t x none (some i) none, ty, pos, af, g⟩ (.string (a.extract 0 hi')) := fun w hs => by
  subst hq
  have hr := run_slice_string_h (P := P) w t a u.u k q h0 h1
  simp only [execOp, Option.map_some, Option.map_none, hx, hi, Sem.run_bind]
  rw [run_sliceAt_string w t _ _ _ _ u.u, hr]
  rfl
theorem OpV.subNil {t e : TypeId} {x i i2 : Operand} {k k2 : IntKind} [u : TyU P t (.slice e)] (hx : s.ev x = .slice none 0 0 := by simp only [St.ev, slk, Nat.reduceBEq, cond_true, cond_false]; first | done | rfl) (hi : s.ev i = .int k 0 := by simp only [St.ev, slk, Nat.reduceBEq, cond_true, cond_false]; first | done | rfl)
    (hi2 : s.ev i2 = .int k2 0 := by simp only [St.ev, slk, Nat.reduceBEq, cond_true, cond_false]; first | done | rfl) {sz : Nat} [z : TyS P e sz] : OpV P s ⟨d, .slice t x none (some i) (some i2), ty, pos, af, g⟩ (.slice none 0 0) := fun w _ => by
  have hT : P.underlying t = some (.slice (P.elem t)) := by rw [elem_of u.u]; exact u.u
  have hr := run_slice_hm w t none 0 0 hT k k2 0 0 (by omega) (by omega) (by omega)
  simp only [execOp, Option.map_some, Option.map_none, hx, hi, hi2, Sem.run_bind]
  rw [run_sliceAt_slice w t _ _ _ _ hT, hr, elem_of u.u, z.h w]
  rfl
theorem OpV.minL {x y : Operand} {ts : Array TypeId} {k : IntKind} {a b : Int} (hx : s.ev x = .int k a := by simp only [St.ev, slk, Nat.reduceBEq, cond_true, cond_false]; first | done | rfl) (hy : s.ev y = .int k b := by simp only [St.ev, slk, Nat.reduceBEq, cond_true, cond_false]; first | done | rfl) (h : a ≤ b := by first | omega | (simp; done) | (simp; omega)) :
    OpV P s ⟨d, .call ⟨.builtin .min, #[x, y], ts⟩, ty, pos, af, g⟩ (.int k a) := by
  have h1 := OpV.min2 (P := P) (s := s) (d := d) (ty := ty) (pos := pos) (af := af) (g := g) (ts := ts) hx hy
  have e : (if b < a then b else a) = a := by split <;> omega
  rw [e] at h1
  exact h1
theorem OpV.minR {x y : Operand} {ts : Array TypeId} {k : IntKind} {a b : Int} (hx : s.ev x = .int k a := by simp only [St.ev, slk, Nat.reduceBEq, cond_true, cond_false]; first | done | rfl) (hy : s.ev y = .int k b := by simp only [St.ev, slk, Nat.reduceBEq, cond_true, cond_false]; first | done | rfl) (h : b ≤ a := by first | omega | (simp; done) | (simp; omega)) :
    OpV P s ⟨d, .call ⟨.builtin .min, #[x, y], ts⟩, ty, pos, af, g⟩ (.int k b) := by
  have h1 := OpV.min2 (P := P) (s := s) (d := d) (ty := ty) (pos := pos) (af := af) (g := g) (ts := ts) hx hy
  have e : (if b < a then b else a) = b := by split <;> omega
  rw [e] at h1
  exact h1
theorem OpV.maxL {x y : Operand} {ts : Array TypeId} {k : IntKind} {a b : Int} (hx : s.ev x = .int k a := by simp only [St.ev, slk, Nat.reduceBEq, cond_true, cond_false]; first | done | rfl) (hy : s.ev y = .int k b := by simp only [St.ev, slk, Nat.reduceBEq, cond_true, cond_false]; first | done | rfl) (h : b ≤ a := by first | omega | (simp; done) | (simp; omega)) :
    OpV P s ⟨d, .call ⟨.builtin .max, #[x, y], ts⟩, ty, pos, af, g⟩ (.int k a) := by
  have h1 := OpV.max2 (P := P) (s := s) (d := d) (ty := ty) (pos := pos) (af := af) (g := g) (ts := ts) hx hy
  have e : (if b > a then b else a) = a := by split <;> omega
  rw [e] at h1
  exact h1
theorem OpV.maxR {x y : Operand} {ts : Array TypeId} {k : IntKind} {a b : Int} (hx : s.ev x = .int k a := by simp only [St.ev, slk, Nat.reduceBEq, cond_true, cond_false]; first | done | rfl) (hy : s.ev y = .int k b := by simp only [St.ev, slk, Nat.reduceBEq, cond_true, cond_false]; first | done | rfl) (h : a ≤ b := by first | omega | (simp; done) | (simp; omega)) :
    OpV P s ⟨d, .call ⟨.builtin .max, #[x, y], ts⟩, ty, pos, af, g⟩ (.int k b) := by
  have h1 := OpV.max2 (P := P) (s := s) (d := d) (ty := ty) (pos := pos) (af := af) (g := g) (ts := ts) hx hy
  have e : (if b > a then b else a) = b := by split <;> omega
  rw [e] at h1
  exact h1
theorem OpV.mul {t t' : TypeId} {x y : Operand} {a b : Int} (hx : s.ev x = .int .i64 a := by simp only [St.ev, slk, Nat.reduceBEq, cond_true, cond_false]; first | done | rfl) (hy : s.ev y = .int .i64 b := by simp only [St.ev, slk, Nat.reduceBEq, cond_true, cond_false]; first | done | rfl) (h : -9223372036854775808 ≤ a * b ∧ a * b ≤ 9223372036854775807 := by first | omega | (simp; done) | (simp; omega)) :
    OpV P s ⟨d, .binOp .mul t x y t', ty, pos, af, g⟩ (.int .i64 (a * b)) := OpV.binI hx hy (by simp only [Fw.binI, wrap_in h])
theorem OpV.subSAll {t : TypeId} {x i : Operand} {k : IntKind} {q : Int} {a : ByteArray} [u : TyU P t .string] (hx : s.ev x = .string a := by simp only [St.ev, slk, Nat.reduceBEq, cond_true, cond_false]; first | done | rfl) (hi : s.ev i = .int k q := by simp only [St.ev, slk, Nat.reduceBEq, cond_true, cond_false]; first | done | rfl)
    (hq : q = a.size := by first | rfl | omega) : OpV P s ⟨d, .slice t x none (some i) none, ty, pos, af, g⟩ (.string a) := by
  have h := OpV.subSH (P := P) (s := s) (d := d) (t := t) (ty := ty) (pos := pos) (af := af) (g := g) (hi' := a.size) hx hi (by rw [hq]; exact Int.toNat_natCast _) (by omega) (by omega)
  have e : a.extract 0 a.size = a := by apply ByteArray.ext; simp
  rw [e] at h
  exact h
def andV (k : IntKind) (a b : Int) : Int := k.wrap ((BitVec.ofInt k.bits a &&& BitVec.ofInt k.bits b).toNat)
theorem andV_mask (a : Int) (m : Nat) (hm : m ≤ 62) : 0 ≤ andV .i64 a (2 ^ m - 1) ∧ andV .i64 a (2 ^ m - 1) ≤ 2 ^ m - 1 := by
  unfold andV
  have h1 : (BitVec.ofInt IntKind.i64.bits a &&& BitVec.ofInt IntKind.i64.bits (2 ^ m - 1)).toNat ≤ 2 ^ m - 1 := by
    rw [BitVec.toNat_and]
    have h2 : (BitVec.ofInt IntKind.i64.bits (2 ^ m - 1)).toNat = 2 ^ m - 1 := by
      have hb : IntKind.i64.bits = 64 := rfl
      rw [hb, BitVec.toNat_ofInt]
      have h3 : (2 : Int) ^ m ≤ 2 ^ 62 := by exact_mod_cast Nat.pow_le_pow_right (by decide) hm
      have h4 : (1 : Int) ≤ 2 ^ m := by exact_mod_cast Nat.one_le_two_pow
      have h5 : ((2 : Int) ^ m - 1) % ((2 ^ 64 : Nat) : Int) = 2 ^ m - 1 := Int.emod_eq_of_lt (by omega) (by
        have : ((2 ^ 64 : Nat) : Int) = 18446744073709551616 := by decide
        rw [this]
        have : (2 : Int) ^ 62 = 4611686018427387904 := by decide
        omega)
      rw [h5]
      have h6 : ((2 : Int) ^ m - 1) = ((2 ^ m - 1 : Nat) : Int) := by
        have := Nat.one_le_two_pow (n := m)
        push_cast [this]
        rfl
      rw [h6]
      exact Int.toNat_natCast _
    rw [h2]
    exact Nat.and_le_right
  have h4 : (1 : Int) ≤ 2 ^ m := by exact_mod_cast Nat.one_le_two_pow
  have h3 : (2 : Int) ^ m ≤ 2 ^ 62 := by exact_mod_cast Nat.pow_le_pow_right (by decide) hm
  have h62 : (2 : Int) ^ 62 = 4611686018427387904 := by decide
  generalize (BitVec.ofInt IntKind.i64.bits a &&& BitVec.ofInt IntKind.i64.bits (2 ^ m - 1)).toNat = r at h1
  have h7 : (r : Int) ≤ 2 ^ m - 1 := by
    have h8 : ((2 ^ m - 1 : Nat) : Int) = 2 ^ m - 1 := by
      have := Nat.one_le_two_pow (n := m)
      push_cast [this]
      rfl
    omega
  rw [wrap_in ⟨by omega, by omega⟩]
  omega
theorem OpV.and {t t' : TypeId} {x y : Operand} {k : IntKind} {a b : Int} (hx : s.ev x = .int k a := by simp only [St.ev, slk, Nat.reduceBEq, cond_true, cond_false]; first | done | rfl) (hy : s.ev y = .int k b := by simp only [St.ev, slk, Nat.reduceBEq, cond_true, cond_false]; first | done | rfl) :
    OpV P s ⟨d, .binOp .and t x y t', ty, pos, af, g⟩ (.int k (andV k a b)) := fun w _ => by
  simp only [execOp, hx, hy]
  simp [eqGuard, binOp, Op.intBits, andV]
/-! shifts -/
theorem OpV.shr {t t' : TypeId} {x y : Operand} {k k' : IntKind} {a b : Int} (hx : s.ev x = .int k a := by simp only [St.ev, slk, Nat.reduceBEq, cond_true, cond_false]; first | done | rfl) (hy : s.ev y = .int k' b := by simp only [St.ev, slk, Nat.reduceBEq, cond_true, cond_false]; first | done | rfl) (h0 : 0 ≤ b := by first | omega | (simp; done) | (simp; omega)) :
    OpV P s ⟨d, .binOp .shr t x y t', ty, pos, af, g⟩ (.int k (a / 2 ^ min b.toNat k.bits)) := fun w _ => by
  simp only [execOp, hx, hy]
  simp [eqGuard, binOp, shift_shr_any _ _ _ _ h0]
end
end Go.Fw
namespace Go.Fw
variable {P : Program} {n : Nat}
/-- A post that holds whatever else the slots bear. -/
def Wk (Q : Exit → St → Prop) : Prop := ∀ (l l0 : List (Nat × Value)) (j : Nat → Value) (A A0 C : List SP), AllIs j l l0 → Picks A0 A C → (∀ j', Q .normal ⟨l0, j', A0⟩) → Q .normal ⟨l, j, A⟩
theorem Wk.thn {y : Code} {Q : Exit → St → Prop} : Wk (Thn P n y Q) := fun _ _ _ _ _ _ hl hA h => T.to (Q := Q) hl hA h
theorem Wk.blk {i : Nat} {Q : Exit → St → Prop} (h : Wk Q) : Wk (Blk i Q) := fun l l0 j A A0 C hl hA hq => h l l0 j A A0 C hl hA hq
theorem T.blkW {x : Code} {i : Nat} {Q : Exit → St → Prop} {s : St} (I : List (Nat × Value) → List SP → Prop) (hx : T P n x (Blk i (ThnI I Q)) s) (hy : ∀ l A j, I l A → Q .normal ⟨l, j, A⟩) (hw : Wk Q := by repeat (first | exact Wk.thn | apply Wk.blk)) : T P n x (Blk i Q) s := by
  have key : ∀ e s, ThnI I Q e s → Q e s := by
    intro e s hq
    cases e with
    | normal => obtain ⟨l', A', C, h1, h2, h3⟩ := hq; exact hw s.l l' s.j s.A A' C h2 h3 fun j' => hy l' A' j' h1
    | _ => exact hq
  refine T.mono hx ?_
  intro e s hq
  cases e with
  | exit k =>
    simp only [Blk] at hq ⊢
    cases h : k == i with
    | true => rw [h] at hq; exact key .normal s hq
    | false => rw [h] at hq; exact key (.exit k) s hq
  | normal => exact key .normal s hq
  | ret => exact key .ret s hq
  | goto l => exact key (.goto l) s hq
  | panic c => exact key (.panic c) s hq
  | outgrown => exact key .outgrown s hq
end Go.Fw
namespace Go.Fw
variable {P : Program} {n : Nat} {ops : Array Oper} {Q : Exit → St → Prop} {D : List Nat} {pend : List (Nat × List SP)} {l : List (Nat × Value)} {j : Nat → Value} {A : List SP}
/-! several that may be next -/
def okAny (ops : Array Oper) (D C : List Nat) : Bool :=
  (C.all fun c => !D.contains c) && ((!(List.range ops.size).all fun k => D.contains k) && ((List.range ops.size).all fun k => D.contains k || C.contains k || (edgesOf ops k).any fun e => !D.contains e))
theorem TG.any (C : List Nat) (hok : okAny ops D C = true := by rfl) (h : ∀ c ∈ C, Loud P n ops Q D pend l j A c) : TG P n ops Q D pend ⟨l, j, A⟩ := by
  unfold okAny at hok
  simp only [Bool.and_eq_true, Bool.not_eq_true'] at hok
  exact TG.loud C hok.2.2 (fun h => by rw [h] at hok; cases hok.2.1) h
def okR (ops : Array Oper) (D : List Nat) (i : Nat) : Bool := !D.contains i && (edgesOf ops i).all fun e => D.contains e
theorem TG.chk (i : Nat) (_ : okR ops D i = true := by rfl) (k : TG P n ops Q D pend ⟨l, j, A⟩) : TG P n ops Q D pend ⟨l, j, A⟩ := k
theorem TG.fn {p : Nat → Prop} : ∀ c ∈ ([] : List Nat), p c := fun _ h => by cases h
theorem TG.fc {p : Nat → Prop} {c : Nat} {C : List Nat} (h : p c) (k : ∀ x ∈ C, p x) : ∀ x ∈ c :: C, p x := fun x hx => by
  rcases List.mem_cons.1 hx with rfl | hx
  · exact h
  · exact k x hx
def okL1 (ops : Array Oper) (D : List Nat) (pend : List Nat) (c : Nat) : Bool :=
  !D.contains c && (match ops[c]? with | some o => noSel o | none => false) &&
  pend.all fun x => (match dstOf ops x with | some e => !(looksOf ops c).contains e | none => true) &&
      (match dstOf ops c with | some d => !(looksOf ops x).contains d && dstOf ops x != some d | none => true)
theorem Loud.lo {pend' : List (Nat × List SP)} {K : Value → List SP → Prop} (c : Nat) {o : Oper} (ho : ops[c]? = some o := by rfl) (hp : pend.filter (fun x => !(clo ops c).contains x.1) = pend' := by rfl)
    (hok : okL1 ops D (pend'.map (·.1)) c = true := by rfl) (hw : want ops ⟨l, j, A⟩ o = true := by rfl) (hK : OpK P ⟨l, j, A⟩ o K)
    (k : ∀ v L, K v L → Held pend' L ∧ match o.dst with
      | some d => Nat.blt d n = true ∧ TG P n ops Q (c :: D) pend' ⟨(d, v) :: l, j, L⟩
      | none => TG P n ops Q (c :: D) pend' ⟨l, j, L⟩) : Loud P n ops Q D pend l j A c := by
  unfold okL1 at hok
  simp only [Bool.and_eq_true, Bool.not_eq_true', List.all_map] at hok
  obtain ⟨⟨h1, h3⟩, h5⟩ := hok
  have hdo : dstOf ops c = o.dst := by simp [dstOf, ho]
  rw [ho] at h3
  rw [hdo] at h5
  exact ⟨o, pend', K, ho, h1, h3, hw, hp, h5, hK, fun v L hK => ⟨(k v L hK).1.out, (k v L hK).2⟩⟩
theorem Loud.ld {pend' : List (Nat × List SP)} {K : Value → List SP → Prop} (c : Nat) {o : Oper} {d : Nat} (ho : ops[c]? = some o := by rfl) (hp : pend.filter (fun x => !(clo ops c).contains x.1) = pend' := by rfl)
    (hok : okL1 ops D (pend'.map (·.1)) c = true := by rfl) (hw : want ops ⟨l, j, A⟩ o = true := by rfl) (hd : o.dst = some d := by rfl) (hdn : Nat.blt d n = true := by rfl) (hK : OpK P ⟨l, j, A⟩ o K)
    (k : ∀ v L, K v L → Held pend' L ∧ TG P n ops Q (c :: D) pend' ⟨(d, v) :: l, j, L⟩) : Loud P n ops Q D pend l j A c :=
  Loud.lo c ho hp hok hw hK fun v L h => ⟨(k v L h).1, by rw [hd]; exact ⟨hdn, (k v L h).2⟩⟩
theorem Loud.lu {pend' : List (Nat × List SP)} {L : List SP} (c : Nat) {o : Oper} (ho : ops[c]? = some o := by rfl) (hp : pend.filter (fun x => !(clo ops c).contains x.1) = pend' := by rfl)
    (hok : okL1 ops D (pend'.map (·.1)) c = true := by rfl) (hw : want ops ⟨l, j, A⟩ o = true := by rfl) (hd : o.dst = none := by rfl) (hK : OpU P ⟨l, j, A⟩ o L) (hh : Held pend' L := by (repeat (first | exact Held.nil | apply Held.zero | (apply Held.one; (repeat (first | exact Pick.here | apply Pick.there))))); done)
    (k : TG P n ops Q (c :: D) pend' ⟨l, j, L⟩) : Loud P n ops Q D pend l j A c :=
  Loud.lo c ho hp hok hw (OpK.ofU hK) fun v M h => by rw [hd]; obtain ⟨rfl, rfl⟩ := h; exact ⟨hh, k⟩
end Go.Fw
