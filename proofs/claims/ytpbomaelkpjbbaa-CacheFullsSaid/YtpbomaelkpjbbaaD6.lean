import Derived.Test.YtpbomaelkpjbbaaD5
namespace Go.Proofs.Ytpbomaelkpjbbaa
/-! the order of keys -/
theorem u8_lt {a b : UInt8} : (a < b) ↔ a.toNat < b.toNat := UInt8.lt_iff_toNat_lt
theorem u8_eq {a b : UInt8} : (a = b) ↔ a.toNat = b.toNat := by rw [UInt8.toNat_inj]
theorem bLess_irrefl (a : List UInt8) : Op.bytesLess a a = false := by
  induction a with
  | nil => rfl
  | cons x l ih => simp [Op.bytesLess, ih, u8_lt]
theorem bLess_trans : ∀ {a b c : List UInt8}, Op.bytesLess a b = true → Op.bytesLess b c = true → Op.bytesLess a c = true
  | _, [], _, h, _ => by simp [Op.bytesLess] at h
  | _, _ :: _, [], _, h => by simp [Op.bytesLess] at h
  | [], _ :: _, _ :: _, _, _ => by simp [Op.bytesLess]
  | x :: a, y :: b, z :: c, h1, h2 => by
    simp only [Op.bytesLess, Bool.or_eq_true, Bool.and_eq_true, decide_eq_true_eq, beq_iff_eq, u8_lt, u8_eq] at *
    rcases h1 with h1 | ⟨h1, h1'⟩ <;> rcases h2 with h2 | ⟨h2, h2'⟩
    · exact .inl (by omega)
    · exact .inl (by omega)
    · exact .inl (by omega)
    · exact .inr ⟨by omega, bLess_trans h1' h2'⟩
theorem bLess_total : ∀ {a b : List UInt8}, Op.bytesLess a b = false → Op.bytesLess b a = false → a = b
  | [], [], _, _ => rfl
  | [], _ :: _, h, _ => by simp [Op.bytesLess] at h
  | _ :: _, [], _, h => by simp [Op.bytesLess] at h
  | x :: a, y :: b, h1, h2 => by
    simp only [Op.bytesLess, Bool.or_eq_false_iff, Bool.and_eq_false_iff, decide_eq_false_iff_not, beq_eq_false_iff_ne, ne_eq, u8_lt, u8_eq] at *
    have e : x.toNat = y.toNat := by omega
    have e' : x = y := u8_eq.2 e
    subst e'
    rcases h1.2 with h | h
    · exact absurd rfl h
    · rcases h2.2 with h' | h'
      · exact absurd rfl h'
      · rw [bLess_total h h']
theorem bb_eq {a b : ByteArray} : (a == b) = true ↔ a = b := by
  constructor
  · intro h
    have h1 : (a.data == b.data) = true := h
    exact ByteArray.ext (eq_of_beq h1)
  · rintro rfl
    have h1 : (a.data == a.data) = true := beq_self_eq_true _
    exact h1
theorem toList_inj {a b : ByteArray} (h : a.toList = b.toList) : a = b := by
  have h1 := beq_toListBytes a b
  rw [h, beq_self_eq_true] at h1
  exact bb_eq.1 h1
theorem ltS_irrefl (a : ByteArray) : ltS a a = false := bLess_irrefl _
theorem ltS_trans {a b c : ByteArray} (h1 : ltS a b = true) (h2 : ltS b c = true) : ltS a c = true := bLess_trans h1 h2
theorem ltS_total {a b : ByteArray} (h1 : ltS a b = false) (h2 : ltS b a = false) : a = b := toList_inj (bLess_total h1 h2)
theorem ltS_asymm {a b : ByteArray} (h1 : ltS a b = true) : ltS b a = false := by
  cases h : ltS b a with
  | false => rfl
  | true => have := ltS_trans h1 h; rw [ltS_irrefl] at this; cases this
theorem cmpS_neg {a b : ByteArray} : cmpS a b < 0 ↔ ltS a b = true := by
  unfold cmpS
  cases ltS a b <;> simp
  split <;> omega
theorem cmpS_zero {a b : ByteArray} : cmpS a b = 0 ↔ a = b := by
  unfold cmpS
  cases h : ltS a b with
  | true =>
    simp
    rintro rfl
    rw [ltS_irrefl] at h
    cases h
  | false =>
    rw [if_neg (by simp), Bool.false_or]
    cases h2 : a == b with
    | true => simp [bb_eq.1 h2]
    | false =>
      simp only [if_true]
      constructor
      · intro h; cases h
      · intro h; rw [bb_eq.2 h] at h2; cases h2
/-- A key lies ahead of another one. -/
def kLt (a b : MCard) : Prop := keyCmp a b < 0
instance (a b : MCard) : Decidable (kLt a b) := inferInstanceAs (Decidable (_ < _))
def keyEq (a b : MCard) : Prop := a.app = b.app ∧ a.id = b.id
instance (a b : MCard) : Decidable (keyEq a b) := inferInstanceAs (Decidable (_ ∧ _))
theorem kLt_iff {a b : MCard} : kLt a b ↔ ltS a.app b.app = true ∨ (a.app = b.app ∧ ltS a.id b.id = true) := by
  unfold kLt keyCmp
  simp only [orI]
  by_cases h : cmpS a.app b.app = 0
  · have h' := cmpS_zero.1 h
    rw [if_neg (by simpa using h)]
    by_cases h2 : cmpS a.id b.id = 0
    · have h2' := cmpS_zero.1 h2
      rw [if_neg (by simpa using h2), h', h2', ltS_irrefl, ltS_irrefl]
      simp
    · simp only [ne_eq, h2, not_false_eq_true, if_true]
      rw [cmpS_neg, h', ltS_irrefl]
      simp
  · simp only [ne_eq, h, not_false_eq_true, if_true]
    rw [cmpS_neg]
    have h' : ¬ a.app = b.app := fun e => h (cmpS_zero.2 e)
    simp [h']
theorem kLt_irrefl (a : MCard) : ¬ kLt a a := by rw [kLt_iff]; simp [ltS_irrefl]
theorem kLt_trans {a b c : MCard} (h1 : kLt a b) (h2 : kLt b c) : kLt a c := by
  rw [kLt_iff] at *
  rcases h1 with h1 | ⟨h1, h1'⟩ <;> rcases h2 with h2 | ⟨h2, h2'⟩
  · exact .inl (ltS_trans h1 h2)
  · exact .inl (by rw [← h2]; exact h1)
  · exact .inl (by rw [h1]; exact h2)
  · exact .inr ⟨h1.trans h2, ltS_trans h1' h2'⟩
theorem kLt_asymm {a b : MCard} (h : kLt a b) : ¬ kLt b a := fun h' => kLt_irrefl a (kLt_trans h h')
theorem kLt_total {a b : MCard} (h1 : ¬ kLt a b) (h2 : ¬ kLt b a) : keyEq a b := by
  rw [kLt_iff] at *
  simp only [not_or, not_and, Bool.not_eq_true] at *
  have e := ltS_total h1.1 h2.1
  exact ⟨e, ltS_total (h1.2 e) (h2.2 e.symm)⟩
theorem keyEq.symm {a b : MCard} (h : keyEq a b) : keyEq b a := ⟨h.1.symm, h.2.symm⟩
theorem keyEq.trans {a b c : MCard} (h : keyEq a b) (k : keyEq b c) : keyEq a c := ⟨h.1.trans k.1, h.2.trans k.2⟩
theorem keyEq.rfl' (a : MCard) : keyEq a a := ⟨rfl, rfl⟩
theorem keyEq.not_lt {a b : MCard} (h : keyEq a b) : ¬ kLt a b := by rw [kLt_iff, h.1, h.2]; simp [ltS_irrefl]
theorem keyEq.lt_left {a a' b : MCard} (h : keyEq a a') : kLt a b ↔ kLt a' b := by rw [kLt_iff, kLt_iff, h.1, h.2]
theorem keyEq.lt_right {a b b' : MCard} (h : keyEq b b') : kLt a b ↔ kLt a b' := by rw [kLt_iff, kLt_iff, h.1, h.2]
/-- Not ahead, and not ahead: not ahead. -/
theorem kLe_trans {a b c : MCard} (h1 : ¬ kLt a b) (h2 : ¬ kLt b c) : ¬ kLt a c := by
  intro h
  by_cases h3 : kLt b a
  · exact h2 (kLt_trans h3 h)
  · exact h2 ((kLt_total h1 h3).lt_left.1 h)
/-! sorted lists -/
def SortedK (l : List MCard) : Prop := l.Pairwise fun a b => ¬ kLt b a
theorem insK_eq {c : MCard} : ∀ {l : List MCard}, SortedK l → insK c l = l.filter (fun y => !decide (kLt c y)) ++ c :: l.filter (fun y => decide (kLt c y)) := by
  have gen : ∀ n (l : List MCard), l.length = n → SortedK l → insK c l = l.filter (fun y => !decide (kLt c y)) ++ c :: l.filter (fun y => decide (kLt c y)) := by
    intro n
    induction n with
    | zero => intro l hl _; rw [List.eq_nil_of_length_eq_zero hl]; rfl
    | succ n ih =>
      intro l hl hs
      rcases snoc_cases l with rfl | ⟨k, y, rfl⟩
      · rfl
      · have hk := List.pairwise_append.1 hs
        rw [insK_snoc, List.filter_append, List.filter_append]
        by_cases h : kLt c y
        · have h' : keyCmp c y < 0 := h
          rw [if_pos h', ih k (by simpa using hl) hk.1]
          simp [h]
        · have h' : ¬ keyCmp c y < 0 := h
          rw [if_neg h']
          have hz : ∀ z ∈ k, ¬ kLt c z := fun z hz => kLe_trans h (hk.2.2 z hz y (by simp))
          have e1 : k.filter (fun y => !decide (kLt c y)) = k := List.filter_eq_self.2 fun z hzk => by simpa using hz z hzk
          have e2 : k.filter (fun y => decide (kLt c y)) = [] := List.filter_eq_nil_iff.2 fun z hzk => by simpa using hz z hzk
          rw [e1, e2]
          simp [h]
  exact fun {l} => gen _ l rfl
theorem insK_sorted {c : MCard} {l : List MCard} (hs : SortedK l) : SortedK (insK c l) := by
  rw [insK_eq hs]
  unfold SortedK
  rw [List.pairwise_append]
  refine ⟨hs.filter _, List.pairwise_cons.2 ⟨fun y hy => ?_, hs.filter _⟩, fun a ha b hb => ?_⟩
  · exact kLt_asymm (by simpa using (List.mem_filter.1 hy).2)
  · have ha' : ¬ kLt c a := by simpa using (List.mem_filter.1 ha).2
    rcases List.mem_cons.1 hb with rfl | hb
    · exact ha'
    · have hb' : kLt c b := by simpa using (List.mem_filter.1 hb).2
      intro h
      exact ha' (kLt_trans hb' h)
theorem sortK_sorted (l : List MCard) : SortedK (sortK l) := by
  have gen : ∀ n (l : List MCard), l.length = n → SortedK (sortK l) := by
    intro n
    induction n with
    | zero => intro l hl; rw [List.eq_nil_of_length_eq_zero hl]; exact List.Pairwise.nil
    | succ n ih =>
      intro l hl
      rcases snoc_cases l with rfl | ⟨k, c, rfl⟩
      · exact List.Pairwise.nil
      · rw [sortK_snoc]; exact insK_sorted (ih k (by simpa using hl))
  exact gen _ l rfl
theorem split_sorted (c : MCard) {l : List MCard} (hs : SortedK l) : l.filter (fun y => !decide (kLt c y)) ++ l.filter (fun y => decide (kLt c y)) = l := by
  induction l with
  | nil => rfl
  | cons x l ih =>
    have hx := List.pairwise_cons.1 hs
    by_cases h : kLt c x
    · have hz : ∀ z ∈ x :: l, kLt c z := by
        intro z hz
        rcases List.mem_cons.1 hz with rfl | hz
        · exact h
        · refine Classical.byContradiction fun hn => ?_
          exact kLe_trans hn (hx.1 z hz) h
      have e1 : (x :: l).filter (fun y => !decide (kLt c y)) = [] := List.filter_eq_nil_iff.2 fun z hzk => by simpa using hz z hzk
      have e2 : (x :: l).filter (fun y => decide (kLt c y)) = x :: l := List.filter_eq_self.2 fun z hzk => by simpa using hz z hzk
      rw [e1, e2, List.nil_append]
    · rw [List.filter_cons, List.filter_cons]
      simp only [h, decide_false, Bool.not_false, if_true, Bool.false_eq_true, if_false, List.cons_append]
      rw [ih hx.2]
theorem filter_insK {p : MCard → Bool} {c : MCard} {l : List MCard} (hs : SortedK l) : (insK c l).filter p = if p c = true then insK c (l.filter p) else l.filter p := by
  have hsp : SortedK (l.filter p) := hs.filter p
  rw [insK_eq hs, insK_eq hsp]
  have hsplit := split_sorted c hsp
  simp only [List.filter_append, List.filter_cons, List.filter_filter] at hsplit ⊢
  have e1 : ∀ q : MCard → Bool, l.filter (fun a => p a && q a) = l.filter (fun a => q a && p a) := fun q => by congr 1; funext a; exact Bool.and_comm _ _
  cases hp : p c with
  | true =>
    simp only [if_true]
    rw [e1, e1]
  | false =>
    simp only [Bool.false_eq_true, if_false]
    rw [e1, e1]
    exact hsplit
theorem filter_sortK (p : MCard → Bool) (l : List MCard) : (sortK l).filter p = sortK (l.filter p) := by
  have gen : ∀ n (l : List MCard), l.length = n → (sortK l).filter p = sortK (l.filter p) := by
    intro n
    induction n with
    | zero => intro l hl; rw [List.eq_nil_of_length_eq_zero hl]; rfl
    | succ n ih =>
      intro l hl
      rcases snoc_cases l with rfl | ⟨k, c, rfl⟩
      · rfl
      · rw [sortK_snoc, filter_insK (sortK_sorted k), ih k (by simpa using hl), List.filter_append]
        cases hp : p c <;> simp [hp, sortK_snoc]
  exact gen _ l rfl
theorem insK_last {c : MCard} {l : List MCard} (h : ∀ y ∈ l, ¬ kLt c y) : insK c l = l ++ [c] := by
  rcases snoc_cases l with rfl | ⟨k, y, rfl⟩
  · rfl
  · rw [insK_snoc, if_neg (show ¬ keyCmp c y < 0 from h y (by simp))]; simp
theorem sortK_of_sorted {l : List MCard} (hs : SortedK l) : sortK l = l := by
  have gen : ∀ n (l : List MCard), l.length = n → SortedK l → sortK l = l := by
    intro n
    induction n with
    | zero => intro l hl _; rw [List.eq_nil_of_length_eq_zero hl]; rfl
    | succ n ih =>
      intro l hl hs
      rcases snoc_cases l with rfl | ⟨k, c, rfl⟩
      · rfl
      · have hk := List.pairwise_append.1 hs
        rw [sortK_snoc, ih k (by simpa using hl) hk.1, insK_last fun y hy => hk.2.2 y hy c (by simp)]
  exact gen _ l rfl hs
end Go.Proofs.Ytpbomaelkpjbbaa

