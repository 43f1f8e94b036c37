import Derived.Test.YtpbomaelkpjbbaaD1
namespace Go.Proofs.Ytpbomaelkpjbbaa
open Go.Fw
attribute [local irreducible] T TL TG Thn ThnI Blk Rnd RndI RetQ OpV OpE OpU OpK Ctr row cel ep
/-! insertion, in plain words -/
def insR (c : MCard) : List MCard → List MCard
  | [] => [c]
  | y :: r => if keyCmp c y < 0 then y :: insR c r else c :: y :: r
def insK (c : MCard) (l : List MCard) : List MCard := (insR c l.reverse).reverse
def sortK (l : List MCard) : List MCard := l.foldl (fun out c => insK c out) []
theorem insR_len (c : MCard) (l : List MCard) : (insR c l).length = l.length + 1 := by
  induction l with
  | nil => rfl
  | cons y r ih => unfold insR; split <;> simp [ih]
theorem insK_len (c : MCard) (l : List MCard) : (insK c l).length = l.length + 1 := by simp [insK, insR_len]
theorem sortK_snoc (l : List MCard) (c : MCard) : sortK (l ++ [c]) = insK c (sortK l) := by simp [sortK]
theorem insK_snoc (c y : MCard) (l : List MCard) : insK c (l ++ [y]) = if keyCmp c y < 0 then insK c l ++ [y] else l ++ [y, c] := by
  unfold insK
  rw [List.reverse_append]
  simp only [List.reverse_cons, List.reverse_nil, List.nil_append, List.cons_append, insR]
  split <;> simp
theorem snoc_cases (l : List MCard) : l = [] ∨ ∃ k c, l = k ++ [c] := by
  cases h : l.reverse with
  | nil => exact .inl (by simpa using h)
  | cons c k => exact .inr ⟨k.reverse, c, by rw [← List.reverse_reverse l, h]; simp⟩
theorem sortK_len (l : List MCard) : (sortK l).length = l.length := by
  have gen : ∀ n (l : List MCard), l.length = n → (sortK l).length = l.length := by
    intro n
    induction n with
    | zero => intro l hl; rw [List.eq_nil_of_length_eq_zero hl]; rfl
    | succ n ih =>
      intro l hl
      rcases snoc_cases l with rfl | ⟨k, c, rfl⟩
      · rfl
      · rw [sortK_snoc, insK_len, ih k (by simpa using hl)]; simp
  exact gen _ l rfl
theorem down_eq (p : List MCard) (c : MCard) : ∀ (n : Nat) (m post : List MCard), m.length = n → down p.length (p.length + n) (p ++ (m ++ c :: post)) = p ++ (insK c m ++ post) := by
  intro n
  induction n with
  | zero =>
    intro m post hm
    rw [List.eq_nil_of_length_eq_zero hm]
    have : insK c [] = [c] := rfl
    rw [this]
    cases h : p.length + 0 with
    | zero => rfl
    | succ j => rw [down, if_neg (by omega)]; rfl
  | succ n ih =>
    intro m post hm
    rcases snoc_cases m with rfl | ⟨k, y, rfl⟩
    · simp at hm
    · have hk : k.length = n := by simpa using hm
      have e1 : (p ++ (k ++ [y] ++ c :: post))[p.length + n + 1]? = some c := by
        rw [List.getElem?_append_right (by omega), List.getElem?_append_right (by simp; omega)]
        have : p.length + n + 1 - p.length - (k ++ [y]).length = 0 := by simp; omega
        rw [this]; rfl
      have e2 : (p ++ (k ++ [y] ++ c :: post))[p.length + n]? = some y := by
        rw [List.getElem?_append_right (by omega), List.append_assoc, List.getElem?_append_right (by omega)]
        have : p.length + n - p.length - k.length = 0 := by omega
        rw [this]; rfl
      have hs : ((p ++ (k ++ [y] ++ c :: post)).set (p.length + n + 1) y).set (p.length + n) c = p ++ (k ++ c :: (y :: post)) := by
        rw [List.set_append_right _ _ (by omega), List.set_append_right _ _ (by omega)]
        congr 1
        rw [List.append_assoc, List.set_append_right _ _ (by omega), List.set_append_right _ _ (by omega)]
        congr 1
        have h1 : p.length + n + 1 - p.length - k.length = 1 := by omega
        have h2 : p.length + n - p.length - k.length = 0 := by omega
        rw [h1, h2]
        rfl
      rw [show p.length + (n + 1) = p.length + n + 1 from rfl, down, if_pos (by omega), e1, e2]
      simp only
      rw [insK_snoc]
      split
      · rw [hs, ih k (y :: post) hk]
        simp
      · simp
theorem insTo_eq (p m post : List MCard) : ∀ k : Nat, k + 1 ≤ m.length → insTo (p ++ (m ++ post)) p.length k = p ++ (sortK (m.take (k + 1)) ++ (m.drop (k + 1) ++ post)) := by
  intro k
  induction k with
  | zero =>
    intro hm
    cases m with
    | nil => simp at hm
    | cons c m => rfl
  | succ k ih =>
    intro hm
    have hc : m.drop (k + 1) = m[k + 1] :: m.drop (k + 2) := List.drop_eq_getElem_cons (by omega)
    have ht : m.take (k + 2) = m.take (k + 1) ++ [m[k + 1]] := by
      rw [List.take_add_one, List.getElem?_eq_getElem (by omega)]; rfl
    have hl : (sortK (m.take (k + 1))).length = k + 1 := by rw [sortK_len]; simp; omega
    rw [insTo, ih (by omega), hc]
    have h := down_eq p m[k + 1] (k + 1) (sortK (m.take (k + 1))) (m.drop (k + 2) ++ post) hl
    rw [show p.length + 1 + k = p.length + (k + 1) by omega]
    rw [List.cons_append, h, ht, sortK_snoc]
theorem insTo_all (l : List MCard) : insTo l 0 (l.length - 1) = sortK l := by
  cases l with
  | nil => rfl
  | cons c m =>
    have h := insTo_eq [] (c :: m) [] m.length (by simp)
    simp only [List.nil_append, List.append_nil, List.length_nil] at h
    simp only [List.length_cons, Nat.add_sub_cancel]
    rw [h]
    rw [List.take_of_length_le (by simp), List.drop_eq_nil_of_le (by simp)]
    simp
theorem insTo_zero (l : List MCard) (a : Nat) : insTo l a 0 = l := rfl
attribute [local irreducible] insTo down sortK
set_option maxHeartbeats 1000000 in
theorem stableSort (q : Sl) (l : List MCard) (hl : l.length ≤ 20) :
    Ctr Try.prog 153 #[q.v, .int .i64 l.length, .func (.func 123) #[] #[]] [row true 58 9 q.v (l.map MCard.C)]
      fun v L => v = .tuple #[] ∧ L = [row true 58 9 q.v ((sortK l).map MCard.C)] := by
  refine Ctr.of (n := 63) (args := [_, _, _]) Try.func153 rfl rfl rfl fun F => ?_
  simp only [List.zipIdx_cons, List.zipIdx_nil, List.map_cons, List.map_nil, Nat.zero_add, Nat.reduceAdd, List.cons_append, List.nil_append]
  repeat (first
    | with_reducible apply T.seq
    | with_reducible apply T.region
    | with_reducible apply TL.nil
    | with_reducible apply Thn.normal
    | with_reducible apply Thn.ret
    | with_reducible apply Thn.exit
    | with_reducible apply Blk.normal
    | with_reducible apply Blk.ret
    | ((with_reducible refine Blk.exitE ?_ ?_); · rfl)
    | ((with_reducible refine Blk.exitN ?_ ?_); · rfl)
    | with_reducible apply Rnd.ret
    | with_reducible apply Rnd.exit
    | with_reducible apply RndI.ret
    | with_reducible apply RndI.exit
    | with_reducible apply ThnI.ret
    | with_reducible apply ThnI.exit
    | with_reducible apply T.skip
    | with_reducible apply T.block
    | with_reducible apply T.ret
    | with_reducible apply T.exit
    | refine T.condT (h := ?_)
    | refine T.condF (h := ?_)
    | refine TL.pass (k := ?_)
    | refine TL.passN (k := ?_)
    | refine TL.take (k := ?_)
    | refine TL.q (h := .assign) (k := ?_)
    | refine TL.q (h := .move) (k := ?_)
    | (refine TL.callF (h := hins) (k := ?_); rintro _ _ ⟨rfl, rfl⟩)
    | (refine TL.callF (h := ins_nil _) (k := ?_); rintro _ _ ⟨rfl, rfl⟩)
    | refine TL.q (h := .add) (k := ?_)
    | refine TL.q (h := .catS) (k := ?_)
    | refine TL.q (h := .mul) (k := ?_)
    | refine TL.q (h := .binI) (k := ?_)
    | refine TL.q (h := .binS) (k := ?_))
  refine T.blkW (fun l' A => ∃ (a : Nat) (l2 : List MCard), l2.length = l.length ∧ a ≤ l.length ∧ insTo l2 a (l.length - (a + 1)) = sortK l ∧ l' = [(7, .int .i64 (a : Int)), (6, .int .i64 20), (0, q.v), (1, .int .i64 l.length), (2, .func (.func 123) #[] #[])] ∧
    A = [row true 58 9 q.v (l2.map MCard.C), F]) ?_ ?_
  · refine T.loopI (fun q' l' A => ∃ (a b : Nat) (l2 : List MCard), q' = 60 - b ∧ ((a = 0 ∧ b = 20 ∧ l2 = l) ∨ (a = 20 ∧ b = 40 ∧ l.length = 20 ∧ l2 = insTo l 0 19)) ∧ l' = [(8, .int .i64 (b : Int)), (7, .int .i64 (a : Int)), (6, .int .i64 20), (0, q.v), (1, .int .i64 l.length), (2, .func (.func 123) #[] #[])] ∧
      A = [row true 58 9 q.v (l2.map MCard.C), F]) ⟨0, 20, l, rfl, .inl ⟨rfl, rfl, rfl⟩, rfl, rfl⟩ (by (repeat (first | exact AllIs.nil | refine AllIs.cons (by (simp only [St.ev, slk, Nat.reduceBEq, cond_true, cond_false]; first | done | rfl)) ?_))) (by (repeat (first | exact Picks.nil | (apply Picks.cons; (repeat (first | exact Pick.here | apply Pick.there)))))) ?_
    rintro q' l' A jf ⟨a, b, l2, hq, hab, rfl, rfl⟩
    have hl2 : l2.length = l.length := by
      rcases hab with ⟨_, _, rfl⟩ | ⟨_, _, _, rfl⟩
      · rfl
      · rw [insTo_len]
    repeat (first
      | with_reducible apply T.seq
      | with_reducible apply T.region
      | with_reducible apply TL.nil
      | with_reducible apply Thn.normal
      | with_reducible apply Thn.ret
      | with_reducible apply Thn.exit
      | with_reducible apply Blk.normal
      | with_reducible apply Blk.ret
      | ((with_reducible refine Blk.exitE ?_ ?_); · rfl)
      | ((with_reducible refine Blk.exitN ?_ ?_); · rfl)
      | with_reducible apply Rnd.ret
      | with_reducible apply Rnd.exit
      | with_reducible apply RndI.ret
      | with_reducible apply RndI.exit
      | with_reducible apply ThnI.ret
      | with_reducible apply ThnI.exit
      | with_reducible apply T.skip
      | with_reducible apply T.block
      | with_reducible apply T.ret
      | with_reducible apply T.exit
      | refine T.condT (h := ?_)
      | refine T.condF (h := ?_)
      | refine TL.pass (k := ?_)
      | refine TL.passN (k := ?_)
      | refine TL.take (k := ?_)
      | refine TL.q (h := .assign) (k := ?_)
      | refine TL.q (h := .move) (k := ?_)
      | (refine TL.callF (h := hins) (k := ?_); rintro _ _ ⟨rfl, rfl⟩)
      | (refine TL.callF (h := ins_nil _) (k := ?_); rintro _ _ ⟨rfl, rfl⟩)
      | refine TL.q (h := .add) (k := ?_)
      | refine TL.q (h := .catS) (k := ?_)
      | refine TL.q (h := .mul) (k := ?_)
      | refine TL.q (h := .binI) (k := ?_)
      | refine TL.q (h := .binS) (k := ?_))
    refine T.condD (ht := fun hlt => ?_) (hf := fun hlt => ?_)
    · have hb : b = 20 ∧ a = 0 ∧ l2 = l ∧ l.length = 20 := by
        rcases hab with ⟨h1, h2, h3⟩ | ⟨h1, h2, h3, h4⟩
        · exact ⟨h2, h1, h3, by omega⟩
        · omega
      obtain ⟨rfl, rfl, rfl, h20⟩ := hb
      have hins := insertionSort q l2 0 20 (by omega) (by omega) (by omega)
      rw [show 20 - (0 + 1) = 19 from rfl] at hins
      repeat (first
        | with_reducible apply T.seq
        | with_reducible apply T.region
        | with_reducible apply TL.nil
        | with_reducible apply Thn.normal
        | with_reducible apply Thn.ret
        | with_reducible apply Thn.exit
        | with_reducible apply Blk.normal
        | with_reducible apply Blk.ret
        | ((with_reducible refine Blk.exitE ?_ ?_); · rfl)
        | ((with_reducible refine Blk.exitN ?_ ?_); · rfl)
        | with_reducible apply Rnd.ret
        | with_reducible apply Rnd.exit
        | with_reducible apply RndI.ret
        | with_reducible apply RndI.exit
        | with_reducible apply ThnI.ret
        | with_reducible apply ThnI.exit
        | with_reducible apply T.skip
        | with_reducible apply T.block
        | with_reducible apply T.ret
        | with_reducible apply T.exit
        | refine T.condT (h := ?_)
        | refine T.condF (h := ?_)
        | refine TL.pass (k := ?_)
        | refine TL.passN (k := ?_)
        | refine TL.take (k := ?_)
        | refine TL.q (h := .assign) (k := ?_)
        | refine TL.q (h := .move) (k := ?_)
        | (refine TL.callF (h := hins) (k := ?_); rintro _ _ ⟨rfl, rfl⟩)
        | (refine TL.callF (h := ins_nil _) (k := ?_); rintro _ _ ⟨rfl, rfl⟩)
        | refine TL.q (h := .add) (k := ?_)
        | refine TL.q (h := .catS) (k := ?_)
        | refine TL.q (h := .mul) (k := ?_)
        | refine TL.q (h := .binI) (k := ?_)
        | refine TL.q (h := .binS) (k := ?_))
      refine RndI.next (m' := 20) (by omega) ⟨20, 40, insTo l2 0 19, rfl, .inr ⟨rfl, rfl, h20, rfl⟩, rfl, rfl⟩ (by (repeat (first | exact AllIs.nil | refine AllIs.cons (by (simp only [St.ev, slk, Nat.reduceBEq, cond_true, cond_false]; first | done | rfl)) ?_))) (by (repeat (first | exact Picks.nil | (apply Picks.cons; (repeat (first | exact Pick.here | apply Pick.there))))))
    · skip
      repeat (first
        | with_reducible apply T.seq
        | with_reducible apply T.region
        | with_reducible apply TL.nil
        | with_reducible apply Thn.normal
        | with_reducible apply Thn.ret
        | with_reducible apply Thn.exit
        | with_reducible apply Blk.normal
        | with_reducible apply Blk.ret
        | ((with_reducible refine Blk.exitE ?_ ?_); · rfl)
        | ((with_reducible refine Blk.exitN ?_ ?_); · rfl)
        | with_reducible apply Rnd.ret
        | with_reducible apply Rnd.exit
        | with_reducible apply RndI.ret
        | with_reducible apply RndI.exit
        | with_reducible apply ThnI.ret
        | with_reducible apply ThnI.exit
        | with_reducible apply T.skip
        | with_reducible apply T.block
        | with_reducible apply T.ret
        | with_reducible apply T.exit
        | refine T.condT (h := ?_)
        | refine T.condF (h := ?_)
        | refine TL.pass (k := ?_)
        | refine TL.passN (k := ?_)
        | refine TL.take (k := ?_)
        | refine TL.q (h := .assign) (k := ?_)
        | refine TL.q (h := .move) (k := ?_)
        | (refine TL.callF (h := hins) (k := ?_); rintro _ _ ⟨rfl, rfl⟩)
        | (refine TL.callF (h := ins_nil _) (k := ?_); rintro _ _ ⟨rfl, rfl⟩)
        | refine TL.q (h := .add) (k := ?_)
        | refine TL.q (h := .catS) (k := ?_)
        | refine TL.q (h := .mul) (k := ?_)
        | refine TL.q (h := .binI) (k := ?_)
        | refine TL.q (h := .binS) (k := ?_))
      refine ThnI.done ⟨a, l2, hl2, ?_, ?_, rfl, rfl⟩ (by (repeat (first | exact AllIs.nil | refine AllIs.cons (by (simp only [St.ev, slk, Nat.reduceBEq, cond_true, cond_false]; first | done | rfl)) ?_))) (by (repeat (first | exact Picks.nil | (apply Picks.cons; (repeat (first | exact Pick.here | apply Pick.there))))))
      · rcases hab with ⟨h1, _, _⟩ | ⟨h1, _, h3, _⟩ <;> omega
      · rcases hab with ⟨rfl, _, rfl⟩ | ⟨rfl, _, h3, rfl⟩
        · exact insTo_all l2
        · rw [h3, show 20 - (20 + 1) = 0 from rfl, insTo_zero]
          have := insTo_all l
          rw [h3] at this
          exact this
  · rintro l' A jf ⟨a, l2, hl2, ha, hs, rfl, rfl⟩
    have hins := insertionSort q l2 a l.length ha (by omega) (by omega)
    rw [hs] at hins
    repeat (first
      | with_reducible apply T.seq
      | with_reducible apply T.region
      | with_reducible apply TL.nil
      | with_reducible apply Thn.normal
      | with_reducible apply Thn.ret
      | with_reducible apply Thn.exit
      | with_reducible apply Blk.normal
      | with_reducible apply Blk.ret
      | ((with_reducible refine Blk.exitE ?_ ?_); · rfl)
      | ((with_reducible refine Blk.exitN ?_ ?_); · rfl)
      | with_reducible apply Rnd.ret
      | with_reducible apply Rnd.exit
      | with_reducible apply RndI.ret
      | with_reducible apply RndI.exit
      | with_reducible apply ThnI.ret
      | with_reducible apply ThnI.exit
      | with_reducible apply T.skip
      | with_reducible apply T.block
      | with_reducible apply T.ret
      | with_reducible apply T.exit
      | refine T.condT (h := ?_)
      | refine T.condF (h := ?_)
      | refine TL.pass (k := ?_)
      | refine TL.passN (k := ?_)
      | refine TL.take (k := ?_)
      | refine TL.q (h := .assign) (k := ?_)
      | refine TL.q (h := .move) (k := ?_)
      | (refine TL.callF (h := hins) (k := ?_); rintro _ _ ⟨rfl, rfl⟩)
      | (refine TL.callF (h := ins_nil _) (k := ?_); rintro _ _ ⟨rfl, rfl⟩)
      | refine TL.q (h := .add) (k := ?_)
      | refine TL.q (h := .catS) (k := ?_)
      | refine TL.q (h := .mul) (k := ?_)
      | refine TL.q (h := .binI) (k := ?_)
      | refine TL.q (h := .binS) (k := ?_))
    refine T.loopI (fun q' l' A => l' = [(6, .int .i64 20), (1, .int .i64 l.length)] ∧ A = [row true 58 9 q.v ((sortK l).map MCard.C), F]) (m := 0) ⟨rfl, rfl⟩ (by (repeat (first | exact AllIs.nil | refine AllIs.cons (by (simp only [St.ev, slk, Nat.reduceBEq, cond_true, cond_false]; first | done | rfl)) ?_))) (by (repeat (first | exact Picks.nil | (apply Picks.cons; (repeat (first | exact Pick.here | apply Pick.there)))))) ?_
    rintro q' l' A jg ⟨rfl, rfl⟩
    have hnlt : ¬ (20 : Int) < (l.length : Int) := by omega
    repeat (first
      | with_reducible apply T.seq
      | with_reducible apply T.region
      | with_reducible apply TL.nil
      | with_reducible apply Thn.normal
      | with_reducible apply Thn.ret
      | with_reducible apply Thn.exit
      | with_reducible apply Blk.normal
      | with_reducible apply Blk.ret
      | ((with_reducible refine Blk.exitE ?_ ?_); · rfl)
      | ((with_reducible refine Blk.exitN ?_ ?_); · rfl)
      | with_reducible apply Rnd.ret
      | with_reducible apply Rnd.exit
      | with_reducible apply RndI.ret
      | with_reducible apply RndI.exit
      | with_reducible apply ThnI.ret
      | with_reducible apply ThnI.exit
      | with_reducible apply T.skip
      | with_reducible apply T.block
      | with_reducible apply T.ret
      | with_reducible apply T.exit
      | refine T.condT (h := ?_)
      | refine T.condF (h := ?_)
      | refine TL.pass (k := ?_)
      | refine TL.passN (k := ?_)
      | refine TL.take (k := ?_)
      | refine TL.q (h := .assign) (k := ?_)
      | refine TL.q (h := .move) (k := ?_)
      | (refine TL.callF (h := hins) (k := ?_); rintro _ _ ⟨rfl, rfl⟩)
      | (refine TL.callF (h := ins_nil _) (k := ?_); rintro _ _ ⟨rfl, rfl⟩)
      | refine TL.q (h := .add) (k := ?_)
      | refine TL.q (h := .catS) (k := ?_)
      | refine TL.q (h := .mul) (k := ?_)
      | refine TL.q (h := .binI) (k := ?_)
      | refine TL.q (h := .binS) (k := ?_))
    refine T.condD (ht := fun hlt => ?_) (hf := fun hlt => ?_)
    · omega
    · skip
      repeat (first
        | with_reducible apply T.seq
        | with_reducible apply T.region
        | with_reducible apply TL.nil
        | with_reducible apply Thn.normal
        | with_reducible apply Thn.ret
        | with_reducible apply Thn.exit
        | with_reducible apply Blk.normal
        | with_reducible apply Blk.ret
        | ((with_reducible refine Blk.exitE ?_ ?_); · rfl)
        | ((with_reducible refine Blk.exitN ?_ ?_); · rfl)
        | with_reducible apply Rnd.ret
        | with_reducible apply Rnd.exit
        | with_reducible apply RndI.ret
        | with_reducible apply RndI.exit
        | with_reducible apply ThnI.ret
        | with_reducible apply ThnI.exit
        | with_reducible apply T.skip
        | with_reducible apply T.block
        | with_reducible apply T.ret
        | with_reducible apply T.exit
        | refine T.condT (h := ?_)
        | refine T.condF (h := ?_)
        | refine TL.pass (k := ?_)
        | refine TL.passN (k := ?_)
        | refine TL.take (k := ?_)
        | refine TL.q (h := .assign) (k := ?_)
        | refine TL.q (h := .move) (k := ?_)
        | (refine TL.callF (h := hins) (k := ?_); rintro _ _ ⟨rfl, rfl⟩)
        | (refine TL.callF (h := ins_nil _) (k := ?_); rintro _ _ ⟨rfl, rfl⟩)
        | refine TL.q (h := .add) (k := ?_)
        | refine TL.q (h := .catS) (k := ?_)
        | refine TL.q (h := .mul) (k := ?_)
        | refine TL.q (h := .binI) (k := ?_)
        | refine TL.q (h := .binS) (k := ?_))
      (first | refine RetQ.retI (L := [row true 58 9 q.v ((sortK l).map MCard.C)]) (ResIs.none Try.results153) (by (repeat (first | exact Picks.nil | (apply Picks.cons; (repeat (first | exact Pick.here | apply Pick.there)))))) ?_ | refine RetQ.norI (L := [row true 58 9 q.v ((sortK l).map MCard.C)]) (ResIs.none Try.results153) (by (repeat (first | exact Picks.nil | (apply Picks.cons; (repeat (first | exact Pick.here | apply Pick.there)))))) ?_)
      exact ⟨rfl, rfl⟩
theorem sortStable (q : Sl) (l : List MCard) (hl : l.length ≤ 20) :
    Ctr Try.prog 122 #[q.v, .func (.func 123) #[] #[]] [row true 58 9 q.v (l.map MCard.C)]
      fun v L => v = .tuple #[] ∧ L = [row true 58 9 q.v ((sortK l).map MCard.C)] := by
  have hst := stableSort q l hl
  rw [show ((l.length : Int)) = ((l.map MCard.C).length : Int) by simp] at hst
  refine Ctr.of (n := 9) (args := [_, _]) Try.func122 rfl rfl rfl fun F => ?_
  simp only [List.zipIdx_cons, List.zipIdx_nil, List.map_cons, List.map_nil, Nat.zero_add, Nat.reduceAdd, List.cons_append, List.nil_append]
  repeat (first
    | with_reducible apply T.seq
    | with_reducible apply T.region
    | with_reducible apply TL.nil
    | with_reducible apply Thn.normal
    | with_reducible apply Thn.ret
    | with_reducible apply Thn.exit
    | with_reducible apply Blk.normal
    | with_reducible apply Blk.ret
    | ((with_reducible refine Blk.exitE ?_ ?_); · rfl)
    | ((with_reducible refine Blk.exitN ?_ ?_); · rfl)
    | with_reducible apply Rnd.ret
    | with_reducible apply Rnd.exit
    | with_reducible apply RndI.ret
    | with_reducible apply RndI.exit
    | with_reducible apply ThnI.ret
    | with_reducible apply ThnI.exit
    | with_reducible apply T.skip
    | with_reducible apply T.block
    | with_reducible apply T.ret
    | with_reducible apply T.exit
    | refine T.condT (h := ?_)
    | refine T.condF (h := ?_)
    | refine TL.pass (k := ?_)
    | refine TL.passN (k := ?_)
    | refine TL.take (k := ?_)
    | refine TL.q (h := .move) (k := ?_)
    | refine TL.q (h := .lenR) (k := ?_)
    | refine TL.q (h := .lenS) (k := ?_)
    | (refine TL.callF (h := hst) (k := ?_); rintro _ _ ⟨rfl, rfl⟩)
    | (refine TL.callF (h := stable_nil _) (k := ?_); rintro _ _ ⟨rfl, rfl⟩))
  (first | refine RetQ.retI (L := [row true 58 9 q.v ((sortK l).map MCard.C)]) (ResIs.none Try.results122) (by (repeat (first | exact Picks.nil | (apply Picks.cons; (repeat (first | exact Pick.here | apply Pick.there)))))) ?_ | refine RetQ.norI (L := [row true 58 9 q.v ((sortK l).map MCard.C)]) (ResIs.none Try.results122) (by (repeat (first | exact Picks.nil | (apply Picks.cons; (repeat (first | exact Pick.here | apply Pick.there)))))) ?_)
  exact ⟨rfl, rfl⟩
theorem clone_cards (m : Bool) (x : Sl) (css : List (List Value)) (hl : css.length ≤ 1000000) : Ctr Try.prog 121 #[x.v] [row m 58 9 x.v css] fun v L => ∃ q : Sl, v = q.v ∧ L = [row m 58 9 x.v css, row true 58 9 q.v css] := by
  refine Ctr.of (n := 8) (args := [_]) Try.func121 rfl rfl rfl fun F => ?_
  simp only [List.zipIdx_cons, List.zipIdx_nil, List.map_cons, List.map_nil, Nat.zero_add, Nat.reduceAdd, List.cons_append, List.nil_append]
  refine T.fact (p := x.a = none → css = []) (fun w hs => ?_) (fun hn => ?_)
  · intro e
    rw [Fw.seps] at hs
    have h := sat_len hs
    rcases sat_row.1 hs with ⟨_, _, _, h, _⟩ | ⟨b, off, cap, c, h, _⟩
    · exact h
    · simp only [Sl.v, Value.slice.injEq, e] at h; cases h.1
  repeat (first
    | with_reducible apply T.seq
    | with_reducible apply T.region
    | with_reducible apply TL.nil
    | with_reducible apply Thn.normal
    | with_reducible apply Thn.ret
    | with_reducible apply Thn.exit
    | with_reducible apply Blk.normal
    | with_reducible apply Blk.ret
    | ((with_reducible refine Blk.exitE ?_ ?_); · rfl)
    | ((with_reducible refine Blk.exitN ?_ ?_); · rfl)
    | with_reducible apply Rnd.ret
    | with_reducible apply Rnd.exit
    | with_reducible apply RndI.ret
    | with_reducible apply RndI.exit
    | with_reducible apply ThnI.ret
    | with_reducible apply ThnI.exit
    | with_reducible apply T.skip
    | with_reducible apply T.block
    | with_reducible apply T.ret
    | with_reducible apply T.exit
    | refine T.condT (h := ?_)
    | refine T.condF (h := ?_)
    | refine TL.pass (k := ?_)
    | refine TL.passN (k := ?_)
    | refine TL.take (k := ?_)
    | refine TL.q (h := .assign) (k := ?_)
    | refine TL.q (h := .move) (k := ?_)
    | refine TL.q (h := .eqNilS) (k := ?_)
    | (refine TL.e (h := .bs) (k := ?_); rintro _ _ ⟨_, rfl, rfl⟩)
    | (refine TL.e (h := .app) (k := ?_); rintro _ _ ⟨_, rfl, rfl⟩)
    | (refine TL.e (h := .appS) (k := ?_); rintro _ _ ⟨_, rfl, rfl⟩))
  refine T.cond (by (simp only [St.ev, slk, Nat.reduceBEq, cond_true, cond_false]; first | done | rfl)) (fun h0 => ?_) (fun h0 => ?_)
  · have hx := hn (by simpa using h0)
    subst hx
    refine T.parts (add_nil true 58 9) ?_
    repeat (first
      | with_reducible apply T.seq
      | with_reducible apply T.region
      | with_reducible apply TL.nil
      | with_reducible apply Thn.normal
      | with_reducible apply Thn.ret
      | with_reducible apply Thn.exit
      | with_reducible apply Blk.normal
      | with_reducible apply Blk.ret
      | ((with_reducible refine Blk.exitE ?_ ?_); · rfl)
      | ((with_reducible refine Blk.exitN ?_ ?_); · rfl)
      | with_reducible apply Rnd.ret
      | with_reducible apply Rnd.exit
      | with_reducible apply RndI.ret
      | with_reducible apply RndI.exit
      | with_reducible apply ThnI.ret
      | with_reducible apply ThnI.exit
      | with_reducible apply T.skip
      | with_reducible apply T.block
      | with_reducible apply T.ret
      | with_reducible apply T.exit
      | refine T.condT (h := ?_)
      | refine T.condF (h := ?_)
      | refine TL.pass (k := ?_)
      | refine TL.passN (k := ?_)
      | refine TL.take (k := ?_)
      | refine TL.q (h := .assign) (k := ?_)
      | refine TL.q (h := .move) (k := ?_)
      | refine TL.q (h := .eqNilS) (k := ?_)
      | (refine TL.e (h := .bs) (k := ?_); rintro _ _ ⟨_, rfl, rfl⟩)
      | (refine TL.e (h := .app) (k := ?_); rintro _ _ ⟨_, rfl, rfl⟩)
      | (refine TL.e (h := .appS) (k := ?_); rintro _ _ ⟨_, rfl, rfl⟩))
    (first | refine RetQ.retI (L := [row m 58 9 x.v [], row true 58 9 Sl.nil.v []]) (ResIs.r1 Try.results121 (RV.tmp)) (by (repeat (first | exact Picks.nil | (apply Picks.cons; (repeat (first | exact Pick.here | apply Pick.there)))))) ?_ | refine RetQ.norI (L := [row m 58 9 x.v [], row true 58 9 Sl.nil.v []]) (ResIs.r1 Try.results121 (RV.tmp)) (by (repeat (first | exact Picks.nil | (apply Picks.cons; (repeat (first | exact Pick.here | apply Pick.there)))))) ?_)
    exact ⟨Sl.nil, rfl, rfl⟩
  · skip
    repeat (first
      | with_reducible apply T.seq
      | with_reducible apply T.region
      | with_reducible apply TL.nil
      | with_reducible apply Thn.normal
      | with_reducible apply Thn.ret
      | with_reducible apply Thn.exit
      | with_reducible apply Blk.normal
      | with_reducible apply Blk.ret
      | ((with_reducible refine Blk.exitE ?_ ?_); · rfl)
      | ((with_reducible refine Blk.exitN ?_ ?_); · rfl)
      | with_reducible apply Rnd.ret
      | with_reducible apply Rnd.exit
      | with_reducible apply RndI.ret
      | with_reducible apply RndI.exit
      | with_reducible apply ThnI.ret
      | with_reducible apply ThnI.exit
      | with_reducible apply T.skip
      | with_reducible apply T.block
      | with_reducible apply T.ret
      | with_reducible apply T.exit
      | refine T.condT (h := ?_)
      | refine T.condF (h := ?_)
      | refine TL.pass (k := ?_)
      | refine TL.passN (k := ?_)
      | refine TL.take (k := ?_)
      | refine TL.q (h := .assign) (k := ?_)
      | refine TL.q (h := .move) (k := ?_)
      | refine TL.q (h := .eqNilS) (k := ?_)
      | (refine TL.e (h := .bs) (k := ?_); rintro _ _ ⟨_, rfl, rfl⟩)
      | (refine TL.e (h := .app) (k := ?_); rintro _ _ ⟨_, rfl, rfl⟩)
      | (refine TL.e (h := .appS) (k := ?_); rintro _ _ ⟨_, rfl, rfl⟩))
    (first | refine RetQ.retI (L := [row m 58 9 x.v css, _]) (ResIs.r1 Try.results121 (RV.tmp)) (by (repeat (first | exact Picks.nil | (apply Picks.cons; (repeat (first | exact Pick.here | apply Pick.there)))))) ?_ | refine RetQ.norI (L := [row m 58 9 x.v css, _]) (ResIs.r1 Try.results121 (RV.tmp)) (by (repeat (first | exact Picks.nil | (apply Picks.cons; (repeat (first | exact Pick.here | apply Pick.there)))))) ?_)
    exact ⟨_, rfl, rfl⟩
theorem clip_cards (m : Bool) (x : Sl) (css : List (List Value)) : Ctr Try.prog 125 #[x.v] [row m 58 9 x.v css] fun v L => ∃ q : Sl, v = q.v ∧ L = [row m 58 9 q.v css] := by
  refine Ctr.of (n := 9) (args := [_]) Try.func125 rfl rfl rfl fun F => ?_
  simp only [List.zipIdx_cons, List.zipIdx_nil, List.map_cons, List.map_nil, Nat.zero_add, Nat.reduceAdd, List.cons_append, List.nil_append]
  repeat (first
    | with_reducible apply T.seq
    | with_reducible apply T.region
    | with_reducible apply TL.nil
    | with_reducible apply Thn.normal
    | with_reducible apply Thn.ret
    | with_reducible apply Thn.exit
    | with_reducible apply Blk.normal
    | with_reducible apply Blk.ret
    | ((with_reducible refine Blk.exitE ?_ ?_); · rfl)
    | ((with_reducible refine Blk.exitN ?_ ?_); · rfl)
    | with_reducible apply Rnd.ret
    | with_reducible apply Rnd.exit
    | with_reducible apply RndI.ret
    | with_reducible apply RndI.exit
    | with_reducible apply ThnI.ret
    | with_reducible apply ThnI.exit
    | with_reducible apply T.skip
    | with_reducible apply T.block
    | with_reducible apply T.ret
    | with_reducible apply T.exit
    | refine T.condT (h := ?_)
    | refine T.condF (h := ?_)
    | refine TL.pass (k := ?_)
    | refine TL.passN (k := ?_)
    | refine TL.take (k := ?_)
    | refine TL.q (h := .assign) (k := ?_)
    | refine TL.q (h := .move) (k := ?_)
    | refine TL.q (h := .lenR) (k := ?_)
    | refine TL.q (h := .lenS) (k := ?_)
    | refine TL.q (h := .subNil) (k := ?_)
    | (refine TL.e (h := .subL) (k := ?_); rintro _ _ ⟨_, rfl, rfl⟩)
    | (refine TL.e (h := .subH) (k := ?_); rintro _ _ ⟨_, rfl, rfl⟩)
    | (refine TL.e (h := .subLH) (k := ?_); rintro _ _ ⟨_, rfl, rfl⟩)
    | (refine TL.e (h := .subHM) (k := ?_); rintro _ _ ⟨_, rfl, rfl⟩))
  rename_i q
  rw [List.take_length]
  (first | refine RetQ.retI (L := [row m 58 9 q.v css]) (ResIs.r1 Try.results125 (RV.tmp)) (by (repeat (first | exact Picks.nil | (apply Picks.cons; (repeat (first | exact Pick.here | apply Pick.there)))))) ?_ | refine RetQ.norI (L := [row m 58 9 q.v css]) (ResIs.r1 Try.results125 (RV.tmp)) (by (repeat (first | exact Picks.nil | (apply Picks.cons; (repeat (first | exact Pick.here | apply Pick.there)))))) ?_)
  exact ⟨q, rfl, rfl⟩
theorem card_Sort (m : Bool) (x : Sl) (l : List MCard) (hl : l.length ≤ 20) : Ctr Try.prog 68 #[x.v] [row m 58 9 x.v (l.map MCard.C)] fun v L => ∃ q : Sl, v = q.v ∧ L = [row m 58 9 x.v (l.map MCard.C), row true 58 9 q.v ((sortK l).map MCard.C)] := by
  have hlm : (l.map MCard.C).length = l.length := by simp
  refine Ctr.of (n := 10) (args := [_]) Try.func68 rfl rfl rfl fun F => ?_
  simp only [List.zipIdx_cons, List.zipIdx_nil, List.map_cons, List.map_nil, Nat.zero_add, Nat.reduceAdd, List.cons_append, List.nil_append]
  repeat (first
    | with_reducible apply T.seq
    | with_reducible apply T.region
    | with_reducible apply TL.nil
    | with_reducible apply Thn.normal
    | with_reducible apply Thn.ret
    | with_reducible apply Thn.exit
    | with_reducible apply Blk.normal
    | with_reducible apply Blk.ret
    | ((with_reducible refine Blk.exitE ?_ ?_); · rfl)
    | ((with_reducible refine Blk.exitN ?_ ?_); · rfl)
    | with_reducible apply Rnd.ret
    | with_reducible apply Rnd.exit
    | with_reducible apply RndI.ret
    | with_reducible apply RndI.exit
    | with_reducible apply ThnI.ret
    | with_reducible apply ThnI.exit
    | with_reducible apply T.skip
    | with_reducible apply T.block
    | with_reducible apply T.ret
    | with_reducible apply T.exit
    | refine T.condT (h := ?_)
    | refine T.condF (h := ?_)
    | refine TL.pass (k := ?_)
    | refine TL.passN (k := ?_)
    | refine TL.take (k := ?_)
    | refine TL.q (h := .assign) (k := ?_)
    | refine TL.q (h := .move) (k := ?_)
    | (refine TL.callF (h := clone_cards _ _ _ (by first | assumption | rfl | omega | (simp at *; omega))) (k := ?_); rintro _ _ ⟨_, rfl, rfl⟩)
    | (refine TL.callF (h := clone_cards_nil) (k := ?_); rintro _ _ ⟨rfl, rfl⟩)
    | (refine TL.callF (h := sortStable _ l (by first | assumption | rfl | omega | (simp at *; omega))) (k := ?_); rintro _ _ ⟨rfl, rfl⟩)
    | (refine TL.callF (h := sortStable_nil _) (k := ?_); rintro _ _ ⟨rfl, rfl⟩)
    | (refine TL.callF (h := clip_cards _ _ _) (k := ?_); rintro _ _ ⟨_, rfl, rfl⟩)
    | (refine TL.callF (h := clip_nil) (k := ?_); rintro _ _ ⟨rfl, rfl⟩))
  rename_i q q2
  (first | refine RetQ.retI (L := [row m 58 9 x.v (l.map MCard.C), row true 58 9 q2.v ((sortK l).map MCard.C)]) (ResIs.r1 Try.results68 (RV.tmp)) (by (repeat (first | exact Picks.nil | (apply Picks.cons; (repeat (first | exact Pick.here | apply Pick.there)))))) ?_ | refine RetQ.norI (L := [row m 58 9 x.v (l.map MCard.C), row true 58 9 q2.v ((sortK l).map MCard.C)]) (ResIs.r1 Try.results68 (RV.tmp)) (by (repeat (first | exact Picks.nil | (apply Picks.cons; (repeat (first | exact Pick.here | apply Pick.there)))))) ?_)
  exact ⟨q2, rfl, rfl⟩
end Go.Proofs.Ytpbomaelkpjbbaa

