import Derived.Test.YtpbomaelkpjbbaaD11
import Derived.Test.YtpbomaelkpjbbaaD4
namespace Go.Proofs.Ytpbomaelkpjbbaa
/-! cards that are drawn are right -/
theorem appN_ok (i : Int) : nameOk (appN i) = true := by
  unfold appN
  repeat' split
  all_goals decide
theorem idN_ok (i : Int) : nameOk (idN i) = true := by
  unfold idN
  repeat' split
  all_goals decide
theorem nameOk_size {x : ByteArray} (h : nameOk x = true) : x.size ≤ 16 := by
  simp only [nameOk, Bool.and_eq_true, decide_eq_true_eq] at h
  exact h.1.2
theorem cardOk_short {l : List MCard} (h : allOk l = true) : Short l := fun c hc => by
  have h1 := List.all_eq_true.1 h c hc
  simp only [cardOk, Bool.and_eq_true] at h1
  have h2 := nameOk_size h1.1.1.1.1.1
  have h3 := nameOk_size h1.1.1.1.1.2
  omega
theorem half_in {r : Int} (h0 : 0 ≤ r) (h7 : r < 7) : 0 ≤ IntKind.i64.wrap (r.tdiv 2) ∧ IntKind.i64.wrap (r.tdiv 2) ≤ 3 := by
  have h : r = 0 ∨ r = 1 ∨ r = 2 ∨ r = 3 ∨ r = 4 ∨ r = 5 ∨ r = 6 := by omega
  rcases h with rfl | rfl | rfl | rfl | rfl | rfl | rfl <;> decide
theorem cardOk_mk (i j s o l t nd n : Int) (g : Bool) (hs : 0 ≤ s ∧ s < 2) (ho : 0 ≤ o ∧ o < 7) (hl : 0 ≤ l ∧ l < 60) (ht : 0 ≤ t ∧ t < 40) (hnd : 0 ≤ nd ∧ nd < 6) (hn : 0 ≤ n ∧ n < 9) :
    cardOk ⟨appN i, idN j, 1 + s, IntKind.i64.wrap (o.tdiv 2), 1 + l, t, nd, n, g⟩ = true := by
  have h1 := half_in ho.1 ho.2
  have h2 : 1 + s = 1 ∨ 1 + s = 2 := by omega
  have h3 : (1 + s == 1 || 1 + s == 2) = true := by simpa using h2
  have e1 : decide (IntKind.i64.wrap (o.tdiv 2) ≥ 0) = true := decide_eq_true h1.1
  have e2 : decide (IntKind.i64.wrap (o.tdiv 2) ≤ 3) = true := decide_eq_true h1.2
  have e3 : decide (1 + l ≥ 1) = true := decide_eq_true (by omega)
  have e4 : decide (1 + l ≤ 1048576) = true := decide_eq_true (by omega)
  have e5 : decide (t ≥ 0) = true := decide_eq_true ht.1
  have e6 : decide (n ≥ 0) = true := decide_eq_true hn.1
  have e7 : decide (nd ≥ 0) = true := decide_eq_true hnd.1
  have e8 : decide (nd < 6) = true := decide_eq_true hnd.2
  simp only [cardOk, stampOk, appN_ok, idN_ok, h3, e1, e2, e3, e4, e5, e6, e7, e8, Bool.and_self]
theorem drawCard_ok (xs : List Int) (a : Nat) : cardOk (drawCard xs a).1 = true :=
  cardOk_mk _ _ _ _ _ _ _ _ _ (tNext_range xs _ (by omega)) (tNext_range xs _ (by omega)) (tNext_range xs _ (by omega)) (tNext_range xs _ (by omega)) (tNext_range xs _ (by omega)) (tNext_range xs _ (by omega))
theorem drawCards_ok (xs : List Int) (a : Nat) (most : Int) : allOk (drawCards xs a most).1 = true := by
  have gen : ∀ (a k : Nat), allOk (drawCardsN xs a k).1 = true := by
    intro a k
    induction k with
    | zero => rfl
    | succ k ih =>
      simp only [drawCardsN, allOk, List.all_append, List.all_cons, List.all_nil, Bool.and_true, Bool.and_eq_true] at ih ⊢
      exact ⟨ih, drawCard_ok _ _⟩
  exact gen _ _
theorem drawCards_len (xs : List Int) (a : Nat) {most : Int} (h : 0 ≤ most) : ((drawCards xs a most).1.length : Int) ≤ most := by
  unfold drawCards
  rw [drawCardsN_len]
  have := tNext_range xs a (n := most + 1) (by omega)
  omega
/-! one of each key -/
def Dist (l : List MCard) : Prop := l.Pairwise fun a b => ¬ keyEq a b
theorem once_fold {K : List MCard} (hs : SortedK K) : SortedK (K.foldl onceStep []) ∧ Dist (K.foldl onceStep []) ∧ ∀ x ∈ K.foldl onceStep [], x ∈ K := by
  have gen : ∀ n (K : List MCard), K.length = n → SortedK K → SortedK (K.foldl onceStep []) ∧ Dist (K.foldl onceStep []) ∧ ∀ x ∈ K.foldl onceStep [], x ∈ K := by
    intro n
    induction n with
    | zero => intro K hK _; rw [List.eq_nil_of_length_eq_zero hK]; exact ⟨List.Pairwise.nil, List.Pairwise.nil, fun x hx => hx⟩
    | succ n ih =>
      intro K hK hs
      rcases snoc_cases K with rfl | ⟨k, c, rfl⟩
      · exact ⟨List.Pairwise.nil, List.Pairwise.nil, fun x hx => hx⟩
      · have hk := List.pairwise_append.1 hs
        obtain ⟨h1, h2, h3⟩ := ih k (by simpa using hK) hk.1
        have hle : ∀ o ∈ k.foldl onceStep [], ¬ kLt c o := fun o ho => hk.2.2 o (h3 o ho) c (by simp)
        have e : (k ++ [c]).foldl onceStep [] = onceStep (k.foldl onceStep []) c := by simp
        rw [e]
        generalize k.foldl onceStep [] = out at h1 h2 h3 hle
        rcases snoc_cases out with rfl | ⟨o, y, rfl⟩
        · refine ⟨List.pairwise_cons.2 ⟨fun _ h => (by cases h), List.Pairwise.nil⟩, List.pairwise_cons.2 ⟨fun _ h => (by cases h), List.Pairwise.nil⟩, fun x hx => ?_⟩
          have : x = c := by simpa [onceStep] using hx
          simp [this]
        · have p1 := List.pairwise_append.1 h1
          have p2 := List.pairwise_append.1 h2
          rw [onceStep_snoc]
          by_cases hy : keyEq y c
          · rw [if_pos hy]
            refine ⟨List.pairwise_append.2 ⟨p1.1, List.pairwise_cons.2 ⟨fun _ h => (by cases h), List.Pairwise.nil⟩, fun a ha b hb => ?_⟩, List.pairwise_append.2 ⟨p2.1, List.pairwise_cons.2 ⟨fun _ h => (by cases h), List.Pairwise.nil⟩, fun a ha b hb => ?_⟩, fun x hx => ?_⟩
            · have : b = c := by simpa using hb
              subst this
              exact hle a (by simp [ha])
            · have : b = c := by simpa using hb
              subst this
              exact fun h => p2.2.2 a ha y (by simp) (h.trans hy.symm)
            · rcases List.mem_append.1 hx with hx | hx
              · exact List.mem_append_left _ (h3 x (by simp [hx]))
              · exact List.mem_append_right _ hx
          · rw [if_neg hy]
            refine ⟨List.pairwise_append.2 ⟨h1, List.pairwise_cons.2 ⟨fun _ h => (by cases h), List.Pairwise.nil⟩, fun a ha b hb => ?_⟩, List.pairwise_append.2 ⟨h2, List.pairwise_cons.2 ⟨fun _ h => (by cases h), List.Pairwise.nil⟩, fun a ha b hb => ?_⟩, fun x hx => ?_⟩
            · have : b = c := by simpa using hb
              subst this
              exact hle a ha
            · have hbc : b = c := by simpa using hb
              subst hbc
              intro h
              rcases List.mem_append.1 ha with ha' | ha'
              · have q1 : ¬ kLt y a := p1.2.2 a ha' y (by simp)
                have q2 : ¬ kLt b y := hle y (by simp)
                have q3 : ¬ kLt y b := fun hlt => q1 (h.lt_right.2 hlt)
                exact hy (kLt_total q3 q2)
              · have : a = y := by simpa using ha'
                subst this
                exact hy h
            · rcases List.mem_append.1 hx with hx | hx
              · exact List.mem_append_left _ (h3 x hx)
              · exact List.mem_append_right _ hx
  exact gen _ K rfl hs
/-- A list as a full feed has it. -/
structure Neat (l : List MCard) : Prop where
  sorted : SortedK l
  dist : Dist l
  live : ∀ c ∈ l, c.gone = false
theorem neat_seen (cs : List MCard) : Neat (seenK (onceK cs)) := by
  obtain ⟨h1, h2, h3⟩ := once_fold (sortK_sorted cs)
  have e : seenK (onceK cs) = live (onceK cs) := by
    rw [seenK, live, ← filter_sortK, sortK_of_sorted (show SortedK (onceK cs) from h1)]
  rw [e]
  exact ⟨h1.filter _, h2.filter _, fun c hc => by simpa using (List.mem_filter.1 hc).2⟩
theorem live_neat {l : List MCard} (h : Neat l) : live l = l := List.filter_eq_self.2 fun c hc => by simp [h.live c hc]
theorem seen_neat {l : List MCard} (h : Neat l) : seenK l = l := by rw [seenK, live_neat h, sortK_of_sorted h.sorted]
theorem others_self {c : MCard} {l : List MCard} (h : ∀ x ∈ l, ¬ keyEq x c) : others c l = l := List.filter_eq_self.2 fun x hx => by simp [h x hx]
theorem fed_neat {l : List MCard} (h : Dist l) (hg : ∀ c ∈ l, c.gone = false) (s : List MCard) : fedL s true l = l := by
  have gen : ∀ n (l : List MCard), l.length = n → Dist l → (∀ c ∈ l, c.gone = false) → fedL s true l = l := by
    intro n
    induction n with
    | zero => intro l hl _ _; rw [List.eq_nil_of_length_eq_zero hl]; rfl
    | succ n ih =>
      intro l hl hd hg
      rcases snoc_cases l with rfl | ⟨k, c, rfl⟩
      · rfl
      · have hk := List.pairwise_append.1 hd
        rw [fedL_snoc, ih k (by simpa using hl) hk.1 (fun x hx => hg x (by simp [hx])), cPut, others_self fun x hx => hk.2.2 x hx c (by simp), hg c (by simp)]
        simp
  exact gen _ l rfl h hg
theorem allOk_mem {l k : List MCard} (h : allOk l = true) (hk : ∀ x ∈ k, x ∈ l) : allOk k = true := List.all_eq_true.2 fun x hx => List.all_eq_true.1 h x (hk x hx)
theorem seen_once_ok {cs : List MCard} (h : allOk cs = true) : allOk (seenK (onceK cs)) = true := by
  refine allOk_mem h fun x hx => ?_
  have h1 := (seenK_mem.1 hx).1
  have h2 := (once_fold (sortK_sorted cs)).2.2 x h1
  exact sortK_mem.1 h2
/-- A full feed of a neat list. -/
def fullM (n sum : Int) : MMsg := { kind := 2, op := 5, full := true, seq := n, sum := sum }
theorem fullM_right {n sum : Int} {l : List MCard} (hn : 0 ≤ n) (hl : l.length ≤ 64) (ho : allOk l = true) : rightC (fullM n sum) l = true := by
  have h1 : rightA (fullM n sum) = true := by
    have h2 : ¬ n < -1 := by omega
    have e : rightA (fullM n sum) = !decide (n < -1) := rfl
    rw [e, decide_eq_false h2]
    rfl
  simp only [rightC, h1, ho, decide_eq_true hl, Bool.and_self]
theorem apply_full {n : Int} {l : List MCard} (hn : 0 ≤ n) (hl : l.length ≤ 64) (ho : allOk l = true) (h : Neat l) (s : MCache) : s.apply (fullM n (sumB (sealB l))) l = (0, ⟨l, n⟩) := by
  have hf : fedL s.l true l = l := fed_neat h.dist h.live s.l
  simp only [MCache.apply, fullM_right hn hl ho]
  simp only [fullM, hf, sortK_of_sorted h.sorted]
  simp
def deltaM (n sum : Int) : MMsg := { kind := 2, op := 5, full := false, seq := n, sum := sum }
theorem deltaM_right {n sum : Int} {l : List MCard} (hn : 0 ≤ n) (hl : l.length ≤ 64) (ho : allOk l = true) : rightC (deltaM n sum) l = true := by
  have h1 : rightA (deltaM n sum) = true := by
    have h2 : ¬ n < -1 := by omega
    have e : rightA (deltaM n sum) = !decide (n < -1) := rfl
    rw [e, decide_eq_false h2]
    rfl
  simp only [rightC, h1, ho, decide_eq_true hl, Bool.and_self]
theorem apply_forgot {n sum : Int} {l k : List MCard} (hn : 0 ≤ n) (hl : l.length ≤ 64) (ho : allOk l = true) : (⟨k, -1⟩ : MCache).apply (deltaM n sum) l = (25, ⟨k, -1⟩) := by
  simp only [MCache.apply, deltaM_right hn hl ho]
  simp [deltaM]
end Go.Proofs.Ytpbomaelkpjbbaa

