import Derived.Test.YtpbomaelkpjbbaaD3
namespace Go.Proofs.Ytpbomaelkpjbbaa
open Go.Fw
attribute [local irreducible] T TL TG Thn ThnI Blk Rnd RndI RetQ OpV OpE OpU OpK Ctr row cel ep
def live (l : List MCard) : List MCard := l.filter fun c => !c.gone
theorem live_snoc (l : List MCard) (c : MCard) : live (l ++ [c]) = if c.gone = true then live l else live l ++ [c] := by
  unfold live
  rw [List.filter_append]
  cases h : c.gone <;> simp [h]
theorem live_len (l : List MCard) : (live l).length ≤ l.length := List.length_filter_le _ _
def seenK (l : List MCard) : List MCard := sortK (live l)
theorem seenK_len (l : List MCard) : (seenK l).length ≤ l.length := by rw [seenK, sortK_len]; exact live_len l
theorem card_at {l : List MCard} {i : Nat} (h : i < l.length) : ∃ c, l[i]? = some c ∧ (l.map MCard.C)[i]? = some c.C ∧ l.take (i + 1) = l.take i ++ [c] ∧ c ∈ l := by
  refine ⟨l[i], List.getElem?_eq_getElem h, by simp [h], ?_, List.getElem_mem h⟩
  rw [List.take_add_one, List.getElem?_eq_getElem h]; rfl
theorem map_snoc (l : List MCard) (c : MCard) : l.map MCard.C ++ [c.C] = (l ++ [c]).map MCard.C := by rw [List.map_append]; rfl
set_option maxHeartbeats 1000000 in
theorem seal_Seen (m : Bool) (x : Sl) (l : List MCard) (hl : l.length ≤ 20) : Ctr Try.prog 88 #[x.v] [row m 58 9 x.v (l.map MCard.C)]
    fun v L => ∃ q : Sl, v = q.v ∧ L = [row m 58 9 x.v (l.map MCard.C), row true 58 9 q.v ((seenK l).map MCard.C)] := by
  have hlm : (l.map MCard.C).length = l.length := by simp
  have hll := live_len l
  refine Ctr.of (n := 22) (args := [_]) Try.func88 rfl rfl rfl fun F => ?_
  simp only [List.zipIdx_cons, List.zipIdx_nil, List.map_cons, List.map_nil, Nat.zero_add, Nat.reduceAdd, List.cons_append, List.nil_append]
  refine T.parts (add_nil true 58 9) ?_
  repeat (first
    | with_reducible apply T.seq
    | with_reducible apply T.region
    | with_reducible apply TL.nil
    | with_reducible apply Thn.normal
    | with_reducible apply Thn.ret
    | with_reducible apply Thn.exit
    | with_reducible apply Blk.normal
    | with_reducible apply Blk.ret
    | ((with_reducible refine Blk.exitE ?_ ?_); · rfl)
    | ((with_reducible refine Blk.exitN ?_ ?_); · rfl)
    | with_reducible apply Rnd.ret
    | with_reducible apply Rnd.exit
    | with_reducible apply RndI.ret
    | with_reducible apply RndI.exit
    | with_reducible apply ThnI.ret
    | with_reducible apply ThnI.exit
    | with_reducible apply T.skip
    | with_reducible apply T.block
    | with_reducible apply T.ret
    | with_reducible apply T.exit
    | refine T.condT (h := ?_)
    | refine T.condF (h := ?_)
    | refine TL.pass (k := ?_)
    | refine TL.passN (k := ?_)
    | refine TL.take (k := ?_)
    | refine TL.q (h := .assign) (k := ?_)
    | refine TL.q (h := .move) (k := ?_)
    | refine TL.q (h := .lenR) (k := ?_)
    | refine TL.q (h := .lenS) (k := ?_)
    | refine TL.q (h := .indexR) (k := ?_)
    | refine TL.q (h := .loadA) (k := ?_)
    | refine TL.q (h := .loadEpA) (k := ?_)
    | (refine TL.e (h := .al) (k := ?_); rintro _ _ ⟨_, rfl, rfl⟩)
    | refine TL.u (h := .stA0) (k := ?_)
    | refine TL.u (h := .st) (k := ?_)
    | refine TL.u (h := .stA) (k := ?_)
    | refine TL.u (h := .stEp) (k := ?_)
    | refine TL.u (h := .stEpA) (k := ?_)
    | refine TL.q (h := .fieldAddr) (k := ?_)
    | refine TL.q (h := .fieldEp) (k := ?_)
    | refine TL.q (h := .load) (k := ?_)
    | refine TL.q (h := .loadEp) (k := ?_)
    | refine TL.q (h := .not) (k := ?_)
    | (refine TL.e (h := .bs) (k := ?_); rintro _ _ ⟨_, rfl, rfl⟩)
    | (refine TL.e (h := .app) (k := ?_); rintro _ _ ⟨_, rfl, rfl⟩)
    | (refine TL.e (h := .appS) (k := ?_); rintro _ _ ⟨_, rfl, rfl⟩)
    | refine TL.q (h := .add) (k := ?_)
    | refine TL.q (h := .catS) (k := ?_)
    | (refine TL.callF (h := card_Sort _ _ _ (by first | assumption | rfl | omega | (simp at *; omega))) (k := ?_); rintro _ _ ⟨_, rfl, rfl⟩)
    | (refine TL.callF (h := sort_nil) (k := ?_); rintro _ _ ⟨rfl, rfl⟩)
    | refine TL.q (h := .binI) (k := ?_)
    | refine TL.q (h := .binS) (k := ?_))
  refine T.blkW (fun l' A => ∃ q : Sl, l' = [(3, q.v)] ∧ A = [row m 58 9 x.v (l.map MCard.C), row true 58 9 q.v ((live l).map MCard.C), F]) ?_ ?_
  · refine T.loopI (fun q' l' A => ∃ (i : Nat) (q : Sl), q' = l.length - i ∧ i ≤ l.length ∧ l' = [(8, .int .i64 (i : Int)), (7, .int .i64 ((l.map MCard.C).length : Int)), (6, x.v), (3, q.v)] ∧ A = [row m 58 9 x.v (l.map MCard.C), row true 58 9 q.v ((live (l.take i)).map MCard.C), F])
      ⟨0, Sl.nil, rfl, by omega, rfl, rfl⟩ (by (repeat (first | exact AllIs.nil | refine AllIs.cons (by (simp only [St.ev, slk, Nat.reduceBEq, cond_true, cond_false]; first | done | rfl)) ?_))) (by (repeat (first | exact Picks.nil | (apply Picks.cons; (repeat (first | exact Pick.here | apply Pick.there)))))) ?_
    rintro q' l' A j ⟨i, q, rfl, hi, rfl, rfl⟩
    have hle : ((live (l.take i)).map MCard.C).length ≤ l.length := by
      rw [List.length_map]; exact Nat.le_trans (live_len _) (by simp; omega)
    repeat (first
      | with_reducible apply T.seq
      | with_reducible apply T.region
      | with_reducible apply TL.nil
      | with_reducible apply Thn.normal
      | with_reducible apply Thn.ret
      | with_reducible apply Thn.exit
      | with_reducible apply Blk.normal
      | with_reducible apply Blk.ret
      | ((with_reducible refine Blk.exitE ?_ ?_); · rfl)
      | ((with_reducible refine Blk.exitN ?_ ?_); · rfl)
      | with_reducible apply Rnd.ret
      | with_reducible apply Rnd.exit
      | with_reducible apply RndI.ret
      | with_reducible apply RndI.exit
      | with_reducible apply ThnI.ret
      | with_reducible apply ThnI.exit
      | with_reducible apply T.skip
      | with_reducible apply T.block
      | with_reducible apply T.ret
      | with_reducible apply T.exit
      | refine T.condT (h := ?_)
      | refine T.condF (h := ?_)
      | refine TL.pass (k := ?_)
      | refine TL.passN (k := ?_)
      | refine TL.take (k := ?_)
      | refine TL.q (h := .assign) (k := ?_)
      | refine TL.q (h := .move) (k := ?_)
      | refine TL.q (h := .lenR) (k := ?_)
      | refine TL.q (h := .lenS) (k := ?_)
      | refine TL.q (h := .indexR) (k := ?_)
      | refine TL.q (h := .loadA) (k := ?_)
      | refine TL.q (h := .loadEpA) (k := ?_)
      | (refine TL.e (h := .al) (k := ?_); rintro _ _ ⟨_, rfl, rfl⟩)
      | refine TL.u (h := .stA0) (k := ?_)
      | refine TL.u (h := .st) (k := ?_)
      | refine TL.u (h := .stA) (k := ?_)
      | refine TL.u (h := .stEp) (k := ?_)
      | refine TL.u (h := .stEpA) (k := ?_)
      | refine TL.q (h := .fieldAddr) (k := ?_)
      | refine TL.q (h := .fieldEp) (k := ?_)
      | refine TL.q (h := .load) (k := ?_)
      | refine TL.q (h := .loadEp) (k := ?_)
      | refine TL.q (h := .not) (k := ?_)
      | (refine TL.e (h := .bs) (k := ?_); rintro _ _ ⟨_, rfl, rfl⟩)
      | (refine TL.e (h := .app) (k := ?_); rintro _ _ ⟨_, rfl, rfl⟩)
      | (refine TL.e (h := .appS) (k := ?_); rintro _ _ ⟨_, rfl, rfl⟩)
      | refine TL.q (h := .add) (k := ?_)
      | refine TL.q (h := .catS) (k := ?_)
      | (refine TL.callF (h := card_Sort _ _ _ (by first | assumption | rfl | omega | (simp at *; omega))) (k := ?_); rintro _ _ ⟨_, rfl, rfl⟩)
      | (refine TL.callF (h := sort_nil) (k := ?_); rintro _ _ ⟨rfl, rfl⟩)
      | refine TL.q (h := .binI) (k := ?_)
      | refine TL.q (h := .binS) (k := ?_))
    refine T.condD (ht := fun hlt => ?_) (hf := fun hlt => ?_)
    · obtain ⟨c, hc, hcc, ht, _⟩ := card_at (l := l) (i := i) (by omega)
      have hs := live_snoc (l.take i) c
      repeat (first
        | with_reducible apply T.seq
        | with_reducible apply T.region
        | with_reducible apply TL.nil
        | with_reducible apply Thn.normal
        | with_reducible apply Thn.ret
        | with_reducible apply Thn.exit
        | with_reducible apply Blk.normal
        | with_reducible apply Blk.ret
        | ((with_reducible refine Blk.exitE ?_ ?_); · rfl)
        | ((with_reducible refine Blk.exitN ?_ ?_); · rfl)
        | with_reducible apply Rnd.ret
        | with_reducible apply Rnd.exit
        | with_reducible apply RndI.ret
        | with_reducible apply RndI.exit
        | with_reducible apply ThnI.ret
        | with_reducible apply ThnI.exit
        | with_reducible apply T.skip
        | with_reducible apply T.block
        | with_reducible apply T.ret
        | with_reducible apply T.exit
        | refine T.condT (h := ?_)
        | refine T.condF (h := ?_)
        | refine TL.pass (k := ?_)
        | refine TL.passN (k := ?_)
        | refine TL.take (k := ?_)
        | refine TL.q (h := .assign) (k := ?_)
        | refine TL.q (h := .move) (k := ?_)
        | refine TL.q (h := .lenR) (k := ?_)
        | refine TL.q (h := .lenS) (k := ?_)
        | refine TL.q (h := .indexR) (k := ?_)
        | refine TL.q (h := .loadA) (k := ?_)
        | refine TL.q (h := .loadEpA) (k := ?_)
        | (refine TL.e (h := .al) (k := ?_); rintro _ _ ⟨_, rfl, rfl⟩)
        | refine TL.u (h := .stA0) (k := ?_)
        | refine TL.u (h := .st) (k := ?_)
        | refine TL.u (h := .stA) (k := ?_)
        | refine TL.u (h := .stEp) (k := ?_)
        | refine TL.u (h := .stEpA) (k := ?_)
        | refine TL.q (h := .fieldAddr) (k := ?_)
        | refine TL.q (h := .fieldEp) (k := ?_)
        | refine TL.q (h := .load) (k := ?_)
        | refine TL.q (h := .loadEp) (k := ?_)
        | refine TL.q (h := .not) (k := ?_)
        | (refine TL.e (h := .bs) (k := ?_); rintro _ _ ⟨_, rfl, rfl⟩)
        | (refine TL.e (h := .app) (k := ?_); rintro _ _ ⟨_, rfl, rfl⟩)
        | (refine TL.e (h := .appS) (k := ?_); rintro _ _ ⟨_, rfl, rfl⟩)
        | refine TL.q (h := .add) (k := ?_)
        | refine TL.q (h := .catS) (k := ?_)
        | (refine TL.callF (h := card_Sort _ _ _ (by first | assumption | rfl | omega | (simp at *; omega))) (k := ?_); rintro _ _ ⟨_, rfl, rfl⟩)
        | (refine TL.callF (h := sort_nil) (k := ?_); rintro _ _ ⟨rfl, rfl⟩)
        | refine TL.q (h := .binI) (k := ?_)
        | refine TL.q (h := .binS) (k := ?_))
      refine T.cond (by (simp only [St.ev, slk, Nat.reduceBEq, cond_true, cond_false]; first | done | rfl)) (fun hg => ?_) (fun hg => ?_)
      · have hg' : ¬ c.gone = true := by simpa using hg
        rw [if_neg hg'] at hs
        repeat (first
          | with_reducible apply T.seq
          | with_reducible apply T.region
          | with_reducible apply TL.nil
          | with_reducible apply Thn.normal
          | with_reducible apply Thn.ret
          | with_reducible apply Thn.exit
          | with_reducible apply Blk.normal
          | with_reducible apply Blk.ret
          | ((with_reducible refine Blk.exitE ?_ ?_); · rfl)
          | ((with_reducible refine Blk.exitN ?_ ?_); · rfl)
          | with_reducible apply Rnd.ret
          | with_reducible apply Rnd.exit
          | with_reducible apply RndI.ret
          | with_reducible apply RndI.exit
          | with_reducible apply ThnI.ret
          | with_reducible apply ThnI.exit
          | with_reducible apply T.skip
          | with_reducible apply T.block
          | with_reducible apply T.ret
          | with_reducible apply T.exit
          | refine T.condT (h := ?_)
          | refine T.condF (h := ?_)
          | refine TL.pass (k := ?_)
          | refine TL.passN (k := ?_)
          | refine TL.take (k := ?_)
          | refine TL.q (h := .assign) (k := ?_)
          | refine TL.q (h := .move) (k := ?_)
          | refine TL.q (h := .lenR) (k := ?_)
          | refine TL.q (h := .lenS) (k := ?_)
          | refine TL.q (h := .indexR) (k := ?_)
          | refine TL.q (h := .loadA) (k := ?_)
          | refine TL.q (h := .loadEpA) (k := ?_)
          | (refine TL.e (h := .al) (k := ?_); rintro _ _ ⟨_, rfl, rfl⟩)
          | refine TL.u (h := .stA0) (k := ?_)
          | refine TL.u (h := .st) (k := ?_)
          | refine TL.u (h := .stA) (k := ?_)
          | refine TL.u (h := .stEp) (k := ?_)
          | refine TL.u (h := .stEpA) (k := ?_)
          | refine TL.q (h := .fieldAddr) (k := ?_)
          | refine TL.q (h := .fieldEp) (k := ?_)
          | refine TL.q (h := .load) (k := ?_)
          | refine TL.q (h := .loadEp) (k := ?_)
          | refine TL.q (h := .not) (k := ?_)
          | (refine TL.e (h := .bs) (k := ?_); rintro _ _ ⟨_, rfl, rfl⟩)
          | (refine TL.e (h := .app) (k := ?_); rintro _ _ ⟨_, rfl, rfl⟩)
          | (refine TL.e (h := .appS) (k := ?_); rintro _ _ ⟨_, rfl, rfl⟩)
          | refine TL.q (h := .add) (k := ?_)
          | refine TL.q (h := .catS) (k := ?_)
          | (refine TL.callF (h := card_Sort _ _ _ (by first | assumption | rfl | omega | (simp at *; omega))) (k := ?_); rintro _ _ ⟨_, rfl, rfl⟩)
          | (refine TL.callF (h := sort_nil) (k := ?_); rintro _ _ ⟨rfl, rfl⟩)
          | refine TL.q (h := .binI) (k := ?_)
          | refine TL.q (h := .binS) (k := ?_))
        rename_i q1 q2
        rw [map_snoc]
        refine RndI.next (m' := l.length - (i + 1)) (by omega) ⟨i + 1, q2, rfl, by omega, rfl, by rw [ht, hs]⟩ (by (repeat (first | exact AllIs.nil | refine AllIs.cons (by (simp only [St.ev, slk, Nat.reduceBEq, cond_true, cond_false]; first | done | rfl)) ?_))) (by (repeat (first | exact Picks.nil | (apply Picks.cons; (repeat (first | exact Pick.here | apply Pick.there))))))
      · have hg' : c.gone = true := by simpa using hg
        rw [if_pos hg'] at hs
        repeat (first
          | with_reducible apply T.seq
          | with_reducible apply T.region
          | with_reducible apply TL.nil
          | with_reducible apply Thn.normal
          | with_reducible apply Thn.ret
          | with_reducible apply Thn.exit
          | with_reducible apply Blk.normal
          | with_reducible apply Blk.ret
          | ((with_reducible refine Blk.exitE ?_ ?_); · rfl)
          | ((with_reducible refine Blk.exitN ?_ ?_); · rfl)
          | with_reducible apply Rnd.ret
          | with_reducible apply Rnd.exit
          | with_reducible apply RndI.ret
          | with_reducible apply RndI.exit
          | with_reducible apply ThnI.ret
          | with_reducible apply ThnI.exit
          | with_reducible apply T.skip
          | with_reducible apply T.block
          | with_reducible apply T.ret
          | with_reducible apply T.exit
          | refine T.condT (h := ?_)
          | refine T.condF (h := ?_)
          | refine TL.pass (k := ?_)
          | refine TL.passN (k := ?_)
          | refine TL.take (k := ?_)
          | refine TL.q (h := .assign) (k := ?_)
          | refine TL.q (h := .move) (k := ?_)
          | refine TL.q (h := .lenR) (k := ?_)
          | refine TL.q (h := .lenS) (k := ?_)
          | refine TL.q (h := .indexR) (k := ?_)
          | refine TL.q (h := .loadA) (k := ?_)
          | refine TL.q (h := .loadEpA) (k := ?_)
          | (refine TL.e (h := .al) (k := ?_); rintro _ _ ⟨_, rfl, rfl⟩)
          | refine TL.u (h := .stA0) (k := ?_)
          | refine TL.u (h := .st) (k := ?_)
          | refine TL.u (h := .stA) (k := ?_)
          | refine TL.u (h := .stEp) (k := ?_)
          | refine TL.u (h := .stEpA) (k := ?_)
          | refine TL.q (h := .fieldAddr) (k := ?_)
          | refine TL.q (h := .fieldEp) (k := ?_)
          | refine TL.q (h := .load) (k := ?_)
          | refine TL.q (h := .loadEp) (k := ?_)
          | refine TL.q (h := .not) (k := ?_)
          | (refine TL.e (h := .bs) (k := ?_); rintro _ _ ⟨_, rfl, rfl⟩)
          | (refine TL.e (h := .app) (k := ?_); rintro _ _ ⟨_, rfl, rfl⟩)
          | (refine TL.e (h := .appS) (k := ?_); rintro _ _ ⟨_, rfl, rfl⟩)
          | refine TL.q (h := .add) (k := ?_)
          | refine TL.q (h := .catS) (k := ?_)
          | (refine TL.callF (h := card_Sort _ _ _ (by first | assumption | rfl | omega | (simp at *; omega))) (k := ?_); rintro _ _ ⟨_, rfl, rfl⟩)
          | (refine TL.callF (h := sort_nil) (k := ?_); rintro _ _ ⟨rfl, rfl⟩)
          | refine TL.q (h := .binI) (k := ?_)
          | refine TL.q (h := .binS) (k := ?_))
        refine RndI.next (m' := l.length - (i + 1)) (by omega) ⟨i + 1, q, rfl, by omega, rfl, by rw [ht, hs]⟩ (by (repeat (first | exact AllIs.nil | refine AllIs.cons (by (simp only [St.ev, slk, Nat.reduceBEq, cond_true, cond_false]; first | done | rfl)) ?_))) (by (repeat (first | exact Picks.nil | (apply Picks.cons; (repeat (first | exact Pick.here | apply Pick.there))))))
    · have e : l.take i = l := List.take_of_length_le (by omega)
      rw [e]
      repeat (first
        | with_reducible apply T.seq
        | with_reducible apply T.region
        | with_reducible apply TL.nil
        | with_reducible apply Thn.normal
        | with_reducible apply Thn.ret
        | with_reducible apply Thn.exit
        | with_reducible apply Blk.normal
        | with_reducible apply Blk.ret
        | ((with_reducible refine Blk.exitE ?_ ?_); · rfl)
        | ((with_reducible refine Blk.exitN ?_ ?_); · rfl)
        | with_reducible apply Rnd.ret
        | with_reducible apply Rnd.exit
        | with_reducible apply RndI.ret
        | with_reducible apply RndI.exit
        | with_reducible apply ThnI.ret
        | with_reducible apply ThnI.exit
        | with_reducible apply T.skip
        | with_reducible apply T.block
        | with_reducible apply T.ret
        | with_reducible apply T.exit
        | refine T.condT (h := ?_)
        | refine T.condF (h := ?_)
        | refine TL.pass (k := ?_)
        | refine TL.passN (k := ?_)
        | refine TL.take (k := ?_)
        | refine TL.q (h := .assign) (k := ?_)
        | refine TL.q (h := .move) (k := ?_)
        | refine TL.q (h := .lenR) (k := ?_)
        | refine TL.q (h := .lenS) (k := ?_)
        | refine TL.q (h := .indexR) (k := ?_)
        | refine TL.q (h := .loadA) (k := ?_)
        | refine TL.q (h := .loadEpA) (k := ?_)
        | (refine TL.e (h := .al) (k := ?_); rintro _ _ ⟨_, rfl, rfl⟩)
        | refine TL.u (h := .stA0) (k := ?_)
        | refine TL.u (h := .st) (k := ?_)
        | refine TL.u (h := .stA) (k := ?_)
        | refine TL.u (h := .stEp) (k := ?_)
        | refine TL.u (h := .stEpA) (k := ?_)
        | refine TL.q (h := .fieldAddr) (k := ?_)
        | refine TL.q (h := .fieldEp) (k := ?_)
        | refine TL.q (h := .load) (k := ?_)
        | refine TL.q (h := .loadEp) (k := ?_)
        | refine TL.q (h := .not) (k := ?_)
        | (refine TL.e (h := .bs) (k := ?_); rintro _ _ ⟨_, rfl, rfl⟩)
        | (refine TL.e (h := .app) (k := ?_); rintro _ _ ⟨_, rfl, rfl⟩)
        | (refine TL.e (h := .appS) (k := ?_); rintro _ _ ⟨_, rfl, rfl⟩)
        | refine TL.q (h := .add) (k := ?_)
        | refine TL.q (h := .catS) (k := ?_)
        | (refine TL.callF (h := card_Sort _ _ _ (by first | assumption | rfl | omega | (simp at *; omega))) (k := ?_); rintro _ _ ⟨_, rfl, rfl⟩)
        | (refine TL.callF (h := sort_nil) (k := ?_); rintro _ _ ⟨rfl, rfl⟩)
        | refine TL.q (h := .binI) (k := ?_)
        | refine TL.q (h := .binS) (k := ?_))
      refine ThnI.done ⟨q, rfl, rfl⟩ (by (repeat (first | exact AllIs.nil | refine AllIs.cons (by (simp only [St.ev, slk, Nat.reduceBEq, cond_true, cond_false]; first | done | rfl)) ?_))) (by (repeat (first | exact Picks.nil | (apply Picks.cons; (repeat (first | exact Pick.here | apply Pick.there))))))
  · rintro l' A j ⟨q, rfl, rfl⟩
    have hll2 : (live l).length ≤ 20 := by omega
    repeat (first
      | with_reducible apply T.seq
      | with_reducible apply T.region
      | with_reducible apply TL.nil
      | with_reducible apply Thn.normal
      | with_reducible apply Thn.ret
      | with_reducible apply Thn.exit
      | with_reducible apply Blk.normal
      | with_reducible apply Blk.ret
      | ((with_reducible refine Blk.exitE ?_ ?_); · rfl)
      | ((with_reducible refine Blk.exitN ?_ ?_); · rfl)
      | with_reducible apply Rnd.ret
      | with_reducible apply Rnd.exit
      | with_reducible apply RndI.ret
      | with_reducible apply RndI.exit
      | with_reducible apply ThnI.ret
      | with_reducible apply ThnI.exit
      | with_reducible apply T.skip
      | with_reducible apply T.block
      | with_reducible apply T.ret
      | with_reducible apply T.exit
      | refine T.condT (h := ?_)
      | refine T.condF (h := ?_)
      | refine TL.pass (k := ?_)
      | refine TL.passN (k := ?_)
      | refine TL.take (k := ?_)
      | refine TL.q (h := .assign) (k := ?_)
      | refine TL.q (h := .move) (k := ?_)
      | refine TL.q (h := .lenR) (k := ?_)
      | refine TL.q (h := .lenS) (k := ?_)
      | refine TL.q (h := .indexR) (k := ?_)
      | refine TL.q (h := .loadA) (k := ?_)
      | refine TL.q (h := .loadEpA) (k := ?_)
      | (refine TL.e (h := .al) (k := ?_); rintro _ _ ⟨_, rfl, rfl⟩)
      | refine TL.u (h := .stA0) (k := ?_)
      | refine TL.u (h := .st) (k := ?_)
      | refine TL.u (h := .stA) (k := ?_)
      | refine TL.u (h := .stEp) (k := ?_)
      | refine TL.u (h := .stEpA) (k := ?_)
      | refine TL.q (h := .fieldAddr) (k := ?_)
      | refine TL.q (h := .fieldEp) (k := ?_)
      | refine TL.q (h := .load) (k := ?_)
      | refine TL.q (h := .loadEp) (k := ?_)
      | refine TL.q (h := .not) (k := ?_)
      | (refine TL.e (h := .bs) (k := ?_); rintro _ _ ⟨_, rfl, rfl⟩)
      | (refine TL.e (h := .app) (k := ?_); rintro _ _ ⟨_, rfl, rfl⟩)
      | (refine TL.e (h := .appS) (k := ?_); rintro _ _ ⟨_, rfl, rfl⟩)
      | refine TL.q (h := .add) (k := ?_)
      | refine TL.q (h := .catS) (k := ?_)
      | (refine TL.callF (h := card_Sort _ _ _ (by first | assumption | rfl | omega | (simp at *; omega))) (k := ?_); rintro _ _ ⟨_, rfl, rfl⟩)
      | (refine TL.callF (h := sort_nil) (k := ?_); rintro _ _ ⟨rfl, rfl⟩)
      | refine TL.q (h := .binI) (k := ?_)
      | refine TL.q (h := .binS) (k := ?_))
    rename_i q2
    (first | refine RetQ.retI (L := [row m 58 9 x.v (l.map MCard.C), row true 58 9 q2.v ((seenK l).map MCard.C)]) (ResIs.r1 Try.results88 (RV.tmp)) (by (repeat (first | exact Picks.nil | (apply Picks.cons; (repeat (first | exact Pick.here | apply Pick.there)))))) ?_ | refine RetQ.norI (L := [row m 58 9 x.v (l.map MCard.C), row true 58 9 q2.v ((seenK l).map MCard.C)]) (ResIs.r1 Try.results88 (RV.tmp)) (by (repeat (first | exact Picks.nil | (apply Picks.cons; (repeat (first | exact Pick.here | apply Pick.there)))))) ?_)
    exact ⟨q2, rfl, rfl⟩
/-- One card's bytes, behind others. -/
def cardB (bs : List Int) (c : MCard) : List Int := pInt (pByte (pText (pText bs c.app) c.id) (showsM c)) c.lease
theorem pByte_len (bs : List Int) (n : Int) : (pByte bs n).length = bs.length + 1 := by simp [pByte]
theorem cardB_len (bs : List Int) (c : MCard) : (cardB bs c).length = bs.length + c.app.size + c.id.size + 11 := by
  simp only [cardB, pInt_len, pByte_len, pText_len]; omega
def bytesL (l : List MCard) : List Int := l.foldl cardB []
theorem bytesL_snoc (l : List MCard) (c : MCard) : bytesL (l ++ [c]) = cardB (bytesL l) c := by simp [bytesL]
/-- No text is long. -/
def Short (l : List MCard) : Prop := ∀ c ∈ l, c.app.size ≤ 255 ∧ c.id.size ≤ 255
theorem bytesL_len (l : List MCard) (h : Short l) : (bytesL l).length ≤ 521 * l.length := by
  have gen : ∀ n (l : List MCard), l.length = n → Short l → (bytesL l).length ≤ 521 * l.length := by
    intro n
    induction n with
    | zero => intro l hl _; rw [List.eq_nil_of_length_eq_zero hl]; exact Nat.zero_le _
    | succ n ih =>
      intro l hl hs
      rcases snoc_cases l with rfl | ⟨k, c, rfl⟩
      · exact Nat.zero_le _
      · rw [bytesL_snoc, cardB_len]
        have h1 := ih k (by simpa using hl) (fun x hx => hs x (by simp [hx]))
        have h2 := hs c (by simp)
        simp only [List.length_append, List.length_cons, List.length_nil]
        omega
  exact gen _ l rfl h
theorem insR_mem {c d : MCard} {l : List MCard} : d ∈ insR c l ↔ d = c ∨ d ∈ l := by
  induction l with
  | nil => simp [insR]
  | cons y r ih =>
    unfold insR
    split
    · simp only [List.mem_cons, ih]
      constructor
      · rintro (h | h | h)
        · exact .inr (.inl h)
        · exact .inl h
        · exact .inr (.inr h)
      · rintro (h | h | h)
        · exact .inr (.inl h)
        · exact .inl h
        · exact .inr (.inr h)
    · simp
theorem insK_mem {c d : MCard} {l : List MCard} : d ∈ insK c l ↔ d = c ∨ d ∈ l := by simp [insK, insR_mem]
theorem sortK_mem {d : MCard} {l : List MCard} : d ∈ sortK l ↔ d ∈ l := by
  have gen : ∀ n (l : List MCard), l.length = n → (d ∈ sortK l ↔ d ∈ l) := by
    intro n
    induction n with
    | zero => intro l hl; rw [List.eq_nil_of_length_eq_zero hl]; rfl
    | succ n ih =>
      intro l hl
      rcases snoc_cases l with rfl | ⟨k, c, rfl⟩
      · rfl
      · rw [sortK_snoc, insK_mem, ih k (by simpa using hl)]
        simp [or_comm]
  exact gen _ l rfl
theorem seenK_mem {d : MCard} {l : List MCard} : d ∈ seenK l ↔ d ∈ l ∧ d.gone = false := by
  rw [seenK, sortK_mem, live]; simp
theorem Short.seen {l : List MCard} (h : Short l) : Short (seenK l) := fun c hc => h c (seenK_mem.1 hc).1
def sealB (l : List MCard) : List Int := bytesL (seenK l)
set_option maxHeartbeats 1000000 in
theorem seal_Bytes (m : Bool) (x : Sl) (l : List MCard) (hl : l.length ≤ 20) (hs : Short l) : Ctr Try.prog 47 #[x.v] [row m 58 9 x.v (l.map MCard.C)]
    fun v L => ∃ q : Sl, v = q.v ∧ L = [row m 58 9 x.v (l.map MCard.C), row true 5 1 q.v ((sealB l).map byC)] := by
  have hsl := seenK_len l
  have hss := hs.seen
  refine Ctr.of (n := 31) (args := [_]) Try.func47 rfl rfl rfl fun F => ?_
  simp only [List.zipIdx_cons, List.zipIdx_nil, List.map_cons, List.map_nil, Nat.zero_add, Nat.reduceAdd, List.cons_append, List.nil_append]
  refine T.parts (add_nil true 5 1) ?_
  repeat (first
    | with_reducible apply T.seq
    | with_reducible apply T.region
    | with_reducible apply TL.nil
    | with_reducible apply Thn.normal
    | with_reducible apply Thn.ret
    | with_reducible apply Thn.exit
    | with_reducible apply Blk.normal
    | with_reducible apply Blk.ret
    | ((with_reducible refine Blk.exitE ?_ ?_); · rfl)
    | ((with_reducible refine Blk.exitN ?_ ?_); · rfl)
    | with_reducible apply Rnd.ret
    | with_reducible apply Rnd.exit
    | with_reducible apply RndI.ret
    | with_reducible apply RndI.exit
    | with_reducible apply ThnI.ret
    | with_reducible apply ThnI.exit
    | with_reducible apply T.skip
    | with_reducible apply T.block
    | with_reducible apply T.ret
    | with_reducible apply T.exit
    | refine T.condT (h := ?_)
    | refine T.condF (h := ?_)
    | refine TL.pass (k := ?_)
    | refine TL.passN (k := ?_)
    | refine TL.take (k := ?_)
    | refine TL.q (h := .assign) (k := ?_)
    | refine TL.q (h := .move) (k := ?_)
    | (refine TL.callF (h := seal_Seen _ _ _ (by first | assumption | rfl | omega | (simp at *; omega))) (k := ?_); rintro _ _ ⟨_, rfl, rfl⟩)
    | (refine TL.callF (h := seen_nil) (k := ?_); rintro _ _ ⟨rfl, rfl⟩)
    | refine TL.q (h := .lenR) (k := ?_)
    | refine TL.q (h := .lenS) (k := ?_)
    | refine TL.q (h := .indexR) (k := ?_)
    | refine TL.q (h := .loadA) (k := ?_)
    | refine TL.q (h := .loadEpA) (k := ?_)
    | (refine TL.e (h := .al) (k := ?_); rintro _ _ ⟨_, rfl, rfl⟩)
    | refine TL.u (h := .stA0) (k := ?_)
    | refine TL.u (h := .st) (k := ?_)
    | refine TL.u (h := .stA) (k := ?_)
    | refine TL.u (h := .stEp) (k := ?_)
    | refine TL.u (h := .stEpA) (k := ?_)
    | refine TL.q (h := .fieldAddr) (k := ?_)
    | refine TL.q (h := .fieldEp) (k := ?_)
    | refine TL.q (h := .load) (k := ?_)
    | refine TL.q (h := .loadEp) (k := ?_)
    | (refine TL.callF (h := pack_Int _ _ _ _ (by first | assumption | rfl | omega | (simp at *; omega))) (k := ?_); rintro _ _ ⟨_, rfl, rfl⟩)
    | refine TL.q (h := .add) (k := ?_)
    | refine TL.q (h := .catS) (k := ?_)
    | refine TL.q (h := .binI) (k := ?_)
    | refine TL.q (h := .binS) (k := ?_))
  rename_i qs
  generalize hK : seenK l = K at hsl hss
  have hKm : (K.map MCard.C).length = K.length := by simp
  refine T.blkW (fun l' A => ∃ q : Sl, l' = [(3, q.v)] ∧ A = [row m 58 9 x.v (l.map MCard.C), row true 5 1 q.v ((bytesL K).map byC), F]) ?_ ?_
  · refine T.loopI (fun q' l' A => ∃ (i : Nat) (q : Sl), q' = K.length - i ∧ i ≤ K.length ∧ l' = [(9, .int .i64 (i : Int)), (8, .int .i64 ((K.map MCard.C).length : Int)), (7, qs.v), (3, q.v)] ∧ A = [row m 58 9 x.v (l.map MCard.C), row true 58 9 qs.v (K.map MCard.C), row true 5 1 q.v ((bytesL (K.take i)).map byC), F])
      ⟨0, Sl.nil, rfl, by omega, rfl, rfl⟩ (by (repeat (first | exact AllIs.nil | refine AllIs.cons (by (simp only [St.ev, slk, Nat.reduceBEq, cond_true, cond_false]; first | done | rfl)) ?_))) (by (repeat (first | exact Picks.nil | (apply Picks.cons; (repeat (first | exact Pick.here | apply Pick.there)))))) ?_
    rintro q' l' A j ⟨i, q, rfl, hi, rfl, rfl⟩
    have hbl := bytesL_len (K.take i) (fun c hc => hss c (List.mem_of_mem_take hc))
    have htl : (K.take i).length ≤ 20 := by simp; omega
    repeat (first
      | with_reducible apply T.seq
      | with_reducible apply T.region
      | with_reducible apply TL.nil
      | with_reducible apply Thn.normal
      | with_reducible apply Thn.ret
      | with_reducible apply Thn.exit
      | with_reducible apply Blk.normal
      | with_reducible apply Blk.ret
      | ((with_reducible refine Blk.exitE ?_ ?_); · rfl)
      | ((with_reducible refine Blk.exitN ?_ ?_); · rfl)
      | with_reducible apply Rnd.ret
      | with_reducible apply Rnd.exit
      | with_reducible apply RndI.ret
      | with_reducible apply RndI.exit
      | with_reducible apply ThnI.ret
      | with_reducible apply ThnI.exit
      | with_reducible apply T.skip
      | with_reducible apply T.block
      | with_reducible apply T.ret
      | with_reducible apply T.exit
      | refine T.condT (h := ?_)
      | refine T.condF (h := ?_)
      | refine TL.pass (k := ?_)
      | refine TL.passN (k := ?_)
      | refine TL.take (k := ?_)
      | refine TL.q (h := .assign) (k := ?_)
      | refine TL.q (h := .move) (k := ?_)
      | (refine TL.callF (h := seal_Seen _ _ _ (by first | assumption | rfl | omega | (simp at *; omega))) (k := ?_); rintro _ _ ⟨_, rfl, rfl⟩)
      | (refine TL.callF (h := seen_nil) (k := ?_); rintro _ _ ⟨rfl, rfl⟩)
      | refine TL.q (h := .lenR) (k := ?_)
      | refine TL.q (h := .lenS) (k := ?_)
      | refine TL.q (h := .indexR) (k := ?_)
      | refine TL.q (h := .loadA) (k := ?_)
      | refine TL.q (h := .loadEpA) (k := ?_)
      | (refine TL.e (h := .al) (k := ?_); rintro _ _ ⟨_, rfl, rfl⟩)
      | refine TL.u (h := .stA0) (k := ?_)
      | refine TL.u (h := .st) (k := ?_)
      | refine TL.u (h := .stA) (k := ?_)
      | refine TL.u (h := .stEp) (k := ?_)
      | refine TL.u (h := .stEpA) (k := ?_)
      | refine TL.q (h := .fieldAddr) (k := ?_)
      | refine TL.q (h := .fieldEp) (k := ?_)
      | refine TL.q (h := .load) (k := ?_)
      | refine TL.q (h := .loadEp) (k := ?_)
      | (refine TL.callF (h := pack_Int _ _ _ _ (by first | assumption | rfl | omega | (simp at *; omega))) (k := ?_); rintro _ _ ⟨_, rfl, rfl⟩)
      | refine TL.q (h := .add) (k := ?_)
      | refine TL.q (h := .catS) (k := ?_)
      | refine TL.q (h := .binI) (k := ?_)
      | refine TL.q (h := .binS) (k := ?_))
    refine T.condD (ht := fun hlt => ?_) (hf := fun hlt => ?_)
    · obtain ⟨c, hc, hcc, ht, hcm⟩ := card_at (l := K) (i := i) (by omega)
      obtain ⟨ha, hid⟩ := hss c hcm
      have e := bytesL_snoc (K.take i) c
      generalize hB : bytesL (K.take i) = B at hbl e
      have e1 := pText_len B c.app
      have e2 := pText_len (pText B c.app) c.id
      have e3 := pByte_len (pText (pText B c.app) c.id) (showsM c)
      repeat (first
        | with_reducible apply T.seq
        | with_reducible apply T.region
        | with_reducible apply TL.nil
        | with_reducible apply Thn.normal
        | with_reducible apply Thn.ret
        | with_reducible apply Thn.exit
        | with_reducible apply Blk.normal
        | with_reducible apply Blk.ret
        | ((with_reducible refine Blk.exitE ?_ ?_); · rfl)
        | ((with_reducible refine Blk.exitN ?_ ?_); · rfl)
        | with_reducible apply Rnd.ret
        | with_reducible apply Rnd.exit
        | with_reducible apply RndI.ret
        | with_reducible apply RndI.exit
        | with_reducible apply ThnI.ret
        | with_reducible apply ThnI.exit
        | with_reducible apply T.skip
        | with_reducible apply T.block
        | with_reducible apply T.ret
        | with_reducible apply T.exit
        | refine T.condT (h := ?_)
        | refine T.condF (h := ?_)
        | refine TL.pass (k := ?_)
        | refine TL.passN (k := ?_)
        | refine TL.take (k := ?_)
        | refine TL.q (h := .assign) (k := ?_)
        | refine TL.q (h := .move) (k := ?_)
        | (refine TL.callF (h := seal_Seen _ _ _ (by first | assumption | rfl | omega | (simp at *; omega))) (k := ?_); rintro _ _ ⟨_, rfl, rfl⟩)
        | (refine TL.callF (h := seen_nil) (k := ?_); rintro _ _ ⟨rfl, rfl⟩)
        | refine TL.q (h := .lenR) (k := ?_)
        | refine TL.q (h := .lenS) (k := ?_)
        | refine TL.q (h := .indexR) (k := ?_)
        | refine TL.q (h := .loadA) (k := ?_)
        | refine TL.q (h := .loadEpA) (k := ?_)
        | (refine TL.e (h := .al) (k := ?_); rintro _ _ ⟨_, rfl, rfl⟩)
        | refine TL.u (h := .stA0) (k := ?_)
        | refine TL.u (h := .st) (k := ?_)
        | refine TL.u (h := .stA) (k := ?_)
        | refine TL.u (h := .stEp) (k := ?_)
        | refine TL.u (h := .stEpA) (k := ?_)
        | refine TL.q (h := .fieldAddr) (k := ?_)
        | refine TL.q (h := .fieldEp) (k := ?_)
        | refine TL.q (h := .load) (k := ?_)
        | refine TL.q (h := .loadEp) (k := ?_)
        | (refine TL.callF (h := pack_Int _ _ _ _ (by first | assumption | rfl | omega | (simp at *; omega))) (k := ?_); rintro _ _ ⟨_, rfl, rfl⟩)
        | refine TL.q (h := .add) (k := ?_)
        | refine TL.q (h := .catS) (k := ?_)
        | refine TL.q (h := .binI) (k := ?_)
        | refine TL.q (h := .binS) (k := ?_))
      all_goals refine TG.start (i := 5) mixed rfl ?_
      all_goals (first
        | refine TG.q0 0 (ho := rfl) (hv := .yes (h := .move)) (k := ?_)
        | refine TG.lv 0 (ho := rfl) (hv := .move) (k := ?_))
      all_goals (first
        | refine TG.q0 1 (ho := rfl) (hv := .yes (h := .fieldAddr)) (k := ?_)
        | refine TG.qFieldEp 1 (ho := rfl) (h := ?_)
        | refine TG.lv 1 (ho := rfl) (hv := .fieldAddr) (k := ?_)
        | refine TG.lv 1 (ho := rfl) (hv := .fieldEp) (k := ?_))
      all_goals (first
        | refine TG.q0 2 (ho := rfl) (hv := .yes (h := .fieldAddr)) (k := ?_)
        | refine TG.qFieldEp 2 (ho := rfl) (h := ?_)
        | refine TG.lv 2 (ho := rfl) (hv := .fieldAddr) (k := ?_)
        | refine TG.lv 2 (ho := rfl) (hv := .fieldEp) (k := ?_))
      all_goals (first
        | refine TG.qLoad 3 (ho := rfl) (k := ?_)
        | refine TG.qLoadEp 3 (ho := rfl) (h := ?_)
        | refine TG.lv 3 (ho := rfl) (hv := .load) (k := ?_)
        | refine TG.lv 3 (ho := rfl) (hv := .loadEp) (k := ?_))
      all_goals (first
        | refine TG.q0 5 (ho := rfl) (hv := .yes (h := .fieldAddr)) (k := ?_)
        | refine TG.qFieldEp 5 (ho := rfl) (h := ?_)
        | refine TG.lv 5 (ho := rfl) (hv := .fieldAddr) (k := ?_)
        | refine TG.lv 5 (ho := rfl) (hv := .fieldEp) (k := ?_))
      all_goals (first
        | refine TG.q0 6 (ho := rfl) (hv := .yes (h := .fieldAddr)) (k := ?_)
        | refine TG.qFieldEp 6 (ho := rfl) (h := ?_)
        | refine TG.lv 6 (ho := rfl) (hv := .fieldAddr) (k := ?_)
        | refine TG.lv 6 (ho := rfl) (hv := .fieldEp) (k := ?_))
      all_goals (first
        | refine TG.qLoad 7 (ho := rfl) (k := ?_)
        | refine TG.qLoadEp 7 (ho := rfl) (h := ?_)
        | refine TG.lv 7 (ho := rfl) (hv := .load) (k := ?_)
        | refine TG.lv 7 (ho := rfl) (hv := .loadEp) (k := ?_))
      all_goals (first
        | refine TG.qLoadA 9 (ho := rfl) (k := ?_)
        | refine TG.qLoadEpA 9 (ho := rfl) (h := ?_)
        | refine TG.lv 9 (ho := rfl) (hv := .loadA) (k := ?_)
        | refine TG.lv 9 (ho := rfl) (hv := .loadEpA) (k := ?_))
      all_goals (first
        | (refine TG.ld 4 (ho := rfl) (hK := .callF (h := pack_Text _ _ _ _ (by first | assumption | rfl | omega | (simp at *; omega)) (by first | assumption | rfl | omega | (simp at *; omega)))) (k := ?_); rintro _ _ ⟨_, rfl, _, rfl, rfl⟩; refine ⟨by (repeat (first | exact Held.nil | apply Held.zero | (apply Held.one; (repeat (first | exact Pick.here | apply Pick.there))))), ?_⟩))
      all_goals (first
        | (refine TG.ld 8 (ho := rfl) (hK := .callF (h := pack_Text _ _ _ _ (by first | assumption | rfl | omega | (simp at *; omega)) (by first | assumption | rfl | omega | (simp at *; omega)))) (k := ?_); rintro _ _ ⟨_, rfl, _, rfl, rfl⟩; refine ⟨by (repeat (first | exact Held.nil | apply Held.zero | (apply Held.one; (repeat (first | exact Pick.here | apply Pick.there))))), ?_⟩))
      all_goals (first
        | (refine TG.ld 10 (ho := rfl) (hK := .callF (h := card_Shows _)) (k := ?_); rintro _ _ ⟨_, rfl, rfl, rfl⟩; refine ⟨by (repeat (first | exact Held.nil | apply Held.zero | (apply Held.one; (repeat (first | exact Pick.here | apply Pick.there))))), ?_⟩))
      all_goals (first
        | (refine TG.ld 11 (ho := rfl) (hK := .callF (h := pack_Byte _ _ _ _ (by first | assumption | rfl | omega | (simp at *; omega)))) (k := ?_); rintro _ _ ⟨_, rfl, _, rfl, rfl⟩; refine ⟨by (repeat (first | exact Held.nil | apply Held.zero | (apply Held.one; (repeat (first | exact Pick.here | apply Pick.there))))), ?_⟩))
      all_goals (first
        | refine TG.q0 12 (ho := rfl) (hv := .yes (h := .assign)) (k := ?_)
        | refine TG.lv 12 (ho := rfl) (hv := .assign) (k := ?_))
      all_goals apply TG.fin rfl
      repeat (first
        | with_reducible apply T.seq
        | with_reducible apply T.region
        | with_reducible apply TL.nil
        | with_reducible apply Thn.normal
        | with_reducible apply Thn.ret
        | with_reducible apply Thn.exit
        | with_reducible apply Blk.normal
        | with_reducible apply Blk.ret
        | ((with_reducible refine Blk.exitE ?_ ?_); · rfl)
        | ((with_reducible refine Blk.exitN ?_ ?_); · rfl)
        | with_reducible apply Rnd.ret
        | with_reducible apply Rnd.exit
        | with_reducible apply RndI.ret
        | with_reducible apply RndI.exit
        | with_reducible apply ThnI.ret
        | with_reducible apply ThnI.exit
        | with_reducible apply T.skip
        | with_reducible apply T.block
        | with_reducible apply T.ret
        | with_reducible apply T.exit
        | refine T.condT (h := ?_)
        | refine T.condF (h := ?_)
        | refine TL.pass (k := ?_)
        | refine TL.passN (k := ?_)
        | refine TL.take (k := ?_)
        | refine TL.q (h := .assign) (k := ?_)
        | refine TL.q (h := .move) (k := ?_)
        | (refine TL.callF (h := seal_Seen _ _ _ (by first | assumption | rfl | omega | (simp at *; omega))) (k := ?_); rintro _ _ ⟨_, rfl, rfl⟩)
        | (refine TL.callF (h := seen_nil) (k := ?_); rintro _ _ ⟨rfl, rfl⟩)
        | refine TL.q (h := .lenR) (k := ?_)
        | refine TL.q (h := .lenS) (k := ?_)
        | refine TL.q (h := .indexR) (k := ?_)
        | refine TL.q (h := .loadA) (k := ?_)
        | refine TL.q (h := .loadEpA) (k := ?_)
        | (refine TL.e (h := .al) (k := ?_); rintro _ _ ⟨_, rfl, rfl⟩)
        | refine TL.u (h := .stA0) (k := ?_)
        | refine TL.u (h := .st) (k := ?_)
        | refine TL.u (h := .stA) (k := ?_)
        | refine TL.u (h := .stEp) (k := ?_)
        | refine TL.u (h := .stEpA) (k := ?_)
        | refine TL.q (h := .fieldAddr) (k := ?_)
        | refine TL.q (h := .fieldEp) (k := ?_)
        | refine TL.q (h := .load) (k := ?_)
        | refine TL.q (h := .loadEp) (k := ?_)
        | (refine TL.callF (h := pack_Int _ _ _ _ (by first | assumption | rfl | omega | (simp at *; omega))) (k := ?_); rintro _ _ ⟨_, rfl, rfl⟩)
        | refine TL.q (h := .add) (k := ?_)
        | refine TL.q (h := .catS) (k := ?_)
        | refine TL.q (h := .binI) (k := ?_)
        | refine TL.q (h := .binS) (k := ?_))
      rename_i q1 q2 q3 q4
      refine RndI.next (m' := K.length - (i + 1)) (by omega) ⟨i + 1, q4, rfl, by omega, rfl, by rw [ht, e]⟩ (by (repeat (first | exact AllIs.nil | refine AllIs.cons (by (simp only [St.ev, slk, Nat.reduceBEq, cond_true, cond_false]; first | done | rfl)) ?_))) (by (repeat (first | exact Picks.nil | (apply Picks.cons; (repeat (first | exact Pick.here | apply Pick.there))))))
    · have e : K.take i = K := List.take_of_length_le (by omega)
      rw [e]
      repeat (first
        | with_reducible apply T.seq
        | with_reducible apply T.region
        | with_reducible apply TL.nil
        | with_reducible apply Thn.normal
        | with_reducible apply Thn.ret
        | with_reducible apply Thn.exit
        | with_reducible apply Blk.normal
        | with_reducible apply Blk.ret
        | ((with_reducible refine Blk.exitE ?_ ?_); · rfl)
        | ((with_reducible refine Blk.exitN ?_ ?_); · rfl)
        | with_reducible apply Rnd.ret
        | with_reducible apply Rnd.exit
        | with_reducible apply RndI.ret
        | with_reducible apply RndI.exit
        | with_reducible apply ThnI.ret
        | with_reducible apply ThnI.exit
        | with_reducible apply T.skip
        | with_reducible apply T.block
        | with_reducible apply T.ret
        | with_reducible apply T.exit
        | refine T.condT (h := ?_)
        | refine T.condF (h := ?_)
        | refine TL.pass (k := ?_)
        | refine TL.passN (k := ?_)
        | refine TL.take (k := ?_)
        | refine TL.q (h := .assign) (k := ?_)
        | refine TL.q (h := .move) (k := ?_)
        | (refine TL.callF (h := seal_Seen _ _ _ (by first | assumption | rfl | omega | (simp at *; omega))) (k := ?_); rintro _ _ ⟨_, rfl, rfl⟩)
        | (refine TL.callF (h := seen_nil) (k := ?_); rintro _ _ ⟨rfl, rfl⟩)
        | refine TL.q (h := .lenR) (k := ?_)
        | refine TL.q (h := .lenS) (k := ?_)
        | refine TL.q (h := .indexR) (k := ?_)
        | refine TL.q (h := .loadA) (k := ?_)
        | refine TL.q (h := .loadEpA) (k := ?_)
        | (refine TL.e (h := .al) (k := ?_); rintro _ _ ⟨_, rfl, rfl⟩)
        | refine TL.u (h := .stA0) (k := ?_)
        | refine TL.u (h := .st) (k := ?_)
        | refine TL.u (h := .stA) (k := ?_)
        | refine TL.u (h := .stEp) (k := ?_)
        | refine TL.u (h := .stEpA) (k := ?_)
        | refine TL.q (h := .fieldAddr) (k := ?_)
        | refine TL.q (h := .fieldEp) (k := ?_)
        | refine TL.q (h := .load) (k := ?_)
        | refine TL.q (h := .loadEp) (k := ?_)
        | (refine TL.callF (h := pack_Int _ _ _ _ (by first | assumption | rfl | omega | (simp at *; omega))) (k := ?_); rintro _ _ ⟨_, rfl, rfl⟩)
        | refine TL.q (h := .add) (k := ?_)
        | refine TL.q (h := .catS) (k := ?_)
        | refine TL.q (h := .binI) (k := ?_)
        | refine TL.q (h := .binS) (k := ?_))
      refine ThnI.done ⟨q, rfl, rfl⟩ (by (repeat (first | exact AllIs.nil | refine AllIs.cons (by (simp only [St.ev, slk, Nat.reduceBEq, cond_true, cond_false]; first | done | rfl)) ?_))) (by (repeat (first | exact Picks.nil | (apply Picks.cons; (repeat (first | exact Pick.here | apply Pick.there))))))
  · rintro l' A j ⟨q, rfl, rfl⟩
    have hB : sealB l = bytesL K := by rw [sealB, hK]
    rw [hB]
    repeat (first
      | with_reducible apply T.seq
      | with_reducible apply T.region
      | with_reducible apply TL.nil
      | with_reducible apply Thn.normal
      | with_reducible apply Thn.ret
      | with_reducible apply Thn.exit
      | with_reducible apply Blk.normal
      | with_reducible apply Blk.ret
      | ((with_reducible refine Blk.exitE ?_ ?_); · rfl)
      | ((with_reducible refine Blk.exitN ?_ ?_); · rfl)
      | with_reducible apply Rnd.ret
      | with_reducible apply Rnd.exit
      | with_reducible apply RndI.ret
      | with_reducible apply RndI.exit
      | with_reducible apply ThnI.ret
      | with_reducible apply ThnI.exit
      | with_reducible apply T.skip
      | with_reducible apply T.block
      | with_reducible apply T.ret
      | with_reducible apply T.exit
      | refine T.condT (h := ?_)
      | refine T.condF (h := ?_)
      | refine TL.pass (k := ?_)
      | refine TL.passN (k := ?_)
      | refine TL.take (k := ?_)
      | refine TL.q (h := .assign) (k := ?_)
      | refine TL.q (h := .move) (k := ?_)
      | (refine TL.callF (h := seal_Seen _ _ _ (by first | assumption | rfl | omega | (simp at *; omega))) (k := ?_); rintro _ _ ⟨_, rfl, rfl⟩)
      | (refine TL.callF (h := seen_nil) (k := ?_); rintro _ _ ⟨rfl, rfl⟩)
      | refine TL.q (h := .lenR) (k := ?_)
      | refine TL.q (h := .lenS) (k := ?_)
      | refine TL.q (h := .indexR) (k := ?_)
      | refine TL.q (h := .loadA) (k := ?_)
      | refine TL.q (h := .loadEpA) (k := ?_)
      | (refine TL.e (h := .al) (k := ?_); rintro _ _ ⟨_, rfl, rfl⟩)
      | refine TL.u (h := .stA0) (k := ?_)
      | refine TL.u (h := .st) (k := ?_)
      | refine TL.u (h := .stA) (k := ?_)
      | refine TL.u (h := .stEp) (k := ?_)
      | refine TL.u (h := .stEpA) (k := ?_)
      | refine TL.q (h := .fieldAddr) (k := ?_)
      | refine TL.q (h := .fieldEp) (k := ?_)
      | refine TL.q (h := .load) (k := ?_)
      | refine TL.q (h := .loadEp) (k := ?_)
      | (refine TL.callF (h := pack_Int _ _ _ _ (by first | assumption | rfl | omega | (simp at *; omega))) (k := ?_); rintro _ _ ⟨_, rfl, rfl⟩)
      | refine TL.q (h := .add) (k := ?_)
      | refine TL.q (h := .catS) (k := ?_)
      | refine TL.q (h := .binI) (k := ?_)
      | refine TL.q (h := .binS) (k := ?_))
    (first | refine RetQ.retI (L := [row m 58 9 x.v (l.map MCard.C), row true 5 1 q.v ((bytesL K).map byC)]) (ResIs.r1 Try.results47 (RV.tmp)) (by (repeat (first | exact Picks.nil | (apply Picks.cons; (repeat (first | exact Pick.here | apply Pick.there)))))) ?_ | refine RetQ.norI (L := [row m 58 9 x.v (l.map MCard.C), row true 5 1 q.v ((bytesL K).map byC)]) (ResIs.r1 Try.results47 (RV.tmp)) (by (repeat (first | exact Picks.nil | (apply Picks.cons; (repeat (first | exact Pick.here | apply Pick.there)))))) ?_)
    exact ⟨q, rfl, rfl⟩
theorem seal_Of (m : Bool) (x : Sl) (l : List MCard) (hl : l.length ≤ 20) (hs : Short l) : Ctr Try.prog 46 #[x.v] [row m 58 9 x.v (l.map MCard.C)]
    fun v L => v = .int .u32 (sumB (sealB l)) ∧ L = [row m 58 9 x.v (l.map MCard.C)] := by
  have hb := bytesL_len (seenK l) hs.seen
  have hsl := seenK_len l
  have hbb : (sealB l).length ≤ 100000 := by unfold sealB; omega
  refine Ctr.of (n := 6) (args := [_]) Try.func46 rfl rfl rfl fun F => ?_
  simp only [List.zipIdx_cons, List.zipIdx_nil, List.map_cons, List.map_nil, Nat.zero_add, Nat.reduceAdd, List.cons_append, List.nil_append]
  repeat (first
    | with_reducible apply T.seq
    | with_reducible apply T.region
    | with_reducible apply TL.nil
    | with_reducible apply Thn.normal
    | with_reducible apply Thn.ret
    | with_reducible apply Thn.exit
    | with_reducible apply Blk.normal
    | with_reducible apply Blk.ret
    | ((with_reducible refine Blk.exitE ?_ ?_); · rfl)
    | ((with_reducible refine Blk.exitN ?_ ?_); · rfl)
    | with_reducible apply Rnd.ret
    | with_reducible apply Rnd.exit
    | with_reducible apply RndI.ret
    | with_reducible apply RndI.exit
    | with_reducible apply ThnI.ret
    | with_reducible apply ThnI.exit
    | with_reducible apply T.skip
    | with_reducible apply T.block
    | with_reducible apply T.ret
    | with_reducible apply T.exit
    | refine T.condT (h := ?_)
    | refine T.condF (h := ?_)
    | refine TL.pass (k := ?_)
    | refine TL.passN (k := ?_)
    | refine TL.take (k := ?_)
    | refine TL.q (h := .assign) (k := ?_)
    | refine TL.q (h := .move) (k := ?_)
    | (refine TL.callF (h := seal_Bytes _ _ _ (by first | assumption | rfl | omega | (simp at *; omega)) (by first | assumption | rfl | omega | (simp at *; omega))) (k := ?_); rintro _ _ ⟨_, rfl, rfl⟩)
    | (refine TL.callF (h := bytes_nil) (k := ?_); rintro _ _ ⟨rfl, rfl⟩)
    | (refine TL.callF (h := frame_Sum _ _ _ (by first | assumption | rfl | omega | (simp at *; omega))) (k := ?_); rintro _ _ ⟨rfl, rfl⟩)
    | (refine TL.callF (h := sum_nil) (k := ?_); rintro _ _ ⟨rfl, rfl⟩))
  (first | refine RetQ.retI (L := [row m 58 9 x.v (l.map MCard.C)]) (ResIs.r1 Try.results46 (RV.tmp)) (by (repeat (first | exact Picks.nil | (apply Picks.cons; (repeat (first | exact Pick.here | apply Pick.there)))))) ?_ | refine RetQ.norI (L := [row m 58 9 x.v (l.map MCard.C)]) (ResIs.r1 Try.results46 (RV.tmp)) (by (repeat (first | exact Picks.nil | (apply Picks.cons; (repeat (first | exact Pick.here | apply Pick.there)))))) ?_)
  exact ⟨rfl, rfl⟩
end Go.Proofs.Ytpbomaelkpjbbaa

