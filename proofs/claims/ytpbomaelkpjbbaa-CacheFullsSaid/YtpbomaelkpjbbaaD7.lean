import Derived.Test.YtpbomaelkpjbbaaD6
import Derived.Test.YtpbomaelkpjbbaaFwSub
namespace Go.Proofs.Ytpbomaelkpjbbaa
open Go.Fw
attribute [local irreducible] T TL TG Thn ThnI Blk Rnd RndI RetQ OpV OpE OpU OpK Ctr row cel ep
def beforeB (a1 a2 b1 b2 : ByteArray) : Bool := bif a1 != b1 then ltS a1 b1 else ltS a2 b2
theorem ref_Before (a1 a2 b1 b2 : ByteArray) : Ctr Try.prog 111 #[.agg #[.string a1, .string a2], .agg #[.string b1, .string b2]] [] fun v L => v = .bool (beforeB a1 a2 b1 b2) ∧ L = [] := by
  refine Ctr.of (n := 20) (args := [_, _]) Try.func111 rfl rfl rfl fun F => ?_
  simp only [List.zipIdx_cons, List.zipIdx_nil, List.map_cons, List.map_nil, Nat.zero_add, Nat.reduceAdd, List.cons_append, List.nil_append]
  repeat' (first
    | with_reducible apply T.seq
    | with_reducible apply T.region
    | with_reducible apply TL.nil
    | with_reducible apply Thn.normal
    | with_reducible apply Thn.ret
    | with_reducible apply Thn.exit
    | with_reducible apply Blk.normal
    | with_reducible apply Blk.ret
    | ((with_reducible refine Blk.exitE ?_ ?_); · rfl)
    | ((with_reducible refine Blk.exitN ?_ ?_); · rfl)
    | with_reducible apply Rnd.ret
    | with_reducible apply Rnd.exit
    | with_reducible apply RndI.ret
    | with_reducible apply RndI.exit
    | with_reducible apply ThnI.ret
    | with_reducible apply ThnI.exit
    | with_reducible apply T.skip
    | with_reducible apply T.block
    | with_reducible apply T.ret
    | with_reducible apply T.exit
    | refine T.condT (h := ?_)
    | refine T.condF (h := ?_)
    | refine TL.pass (k := ?_)
    | refine TL.passN (k := ?_)
    | refine TL.take (k := ?_)
    | (refine TL.e (h := .bx) (k := ?_); rintro _ _ ⟨_, rfl, rfl⟩)
    | refine TL.q (h := .assign) (k := ?_)
    | refine TL.q (h := .fieldAddr) (k := ?_)
    | refine TL.q (h := .fieldEp) (k := ?_)
    | refine TL.q (h := .load) (k := ?_)
    | refine TL.q (h := .loadEp) (k := ?_)
    | refine TL.q (h := .binS) (k := ?_)
    | refine TL.q (h := .binI) (k := ?_)
    | refine TL.gT (k := ?_)
    | refine TL.gF (k := ?_)
    | refine T.cT (h := ?_)
    | refine T.cF (h := ?_)
    | (refine TL.gcase (ht := fun _ => ?_) (hf := fun _ => ?_))
    | refine T.cond (by (simp only [St.ev, slk, Nat.reduceBEq, cond_true, cond_false]; first | done | rfl)) (fun _ => ?_) (fun _ => ?_))
  all_goals ((first | refine RetQ.retI (L := []) (ResIs.r1 Try.results111 (RV.tmp)) (by (repeat (first | exact Picks.nil | (apply Picks.cons; (repeat (first | exact Pick.here | apply Pick.there)))))) ?_ | refine RetQ.norI (L := []) (ResIs.r1 Try.results111 (RV.tmp)) (by (repeat (first | exact Picks.nil | (apply Picks.cons; (repeat (first | exact Pick.here | apply Pick.there)))))) ?_)
             refine ⟨?_, rfl⟩
             simp only [beforeB, *, cond_true, cond_false]
             try rfl)
theorem before_lt (a b : MCard) : beforeB a.app a.id b.app b.id = decide (kLt a b) := by
  rw [Bool.eq_iff_iff, decide_eq_true_eq, kLt_iff, beforeB]
  cases h : a.app != b.app with
  | true =>
    have : ¬ a.app = b.app := by rintro e; rw [bne, bb_eq.2 e] at h; cases h
    simp [this]
  | false =>
    have : a.app = b.app := bb_eq.1 (by simpa [bne] using h)
    simp [this, ltS_irrefl]
theorem insK_at {c : MCard} {a : List MCard} : ∀ {b : List MCard}, (∀ z ∈ b, kLt c z) → (∀ y, a.getLast? = some y → ¬ kLt c y) → insK c (a ++ b) = a ++ c :: b := by
  have gen : ∀ n (b : List MCard), b.length = n → (∀ z ∈ b, kLt c z) → (∀ y, a.getLast? = some y → ¬ kLt c y) → insK c (a ++ b) = a ++ c :: b := by
    intro n
    induction n with
    | zero =>
      intro b hb _ ha
      rw [List.eq_nil_of_length_eq_zero hb, List.append_nil]
      rcases snoc_cases a with rfl | ⟨k, y, rfl⟩
      · rfl
      · rw [insK_snoc, if_neg (show ¬ keyCmp c y < 0 from ha y (by simp))]; simp
    | succ n ih =>
      intro b hb h ha
      rcases snoc_cases b with rfl | ⟨k, y, rfl⟩
      · simp at hb
      · rw [← List.append_assoc, insK_snoc, if_pos (show keyCmp c y < 0 from h y (by simp)), ih k (by simpa using hb) (fun z hz => h z (by simp [hz])) ha]
        simp
  exact fun {b} => gen _ b rfl
set_option maxHeartbeats 2000000 in
theorem ref_Sort (m : Bool) (x : Sl) (l : List MCard) (hl : l.length ≤ 100000) : Ctr Try.prog 64 #[x.v] [row m 58 9 x.v (l.map MCard.C)]
    fun v L => ∃ q : Sl, v = q.v ∧ L = [row m 58 9 x.v (l.map MCard.C), row true 58 9 q.v ((sortK l).map MCard.C)] := by
  have hlm : (l.map MCard.C).length = l.length := by simp
  refine Ctr.of (n := 44) (args := [_]) Try.func64 rfl rfl rfl fun F => ?_
  simp only [List.zipIdx_cons, List.zipIdx_nil, List.map_cons, List.map_nil, Nat.zero_add, Nat.reduceAdd, List.cons_append, List.nil_append]
  refine T.parts (add_nil true 58 9) ?_
  repeat (first
    | with_reducible apply T.seq
    | with_reducible apply T.region
    | with_reducible apply TL.nil
    | with_reducible apply Thn.normal
    | with_reducible apply Thn.ret
    | with_reducible apply Thn.exit
    | with_reducible apply Blk.normal
    | with_reducible apply Blk.ret
    | ((with_reducible refine Blk.exitE ?_ ?_); · rfl)
    | ((with_reducible refine Blk.exitN ?_ ?_); · rfl)
    | with_reducible apply Rnd.ret
    | with_reducible apply Rnd.exit
    | with_reducible apply RndI.ret
    | with_reducible apply RndI.exit
    | with_reducible apply ThnI.ret
    | with_reducible apply ThnI.exit
    | with_reducible apply T.skip
    | with_reducible apply T.block
    | with_reducible apply T.ret
    | with_reducible apply T.exit
    | refine T.condT (h := ?_)
    | refine T.condF (h := ?_)
    | refine TL.pass (k := ?_)
    | refine TL.passN (k := ?_)
    | refine TL.take (k := ?_)
    | refine TL.q (h := .assign) (k := ?_)
    | refine TL.q (h := .move) (k := ?_)
    | refine TL.q (h := .lenR) (k := ?_)
    | refine TL.q (h := .lenS) (k := ?_)
    | refine TL.q (h := .indexR) (k := ?_)
    | refine TL.q (h := .loadA) (k := ?_)
    | refine TL.q (h := .loadEpA) (k := ?_)
    | (refine TL.e (h := .al) (k := ?_); rintro _ _ ⟨_, rfl, rfl⟩)
    | refine TL.u (h := .stA0) (k := ?_)
    | refine TL.u (h := .st) (k := ?_)
    | refine TL.u (h := .stA) (k := ?_)
    | refine TL.u (h := .stEp) (k := ?_)
    | refine TL.u (h := .stEpA) (k := ?_)
    | refine TL.q (h := .sub) (k := ?_)
    | refine TL.q (h := .add) (k := ?_)
    | refine TL.q (h := .catS) (k := ?_)
    | refine TL.q (h := .binI) (k := ?_)
    | refine TL.q (h := .binS) (k := ?_))
  refine T.blkW (fun l' A => ∃ q : Sl, l' = [(3, q.v)] ∧ A = [row m 58 9 x.v (l.map MCard.C), row true 58 9 q.v ((sortK l).map MCard.C), F]) ?_ ?_
  · refine T.loopI (fun q' l' A => ∃ (i : Nat) (q : Sl), q' = l.length - i ∧ i ≤ l.length ∧ l' = [(9, .int .i64 (i : Int)), (8, .int .i64 ((l.map MCard.C).length : Int)), (7, x.v), (3, q.v)] ∧ A = [row m 58 9 x.v (l.map MCard.C), row true 58 9 q.v ((sortK (l.take i)).map MCard.C), F])
      ⟨0, Sl.nil, rfl, by omega, rfl, rfl⟩ (by (repeat (first | exact AllIs.nil | refine AllIs.cons (by (simp only [St.ev, slk, Nat.reduceBEq, cond_true, cond_false]; first | done | rfl)) ?_))) (by (repeat (first | exact Picks.nil | (apply Picks.cons; (repeat (first | exact Pick.here | apply Pick.there)))))) ?_
    rintro q' l' A j ⟨i, q, rfl, hi, rfl, rfl⟩
    repeat (first
      | with_reducible apply T.seq
      | with_reducible apply T.region
      | with_reducible apply TL.nil
      | with_reducible apply Thn.normal
      | with_reducible apply Thn.ret
      | with_reducible apply Thn.exit
      | with_reducible apply Blk.normal
      | with_reducible apply Blk.ret
      | ((with_reducible refine Blk.exitE ?_ ?_); · rfl)
      | ((with_reducible refine Blk.exitN ?_ ?_); · rfl)
      | with_reducible apply Rnd.ret
      | with_reducible apply Rnd.exit
      | with_reducible apply RndI.ret
      | with_reducible apply RndI.exit
      | with_reducible apply ThnI.ret
      | with_reducible apply ThnI.exit
      | with_reducible apply T.skip
      | with_reducible apply T.block
      | with_reducible apply T.ret
      | with_reducible apply T.exit
      | refine T.condT (h := ?_)
      | refine T.condF (h := ?_)
      | refine TL.pass (k := ?_)
      | refine TL.passN (k := ?_)
      | refine TL.take (k := ?_)
      | refine TL.q (h := .assign) (k := ?_)
      | refine TL.q (h := .move) (k := ?_)
      | refine TL.q (h := .lenR) (k := ?_)
      | refine TL.q (h := .lenS) (k := ?_)
      | refine TL.q (h := .indexR) (k := ?_)
      | refine TL.q (h := .loadA) (k := ?_)
      | refine TL.q (h := .loadEpA) (k := ?_)
      | (refine TL.e (h := .al) (k := ?_); rintro _ _ ⟨_, rfl, rfl⟩)
      | refine TL.u (h := .stA0) (k := ?_)
      | refine TL.u (h := .st) (k := ?_)
      | refine TL.u (h := .stA) (k := ?_)
      | refine TL.u (h := .stEp) (k := ?_)
      | refine TL.u (h := .stEpA) (k := ?_)
      | refine TL.q (h := .sub) (k := ?_)
      | refine TL.q (h := .add) (k := ?_)
      | refine TL.q (h := .catS) (k := ?_)
      | refine TL.q (h := .binI) (k := ?_)
      | refine TL.q (h := .binS) (k := ?_))
    refine T.condD (ht := fun hlt => ?_) (hf := fun hlt => ?_)
    · obtain ⟨c, hc, hcc, ht, _⟩ := card_at (l := l) (i := i) (by omega)
      have hso : (sortK (l.take i)).length ≤ l.length := by rw [sortK_len]; simp; omega
      have hsn := sortK_snoc (l.take i) c
      generalize hO : sortK (l.take i) = out at hso hsn
      have hom : (out.map MCard.C).length = out.length := by simp
      repeat (first
        | with_reducible apply T.seq
        | with_reducible apply T.region
        | with_reducible apply TL.nil
        | with_reducible apply Thn.normal
        | with_reducible apply Thn.ret
        | with_reducible apply Thn.exit
        | with_reducible apply Blk.normal
        | with_reducible apply Blk.ret
        | ((with_reducible refine Blk.exitE ?_ ?_); · rfl)
        | ((with_reducible refine Blk.exitN ?_ ?_); · rfl)
        | with_reducible apply Rnd.ret
        | with_reducible apply Rnd.exit
        | with_reducible apply RndI.ret
        | with_reducible apply RndI.exit
        | with_reducible apply ThnI.ret
        | with_reducible apply ThnI.exit
        | with_reducible apply T.skip
        | with_reducible apply T.block
        | with_reducible apply T.ret
        | with_reducible apply T.exit
        | refine T.condT (h := ?_)
        | refine T.condF (h := ?_)
        | refine TL.pass (k := ?_)
        | refine TL.passN (k := ?_)
        | refine TL.take (k := ?_)
        | refine TL.q (h := .assign) (k := ?_)
        | refine TL.q (h := .move) (k := ?_)
        | refine TL.q (h := .lenR) (k := ?_)
        | refine TL.q (h := .lenS) (k := ?_)
        | refine TL.q (h := .indexR) (k := ?_)
        | refine TL.q (h := .loadA) (k := ?_)
        | refine TL.q (h := .loadEpA) (k := ?_)
        | (refine TL.e (h := .al) (k := ?_); rintro _ _ ⟨_, rfl, rfl⟩)
        | refine TL.u (h := .stA0) (k := ?_)
        | refine TL.u (h := .st) (k := ?_)
        | refine TL.u (h := .stA) (k := ?_)
        | refine TL.u (h := .stEp) (k := ?_)
        | refine TL.u (h := .stEpA) (k := ?_)
        | refine TL.q (h := .sub) (k := ?_)
        | refine TL.q (h := .add) (k := ?_)
        | refine TL.q (h := .catS) (k := ?_)
        | refine TL.q (h := .binI) (k := ?_)
        | refine TL.q (h := .binS) (k := ?_))
      rename_i bc
      refine T.blkW (fun l' A => ∃ k : Nat, k ≤ out.length ∧ insK c out = out.take k ++ c :: out.drop k ∧ l' = [(6, .int .i64 (k : Int)), (5, .pointer (some ⟨bc, 0, none⟩)), (9, .int .i64 (i : Int)), (8, .int .i64 ((l.map MCard.C).length : Int)), (7, x.v), (3, q.v)] ∧
        A = [cel true bc 58 c.C, row m 58 9 x.v (l.map MCard.C), row true 58 9 q.v (out.map MCard.C), F]) ?_ ?_
      · refine T.loopI (fun q' l' A => ∃ k : Nat, q' = k ∧ k ≤ out.length ∧ (∀ z ∈ out.drop k, kLt c z) ∧ l' = [(6, .int .i64 (k : Int)), (5, .pointer (some ⟨bc, 0, none⟩)), (9, .int .i64 (i : Int)), (8, .int .i64 ((l.map MCard.C).length : Int)), (7, x.v), (3, q.v)] ∧
          A = [cel true bc 58 c.C, row m 58 9 x.v (l.map MCard.C), row true 58 9 q.v (out.map MCard.C), F]) ⟨(out.map MCard.C).length, rfl, by omega, by rw [hom, List.drop_length]; simp, rfl, rfl⟩ (by (repeat (first | exact AllIs.nil | refine AllIs.cons (by (simp only [St.ev, slk, Nat.reduceBEq, cond_true, cond_false]; first | done | rfl)) ?_))) (by (repeat (first | exact Picks.nil | (apply Picks.cons; (repeat (first | exact Pick.here | apply Pick.there)))))) ?_
        rintro q' l' A jg ⟨k, hqk, hk, hz, rfl, rfl⟩
        subst hqk
        repeat (first
          | with_reducible apply T.seq
          | with_reducible apply T.region
          | with_reducible apply TL.nil
          | with_reducible apply Thn.normal
          | with_reducible apply Thn.ret
          | with_reducible apply Thn.exit
          | with_reducible apply Blk.normal
          | with_reducible apply Blk.ret
          | ((with_reducible refine Blk.exitE ?_ ?_); · rfl)
          | ((with_reducible refine Blk.exitN ?_ ?_); · rfl)
          | with_reducible apply Rnd.ret
          | with_reducible apply Rnd.exit
          | with_reducible apply RndI.ret
          | with_reducible apply RndI.exit
          | with_reducible apply ThnI.ret
          | with_reducible apply ThnI.exit
          | with_reducible apply T.skip
          | with_reducible apply T.block
          | with_reducible apply T.ret
          | with_reducible apply T.exit
          | refine T.condT (h := ?_)
          | refine T.condF (h := ?_)
          | refine TL.pass (k := ?_)
          | refine TL.passN (k := ?_)
          | refine TL.take (k := ?_)
          | refine TL.q (h := .assign) (k := ?_)
          | refine TL.q (h := .move) (k := ?_)
          | refine TL.q (h := .lenR) (k := ?_)
          | refine TL.q (h := .lenS) (k := ?_)
          | refine TL.q (h := .indexR) (k := ?_)
          | refine TL.q (h := .loadA) (k := ?_)
          | refine TL.q (h := .loadEpA) (k := ?_)
          | (refine TL.e (h := .al) (k := ?_); rintro _ _ ⟨_, rfl, rfl⟩)
          | refine TL.u (h := .stA0) (k := ?_)
          | refine TL.u (h := .st) (k := ?_)
          | refine TL.u (h := .stA) (k := ?_)
          | refine TL.u (h := .stEp) (k := ?_)
          | refine TL.u (h := .stEpA) (k := ?_)
          | refine TL.q (h := .sub) (k := ?_)
          | refine TL.q (h := .add) (k := ?_)
          | refine TL.q (h := .catS) (k := ?_)
          | refine TL.q (h := .binI) (k := ?_)
          | refine TL.q (h := .binS) (k := ?_))
        cases q' with
        | zero =>
          have hgd : decide (((0 : Nat) : Int) > 0) = false := rfl
          have hat := insK_at (a := []) hz (fun y hy => by cases hy)
          all_goals refine TG.start (i := 6) mixed rfl ?_
          all_goals (first
            | refine TG.q0 0 (ho := rfl) (hv := .yes (h := .move)) (k := ?_)
            | refine TG.lv 0 (ho := rfl) (hv := .move) (k := ?_))
          all_goals (first
            | refine TG.q0 1 (ho := rfl) (hv := .yes (h := .binI)) (k := ?_)
            | refine TG.q0 1 (ho := rfl) (hv := .yes (h := .binS)) (k := ?_)
            | refine TG.lv 1 (ho := rfl) (hv := .binI) (k := ?_)
            | refine TG.lv 1 (ho := rfl) (hv := .binS) (k := ?_))
          all_goals (first
            | refine TG.q0 2 (ho := rfl) (hv := .yes (h := .move)) (k := ?_)
            | refine TG.lv 2 (ho := rfl) (hv := .move) (k := ?_))
          all_goals try (first | refine TG.litT 17 (k := ?_) | refine TG.litF 17 (k := ?_) | refine TG.lit 17 (fun _ => ?_) (fun _ => ?_))
          all_goals (first
            | refine TG.q0 3 (ho := rfl) (hv := .no) (k := ?_)
            | refine TG.q0 3 (ho := rfl) (hv := .yes (h := .fieldAddr)) (k := ?_)
            | refine TG.qFieldEp 3 (ho := rfl) (h := ?_)
            | refine TG.lv 3 (ho := rfl) (hv := .fieldAddr) (k := ?_)
            | refine TG.lv 3 (ho := rfl) (hv := .fieldEp) (k := ?_))
          all_goals (first
            | refine TG.q0 4 (ho := rfl) (hv := .no) (k := ?_)
            | refine TG.qLoadA 4 (ho := rfl) (k := ?_)
            | refine TG.qLoadEpA 4 (ho := rfl) (h := ?_)
            | refine TG.lv 4 (ho := rfl) (hv := .loadA) (k := ?_)
            | refine TG.lv 4 (ho := rfl) (hv := .loadEpA) (k := ?_))
          all_goals (first
            | refine TG.q0 5 (ho := rfl) (hv := .no) (k := ?_)
            | refine TG.q0 5 (ho := rfl) (hv := .yes (h := .move)) (k := ?_)
            | refine TG.lv 5 (ho := rfl) (hv := .move) (k := ?_))
          all_goals (first
            | refine TG.q0 6 (ho := rfl) (hv := .no) (k := ?_)
            | refine TG.q0 6 (ho := rfl) (hv := .yes (h := .move)) (k := ?_)
            | refine TG.lv 6 (ho := rfl) (hv := .move) (k := ?_))
          all_goals (first
            | refine TG.q0 7 (ho := rfl) (hv := .no) (k := ?_)
            | refine TG.q0 7 (ho := rfl) (hv := .yes (h := .sub)) (k := ?_)
            | refine TG.q0 7 (ho := rfl) (hv := .yes (h := .binI)) (k := ?_)
            | refine TG.lv 7 (ho := rfl) (hv := .sub) (k := ?_)
            | refine TG.lv 7 (ho := rfl) (hv := .binI) (k := ?_))
          all_goals (first
            | refine TG.q0 8 (ho := rfl) (hv := .no) (k := ?_)
            | refine TG.qIndexR 8 (ho := rfl) (h := ?_)
            | refine TG.lv 8 (ho := rfl) (hv := .indexR) (k := ?_))
          all_goals (first
            | refine TG.q0 9 (ho := rfl) (hv := .no) (k := ?_)
            | refine TG.q0 9 (ho := rfl) (hv := .yes (h := .fieldAddr)) (k := ?_)
            | refine TG.qFieldEp 9 (ho := rfl) (h := ?_)
            | refine TG.lv 9 (ho := rfl) (hv := .fieldAddr) (k := ?_)
            | refine TG.lv 9 (ho := rfl) (hv := .fieldEp) (k := ?_))
          all_goals (first
            | refine TG.q0 10 (ho := rfl) (hv := .no) (k := ?_)
            | refine TG.qLoadA 10 (ho := rfl) (k := ?_)
            | refine TG.qLoadEpA 10 (ho := rfl) (h := ?_)
            | refine TG.lv 10 (ho := rfl) (hv := .loadA) (k := ?_)
            | refine TG.lv 10 (ho := rfl) (hv := .loadEpA) (k := ?_))
          all_goals (first
            | refine TG.q0 11 (ho := rfl) (hv := .no) (k := ?_)
            | (refine TG.ld 11 (ho := rfl) (hK := .callF (h := ref_Before _ _ _ _)) (k := ?_); rintro _ _ ⟨_, rfl, rfl, rfl⟩; refine ⟨by (repeat (first | exact Held.nil | apply Held.zero | (apply Held.one; (repeat (first | exact Pick.here | apply Pick.there))))), ?_⟩))
          all_goals (first
            | refine TG.q0 12 (ho := rfl) (hv := .yes (h := .pickT)) (k := ?_)
            | refine TG.q0 12 (ho := rfl) (hv := .yes (h := .pickF)) (k := ?_)
            | refine TG.q0 12 (ho := rfl) (hv := .yes (h := .pickB)) (k := ?_)
            | refine TG.lv 12 (ho := rfl) (hv := .pickT) (k := ?_)
            | refine TG.lv 12 (ho := rfl) (hv := .pickF) (k := ?_)
            | refine TG.lv 12 (ho := rfl) (hv := .pickB) (k := ?_))
          all_goals apply TG.fin rfl
          repeat (first
            | with_reducible apply T.seq
            | with_reducible apply T.region
            | with_reducible apply TL.nil
            | with_reducible apply Thn.normal
            | with_reducible apply Thn.ret
            | with_reducible apply Thn.exit
            | with_reducible apply Blk.normal
            | with_reducible apply Blk.ret
            | ((with_reducible refine Blk.exitE ?_ ?_); · rfl)
            | ((with_reducible refine Blk.exitN ?_ ?_); · rfl)
            | with_reducible apply Rnd.ret
            | with_reducible apply Rnd.exit
            | with_reducible apply RndI.ret
            | with_reducible apply RndI.exit
            | with_reducible apply ThnI.ret
            | with_reducible apply ThnI.exit
            | with_reducible apply T.skip
            | with_reducible apply T.block
            | with_reducible apply T.ret
            | with_reducible apply T.exit
            | refine T.condT (h := ?_)
            | refine T.condF (h := ?_)
            | refine TL.pass (k := ?_)
            | refine TL.passN (k := ?_)
            | refine TL.take (k := ?_)
            | refine TL.q (h := .assign) (k := ?_)
            | refine TL.q (h := .move) (k := ?_)
            | refine TL.q (h := .lenR) (k := ?_)
            | refine TL.q (h := .lenS) (k := ?_)
            | refine TL.q (h := .indexR) (k := ?_)
            | refine TL.q (h := .loadA) (k := ?_)
            | refine TL.q (h := .loadEpA) (k := ?_)
            | (refine TL.e (h := .al) (k := ?_); rintro _ _ ⟨_, rfl, rfl⟩)
            | refine TL.u (h := .stA0) (k := ?_)
            | refine TL.u (h := .st) (k := ?_)
            | refine TL.u (h := .stA) (k := ?_)
            | refine TL.u (h := .stEp) (k := ?_)
            | refine TL.u (h := .stEpA) (k := ?_)
            | refine TL.q (h := .sub) (k := ?_)
            | refine TL.q (h := .add) (k := ?_)
            | refine TL.q (h := .catS) (k := ?_)
            | refine TL.q (h := .binI) (k := ?_)
            | refine TL.q (h := .binS) (k := ?_))
          refine ThnI.done ⟨0, by omega, by simpa using hat, rfl, rfl⟩ (by (repeat (first | exact AllIs.nil | refine AllIs.cons (by (simp only [St.ev, slk, Nat.reduceBEq, cond_true, cond_false]; first | done | rfl)) ?_))) (by (repeat (first | exact Picks.nil | (apply Picks.cons; (repeat (first | exact Pick.here | apply Pick.there))))))
        | succ k =>
          have hgd : decide (((k + 1 : Nat) : Int) > 0) = true := decide_eq_true (by omega)
          obtain ⟨y, hy⟩ : ∃ y, out[k]? = some y := ⟨_, List.getElem?_eq_getElem (by omega)⟩
          have hcy : (out.map MCard.C)[k]? = some y.C := by simp only [List.getElem?_map, hy, Option.map_some]
          have hbl := before_lt c y
          all_goals refine TG.start (i := 6) mixed rfl ?_
          all_goals (first
            | refine TG.q0 0 (ho := rfl) (hv := .yes (h := .move)) (k := ?_)
            | refine TG.lv 0 (ho := rfl) (hv := .move) (k := ?_))
          all_goals (first
            | refine TG.q0 1 (ho := rfl) (hv := .yes (h := .binI)) (k := ?_)
            | refine TG.q0 1 (ho := rfl) (hv := .yes (h := .binS)) (k := ?_)
            | refine TG.lv 1 (ho := rfl) (hv := .binI) (k := ?_)
            | refine TG.lv 1 (ho := rfl) (hv := .binS) (k := ?_))
          all_goals (first
            | refine TG.q0 2 (ho := rfl) (hv := .yes (h := .move)) (k := ?_)
            | refine TG.lv 2 (ho := rfl) (hv := .move) (k := ?_))
          all_goals try (first | refine TG.litT 17 (k := ?_) | refine TG.litF 17 (k := ?_) | refine TG.lit 17 (fun _ => ?_) (fun _ => ?_))
          all_goals (first
            | refine TG.q0 3 (ho := rfl) (hv := .no) (k := ?_)
            | refine TG.q0 3 (ho := rfl) (hv := .yes (h := .fieldAddr)) (k := ?_)
            | refine TG.qFieldEp 3 (ho := rfl) (h := ?_)
            | refine TG.lv 3 (ho := rfl) (hv := .fieldAddr) (k := ?_)
            | refine TG.lv 3 (ho := rfl) (hv := .fieldEp) (k := ?_))
          all_goals (first
            | refine TG.q0 4 (ho := rfl) (hv := .no) (k := ?_)
            | refine TG.qLoadA 4 (ho := rfl) (k := ?_)
            | refine TG.qLoadEpA 4 (ho := rfl) (h := ?_)
            | refine TG.lv 4 (ho := rfl) (hv := .loadA) (k := ?_)
            | refine TG.lv 4 (ho := rfl) (hv := .loadEpA) (k := ?_))
          all_goals (first
            | refine TG.q0 5 (ho := rfl) (hv := .no) (k := ?_)
            | refine TG.q0 5 (ho := rfl) (hv := .yes (h := .move)) (k := ?_)
            | refine TG.lv 5 (ho := rfl) (hv := .move) (k := ?_))
          all_goals (first
            | refine TG.q0 6 (ho := rfl) (hv := .no) (k := ?_)
            | refine TG.q0 6 (ho := rfl) (hv := .yes (h := .move)) (k := ?_)
            | refine TG.lv 6 (ho := rfl) (hv := .move) (k := ?_))
          all_goals (first
            | refine TG.q0 7 (ho := rfl) (hv := .no) (k := ?_)
            | refine TG.q0 7 (ho := rfl) (hv := .yes (h := .sub)) (k := ?_)
            | refine TG.q0 7 (ho := rfl) (hv := .yes (h := .binI)) (k := ?_)
            | refine TG.lv 7 (ho := rfl) (hv := .sub) (k := ?_)
            | refine TG.lv 7 (ho := rfl) (hv := .binI) (k := ?_))
          all_goals (first
            | refine TG.q0 8 (ho := rfl) (hv := .no) (k := ?_)
            | refine TG.qIndexR 8 (ho := rfl) (h := ?_)
            | refine TG.lv 8 (ho := rfl) (hv := .indexR) (k := ?_))
          all_goals (first
            | refine TG.q0 9 (ho := rfl) (hv := .no) (k := ?_)
            | refine TG.q0 9 (ho := rfl) (hv := .yes (h := .fieldAddr)) (k := ?_)
            | refine TG.qFieldEp 9 (ho := rfl) (h := ?_)
            | refine TG.lv 9 (ho := rfl) (hv := .fieldAddr) (k := ?_)
            | refine TG.lv 9 (ho := rfl) (hv := .fieldEp) (k := ?_))
          all_goals (first
            | refine TG.q0 10 (ho := rfl) (hv := .no) (k := ?_)
            | refine TG.qLoadA 10 (ho := rfl) (k := ?_)
            | refine TG.qLoadEpA 10 (ho := rfl) (h := ?_)
            | refine TG.lv 10 (ho := rfl) (hv := .loadA) (k := ?_)
            | refine TG.lv 10 (ho := rfl) (hv := .loadEpA) (k := ?_))
          all_goals (first
            | refine TG.q0 11 (ho := rfl) (hv := .no) (k := ?_)
            | (refine TG.ld 11 (ho := rfl) (hK := .callF (h := ref_Before _ _ _ _)) (k := ?_); rintro _ _ ⟨_, rfl, rfl, rfl⟩; refine ⟨by (repeat (first | exact Held.nil | apply Held.zero | (apply Held.one; (repeat (first | exact Pick.here | apply Pick.there))))), ?_⟩))
          all_goals (first
            | refine TG.q0 12 (ho := rfl) (hv := .yes (h := .pickT)) (k := ?_)
            | refine TG.q0 12 (ho := rfl) (hv := .yes (h := .pickF)) (k := ?_)
            | refine TG.q0 12 (ho := rfl) (hv := .yes (h := .pickB)) (k := ?_)
            | refine TG.lv 12 (ho := rfl) (hv := .pickT) (k := ?_)
            | refine TG.lv 12 (ho := rfl) (hv := .pickF) (k := ?_)
            | refine TG.lv 12 (ho := rfl) (hv := .pickB) (k := ?_))
          all_goals apply TG.fin rfl
          rw [hbl]
          repeat (first
            | with_reducible apply T.seq
            | with_reducible apply T.region
            | with_reducible apply TL.nil
            | with_reducible apply Thn.normal
            | with_reducible apply Thn.ret
            | with_reducible apply Thn.exit
            | with_reducible apply Blk.normal
            | with_reducible apply Blk.ret
            | ((with_reducible refine Blk.exitE ?_ ?_); · rfl)
            | ((with_reducible refine Blk.exitN ?_ ?_); · rfl)
            | with_reducible apply Rnd.ret
            | with_reducible apply Rnd.exit
            | with_reducible apply RndI.ret
            | with_reducible apply RndI.exit
            | with_reducible apply ThnI.ret
            | with_reducible apply ThnI.exit
            | with_reducible apply T.skip
            | with_reducible apply T.block
            | with_reducible apply T.ret
            | with_reducible apply T.exit
            | refine T.condT (h := ?_)
            | refine T.condF (h := ?_)
            | refine TL.pass (k := ?_)
            | refine TL.passN (k := ?_)
            | refine TL.take (k := ?_)
            | refine TL.q (h := .assign) (k := ?_)
            | refine TL.q (h := .move) (k := ?_)
            | refine TL.q (h := .lenR) (k := ?_)
            | refine TL.q (h := .lenS) (k := ?_)
            | refine TL.q (h := .indexR) (k := ?_)
            | refine TL.q (h := .loadA) (k := ?_)
            | refine TL.q (h := .loadEpA) (k := ?_)
            | (refine TL.e (h := .al) (k := ?_); rintro _ _ ⟨_, rfl, rfl⟩)
            | refine TL.u (h := .stA0) (k := ?_)
            | refine TL.u (h := .st) (k := ?_)
            | refine TL.u (h := .stA) (k := ?_)
            | refine TL.u (h := .stEp) (k := ?_)
            | refine TL.u (h := .stEpA) (k := ?_)
            | refine TL.q (h := .sub) (k := ?_)
            | refine TL.q (h := .add) (k := ?_)
            | refine TL.q (h := .catS) (k := ?_)
            | refine TL.q (h := .binI) (k := ?_)
            | refine TL.q (h := .binS) (k := ?_))
          refine T.condD (ht := fun hlt2 => ?_) (hf := fun hlt2 => ?_)
          · skip
            repeat (first
              | with_reducible apply T.seq
              | with_reducible apply T.region
              | with_reducible apply TL.nil
              | with_reducible apply Thn.normal
              | with_reducible apply Thn.ret
              | with_reducible apply Thn.exit
              | with_reducible apply Blk.normal
              | with_reducible apply Blk.ret
              | ((with_reducible refine Blk.exitE ?_ ?_); · rfl)
              | ((with_reducible refine Blk.exitN ?_ ?_); · rfl)
              | with_reducible apply Rnd.ret
              | with_reducible apply Rnd.exit
              | with_reducible apply RndI.ret
              | with_reducible apply RndI.exit
              | with_reducible apply ThnI.ret
              | with_reducible apply ThnI.exit
              | with_reducible apply T.skip
              | with_reducible apply T.block
              | with_reducible apply T.ret
              | with_reducible apply T.exit
              | refine T.condT (h := ?_)
              | refine T.condF (h := ?_)
              | refine TL.pass (k := ?_)
              | refine TL.passN (k := ?_)
              | refine TL.take (k := ?_)
              | refine TL.q (h := .assign) (k := ?_)
              | refine TL.q (h := .move) (k := ?_)
              | refine TL.q (h := .lenR) (k := ?_)
              | refine TL.q (h := .lenS) (k := ?_)
              | refine TL.q (h := .indexR) (k := ?_)
              | refine TL.q (h := .loadA) (k := ?_)
              | refine TL.q (h := .loadEpA) (k := ?_)
              | (refine TL.e (h := .al) (k := ?_); rintro _ _ ⟨_, rfl, rfl⟩)
              | refine TL.u (h := .stA0) (k := ?_)
              | refine TL.u (h := .st) (k := ?_)
              | refine TL.u (h := .stA) (k := ?_)
              | refine TL.u (h := .stEp) (k := ?_)
              | refine TL.u (h := .stEpA) (k := ?_)
              | refine TL.q (h := .sub) (k := ?_)
              | refine TL.q (h := .add) (k := ?_)
              | refine TL.q (h := .catS) (k := ?_)
              | refine TL.q (h := .binI) (k := ?_)
              | refine TL.q (h := .binS) (k := ?_))
            rw [show ((k + 1 : Nat) : Int) - 1 = (k : Int) by omega]
            refine RndI.next (m' := k) (by omega) ⟨k, rfl, by omega, fun z hzm => ?_, rfl, rfl⟩ (by (repeat (first | exact AllIs.nil | refine AllIs.cons (by (simp only [St.ev, slk, Nat.reduceBEq, cond_true, cond_false]; first | done | rfl)) ?_))) (by (repeat (first | exact Picks.nil | (apply Picks.cons; (repeat (first | exact Pick.here | apply Pick.there))))))
            have hd : out.drop k = y :: out.drop (k + 1) := by
              obtain ⟨hkl, rfl⟩ := List.getElem?_eq_some_iff.1 hy
              exact List.drop_eq_getElem_cons hkl
            rw [hd] at hzm
            rcases List.mem_cons.1 hzm with rfl | hzm
            · exact hlt2
            · exact hz z hzm
          · skip
            repeat (first
              | with_reducible apply T.seq
              | with_reducible apply T.region
              | with_reducible apply TL.nil
              | with_reducible apply Thn.normal
              | with_reducible apply Thn.ret
              | with_reducible apply Thn.exit
              | with_reducible apply Blk.normal
              | with_reducible apply Blk.ret
              | ((with_reducible refine Blk.exitE ?_ ?_); · rfl)
              | ((with_reducible refine Blk.exitN ?_ ?_); · rfl)
              | with_reducible apply Rnd.ret
              | with_reducible apply Rnd.exit
              | with_reducible apply RndI.ret
              | with_reducible apply RndI.exit
              | with_reducible apply ThnI.ret
              | with_reducible apply ThnI.exit
              | with_reducible apply T.skip
              | with_reducible apply T.block
              | with_reducible apply T.ret
              | with_reducible apply T.exit
              | refine T.condT (h := ?_)
              | refine T.condF (h := ?_)
              | refine TL.pass (k := ?_)
              | refine TL.passN (k := ?_)
              | refine TL.take (k := ?_)
              | refine TL.q (h := .assign) (k := ?_)
              | refine TL.q (h := .move) (k := ?_)
              | refine TL.q (h := .lenR) (k := ?_)
              | refine TL.q (h := .lenS) (k := ?_)
              | refine TL.q (h := .indexR) (k := ?_)
              | refine TL.q (h := .loadA) (k := ?_)
              | refine TL.q (h := .loadEpA) (k := ?_)
              | (refine TL.e (h := .al) (k := ?_); rintro _ _ ⟨_, rfl, rfl⟩)
              | refine TL.u (h := .stA0) (k := ?_)
              | refine TL.u (h := .st) (k := ?_)
              | refine TL.u (h := .stA) (k := ?_)
              | refine TL.u (h := .stEp) (k := ?_)
              | refine TL.u (h := .stEpA) (k := ?_)
              | refine TL.q (h := .sub) (k := ?_)
              | refine TL.q (h := .add) (k := ?_)
              | refine TL.q (h := .catS) (k := ?_)
              | refine TL.q (h := .binI) (k := ?_)
              | refine TL.q (h := .binS) (k := ?_))
            have htk : out.take (k + 1) = out.take k ++ [y] := by rw [List.take_add_one, hy]; rfl
            have hat := insK_at (a := out.take (k + 1)) hz (fun w hw => by rw [htk, List.getLast?_append] at hw; simp at hw; subst hw; exact hlt2)
            rw [List.take_append_drop] at hat
            refine ThnI.done ⟨k + 1, by omega, hat, rfl, rfl⟩ (by (repeat (first | exact AllIs.nil | refine AllIs.cons (by (simp only [St.ev, slk, Nat.reduceBEq, cond_true, cond_false]; first | done | rfl)) ?_))) (by (repeat (first | exact Picks.nil | (apply Picks.cons; (repeat (first | exact Pick.here | apply Pick.there))))))
      · rintro l' A jg ⟨k, hk, hat, rfl, rfl⟩
        have hcs : (([] : List (List Value)) ++ (out.map MCard.C).take k) ++ [c.C] ++ (out.map MCard.C).drop k = (sortK (l.take (i + 1))).map MCard.C := by
          rw [ht, hsn, hat]
          simp [List.map_take, List.map_drop]
        have hom2 : (([] : List (List Value)) ++ (out.map MCard.C).take k).length = k := by simp; omega
        have hom3 : (([] : List (List Value)) ++ (out.map MCard.C).take k ++ [c.C]).length = k + 1 := by simp; omega
        repeat (first
          | with_reducible apply T.seq
          | with_reducible apply T.region
          | with_reducible apply TL.nil
          | with_reducible apply Thn.normal
          | with_reducible apply Thn.ret
          | with_reducible apply Thn.exit
          | with_reducible apply Blk.normal
          | with_reducible apply Blk.ret
          | ((with_reducible refine Blk.exitE ?_ ?_); · rfl)
          | ((with_reducible refine Blk.exitN ?_ ?_); · rfl)
          | with_reducible apply Rnd.ret
          | with_reducible apply Rnd.exit
          | with_reducible apply RndI.ret
          | with_reducible apply RndI.exit
          | with_reducible apply ThnI.ret
          | with_reducible apply ThnI.exit
          | with_reducible apply T.skip
          | with_reducible apply T.block
          | with_reducible apply T.ret
          | with_reducible apply T.exit
          | refine T.condT (h := ?_)
          | refine T.condF (h := ?_)
          | refine TL.pass (k := ?_)
          | refine TL.passN (k := ?_)
          | refine TL.take (k := ?_)
          | refine TL.q (h := .assign) (k := ?_)
          | refine TL.q (h := .move) (k := ?_)
          | refine TL.q (h := .lenR) (k := ?_)
          | refine TL.q (h := .lenS) (k := ?_)
          | refine TL.q (h := .indexR) (k := ?_)
          | refine TL.q (h := .loadA) (k := ?_)
          | refine TL.q (h := .loadEpA) (k := ?_)
          | (refine TL.e (h := .al) (k := ?_); rintro _ _ ⟨_, rfl, rfl⟩)
          | refine TL.u (h := .stA0) (k := ?_)
          | refine TL.u (h := .st) (k := ?_)
          | refine TL.u (h := .stA) (k := ?_)
          | refine TL.u (h := .stEp) (k := ?_)
          | refine TL.u (h := .stEpA) (k := ?_)
          | refine TL.q (h := .sub) (k := ?_)
          | refine TL.q (h := .add) (k := ?_)
          | refine TL.q (h := .catS) (k := ?_)
          | refine TL.q (h := .binI) (k := ?_)
          | refine TL.q (h := .binS) (k := ?_))
        all_goals refine TG.start (i := 8) mixed rfl ?_
        repeat' (first
          | (refine TG.chk 1 (k := ?_); first | refine TG.q0 1 (ho := rfl) (hv := .yes (h := .move)) (k := ?_))
          | (refine TG.chk 2 (k := ?_); first | refine TG.q0 2 (ho := rfl) (hv := .yes (h := .move)) (k := ?_))
          | (refine TG.chk 3 (k := ?_); first | refine TG.qSlH 3 (ho := rfl) (h := ?_))
          | (refine TG.chk 5 (k := ?_); first | refine TG.qLoadA 5 (ho := rfl) (k := ?_) | refine TG.qLoadEpA 5 (ho := rfl) (h := ?_))
          | (refine TG.chk 8 (k := ?_); first | refine TG.q0 8 (ho := rfl) (hv := .yes (h := .move)) (k := ?_))
          | (refine TG.chk 9 (k := ?_); first | refine TG.q0 9 (ho := rfl) (hv := .yes (h := .move)) (k := ?_))
          | (refine TG.chk 10 (k := ?_); first | refine TG.qSlL 10 (ho := rfl) (h := ?_))
          | (refine TG.chk 12 (k := ?_); first | refine TG.q0 12 (ho := rfl) (hv := .yes (h := .assign)) (k := ?_))
          | (refine Loud.ld 0 (ho := rfl) (hK := .ofE (h := .bs)) (k := ?_); rintro _ _ ⟨_, rfl, rfl⟩; refine ⟨by (repeat (first | exact Held.nil | apply Held.zero | (apply Held.one; (repeat (first | exact Pick.here | apply Pick.there))))), ?_⟩)
          | (refine Loud.ld 4 (ho := rfl) (hK := .ofE (h := .appSubH)) (k := ?_); rintro _ _ ⟨_, rfl, rfl⟩; refine ⟨by (repeat (first | exact Held.nil | apply Held.zero | (apply Held.one; (repeat (first | exact Pick.here | apply Pick.there))))), ?_⟩)
          | (refine Loud.ld 4 (ho := rfl) (hK := .ofE (h := .appSubL)) (k := ?_); rintro _ _ ⟨_, rfl, rfl⟩; refine ⟨by (repeat (first | exact Held.nil | apply Held.zero | (apply Held.one; (repeat (first | exact Pick.here | apply Pick.there))))), ?_⟩)
          | (refine Loud.ld 4 (ho := rfl) (hK := .ofE (h := .app)) (k := ?_); rintro _ _ ⟨_, rfl, rfl⟩; refine ⟨by (repeat (first | exact Held.nil | apply Held.zero | (apply Held.one; (repeat (first | exact Pick.here | apply Pick.there))))), ?_⟩)
          | (refine Loud.ld 4 (ho := rfl) (hK := .ofE (h := .appS)) (k := ?_); rintro _ _ ⟨_, rfl, rfl⟩; refine ⟨by (repeat (first | exact Held.nil | apply Held.zero | (apply Held.one; (repeat (first | exact Pick.here | apply Pick.there))))), ?_⟩)
          | (refine Loud.ld 6 (ho := rfl) (hK := .ofE (h := .bs)) (k := ?_); rintro _ _ ⟨_, rfl, rfl⟩; refine ⟨by (repeat (first | exact Held.nil | apply Held.zero | (apply Held.one; (repeat (first | exact Pick.here | apply Pick.there))))), ?_⟩)
          | (refine Loud.ld 7 (ho := rfl) (hK := .ofE (h := .appSubH)) (k := ?_); rintro _ _ ⟨_, rfl, rfl⟩; refine ⟨by (repeat (first | exact Held.nil | apply Held.zero | (apply Held.one; (repeat (first | exact Pick.here | apply Pick.there))))), ?_⟩)
          | (refine Loud.ld 7 (ho := rfl) (hK := .ofE (h := .appSubL)) (k := ?_); rintro _ _ ⟨_, rfl, rfl⟩; refine ⟨by (repeat (first | exact Held.nil | apply Held.zero | (apply Held.one; (repeat (first | exact Pick.here | apply Pick.there))))), ?_⟩)
          | (refine Loud.ld 7 (ho := rfl) (hK := .ofE (h := .app)) (k := ?_); rintro _ _ ⟨_, rfl, rfl⟩; refine ⟨by (repeat (first | exact Held.nil | apply Held.zero | (apply Held.one; (repeat (first | exact Pick.here | apply Pick.there))))), ?_⟩)
          | (refine Loud.ld 7 (ho := rfl) (hK := .ofE (h := .appS)) (k := ?_); rintro _ _ ⟨_, rfl, rfl⟩; refine ⟨by (repeat (first | exact Held.nil | apply Held.zero | (apply Held.one; (repeat (first | exact Pick.here | apply Pick.there))))), ?_⟩)
          | (refine Loud.ld 11 (ho := rfl) (hK := .ofE (h := .appSubH)) (k := ?_); rintro _ _ ⟨_, rfl, rfl⟩; refine ⟨by (repeat (first | exact Held.nil | apply Held.zero | (apply Held.one; (repeat (first | exact Pick.here | apply Pick.there))))), ?_⟩)
          | (refine Loud.ld 11 (ho := rfl) (hK := .ofE (h := .appSubL)) (k := ?_); rintro _ _ ⟨_, rfl, rfl⟩; refine ⟨by (repeat (first | exact Held.nil | apply Held.zero | (apply Held.one; (repeat (first | exact Pick.here | apply Pick.there))))), ?_⟩)
          | (refine Loud.ld 11 (ho := rfl) (hK := .ofE (h := .app)) (k := ?_); rintro _ _ ⟨_, rfl, rfl⟩; refine ⟨by (repeat (first | exact Held.nil | apply Held.zero | (apply Held.one; (repeat (first | exact Pick.here | apply Pick.there))))), ?_⟩)
          | (refine Loud.ld 11 (ho := rfl) (hK := .ofE (h := .appS)) (k := ?_); rintro _ _ ⟨_, rfl, rfl⟩; refine ⟨by (repeat (first | exact Held.nil | apply Held.zero | (apply Held.one; (repeat (first | exact Pick.here | apply Pick.there))))), ?_⟩)
          | (refine TG.chk 0 (k := ?_); first | (refine TG.ld 0 (ho := rfl) (hK := .ofE (h := .bs)) (k := ?_); rintro _ _ ⟨_, rfl, rfl⟩; refine ⟨by (repeat (first | exact Held.nil | apply Held.zero | (apply Held.one; (repeat (first | exact Pick.here | apply Pick.there))))), ?_⟩))
          | (refine TG.chk 1 (k := ?_); first | refine TG.lv 1 (ho := rfl) (hv := .move) (k := ?_))
          | (refine TG.chk 2 (k := ?_); first | refine TG.lv 2 (ho := rfl) (hv := .move) (k := ?_))
          | (refine TG.chk 3 (k := ?_); first | refine TG.lv 3 (ho := rfl) (hv := .qsH) (k := ?_))
          | (refine TG.chk 4 (k := ?_); first | (refine TG.ld 4 (ho := rfl) (hK := .ofE (h := .appSubH)) (k := ?_); rintro _ _ ⟨_, rfl, rfl⟩; refine ⟨by (repeat (first | exact Held.nil | apply Held.zero | (apply Held.one; (repeat (first | exact Pick.here | apply Pick.there))))), ?_⟩) | (refine TG.ld 4 (ho := rfl) (hK := .ofE (h := .appSubL)) (k := ?_); rintro _ _ ⟨_, rfl, rfl⟩; refine ⟨by (repeat (first | exact Held.nil | apply Held.zero | (apply Held.one; (repeat (first | exact Pick.here | apply Pick.there))))), ?_⟩) | (refine TG.ld 4 (ho := rfl) (hK := .ofE (h := .app)) (k := ?_); rintro _ _ ⟨_, rfl, rfl⟩; refine ⟨by (repeat (first | exact Held.nil | apply Held.zero | (apply Held.one; (repeat (first | exact Pick.here | apply Pick.there))))), ?_⟩) | (refine TG.ld 4 (ho := rfl) (hK := .ofE (h := .appS)) (k := ?_); rintro _ _ ⟨_, rfl, rfl⟩; refine ⟨by (repeat (first | exact Held.nil | apply Held.zero | (apply Held.one; (repeat (first | exact Pick.here | apply Pick.there))))), ?_⟩))
          | (refine TG.chk 5 (k := ?_); first | refine TG.lv 5 (ho := rfl) (hv := .loadA) (k := ?_) | refine TG.lv 5 (ho := rfl) (hv := .loadEpA) (k := ?_))
          | (refine TG.chk 6 (k := ?_); first | (refine TG.ld 6 (ho := rfl) (hK := .ofE (h := .bs)) (k := ?_); rintro _ _ ⟨_, rfl, rfl⟩; refine ⟨by (repeat (first | exact Held.nil | apply Held.zero | (apply Held.one; (repeat (first | exact Pick.here | apply Pick.there))))), ?_⟩))
          | (refine TG.chk 7 (k := ?_); first | (refine TG.ld 7 (ho := rfl) (hK := .ofE (h := .appSubH)) (k := ?_); rintro _ _ ⟨_, rfl, rfl⟩; refine ⟨by (repeat (first | exact Held.nil | apply Held.zero | (apply Held.one; (repeat (first | exact Pick.here | apply Pick.there))))), ?_⟩) | (refine TG.ld 7 (ho := rfl) (hK := .ofE (h := .appSubL)) (k := ?_); rintro _ _ ⟨_, rfl, rfl⟩; refine ⟨by (repeat (first | exact Held.nil | apply Held.zero | (apply Held.one; (repeat (first | exact Pick.here | apply Pick.there))))), ?_⟩) | (refine TG.ld 7 (ho := rfl) (hK := .ofE (h := .app)) (k := ?_); rintro _ _ ⟨_, rfl, rfl⟩; refine ⟨by (repeat (first | exact Held.nil | apply Held.zero | (apply Held.one; (repeat (first | exact Pick.here | apply Pick.there))))), ?_⟩) | (refine TG.ld 7 (ho := rfl) (hK := .ofE (h := .appS)) (k := ?_); rintro _ _ ⟨_, rfl, rfl⟩; refine ⟨by (repeat (first | exact Held.nil | apply Held.zero | (apply Held.one; (repeat (first | exact Pick.here | apply Pick.there))))), ?_⟩))
          | (refine TG.chk 8 (k := ?_); first | refine TG.lv 8 (ho := rfl) (hv := .move) (k := ?_))
          | (refine TG.chk 9 (k := ?_); first | refine TG.lv 9 (ho := rfl) (hv := .move) (k := ?_))
          | (refine TG.chk 10 (k := ?_); first | refine TG.lv 10 (ho := rfl) (hv := .qsL) (k := ?_))
          | (refine TG.chk 11 (k := ?_); first | (refine TG.ld 11 (ho := rfl) (hK := .ofE (h := .appSubH)) (k := ?_); rintro _ _ ⟨_, rfl, rfl⟩; refine ⟨by (repeat (first | exact Held.nil | apply Held.zero | (apply Held.one; (repeat (first | exact Pick.here | apply Pick.there))))), ?_⟩) | (refine TG.ld 11 (ho := rfl) (hK := .ofE (h := .appSubL)) (k := ?_); rintro _ _ ⟨_, rfl, rfl⟩; refine ⟨by (repeat (first | exact Held.nil | apply Held.zero | (apply Held.one; (repeat (first | exact Pick.here | apply Pick.there))))), ?_⟩) | (refine TG.ld 11 (ho := rfl) (hK := .ofE (h := .app)) (k := ?_); rintro _ _ ⟨_, rfl, rfl⟩; refine ⟨by (repeat (first | exact Held.nil | apply Held.zero | (apply Held.one; (repeat (first | exact Pick.here | apply Pick.there))))), ?_⟩) | (refine TG.ld 11 (ho := rfl) (hK := .ofE (h := .appS)) (k := ?_); rintro _ _ ⟨_, rfl, rfl⟩; refine ⟨by (repeat (first | exact Held.nil | apply Held.zero | (apply Held.one; (repeat (first | exact Pick.here | apply Pick.there))))), ?_⟩))
          | (refine TG.chk 12 (k := ?_); first | refine TG.lv 12 (ho := rfl) (hv := .assign) (k := ?_))
          | refine TG.any [0, 6] rfl (TG.fc ?_ (TG.fc ?_ TG.fn))
          | refine TG.any [4, 6] rfl (TG.fc ?_ (TG.fc ?_ TG.fn))
          | apply TG.fin rfl)
        all_goals (repeat (first
          | with_reducible apply T.seq
          | with_reducible apply T.region
          | with_reducible apply TL.nil
          | with_reducible apply Thn.normal
          | with_reducible apply Thn.ret
          | with_reducible apply Thn.exit
          | with_reducible apply Blk.normal
          | with_reducible apply Blk.ret
          | ((with_reducible refine Blk.exitE ?_ ?_); · rfl)
          | ((with_reducible refine Blk.exitN ?_ ?_); · rfl)
          | with_reducible apply Rnd.ret
          | with_reducible apply Rnd.exit
          | with_reducible apply RndI.ret
          | with_reducible apply RndI.exit
          | with_reducible apply ThnI.ret
          | with_reducible apply ThnI.exit
          | with_reducible apply T.skip
          | with_reducible apply T.block
          | with_reducible apply T.ret
          | with_reducible apply T.exit
          | refine T.condT (h := ?_)
          | refine T.condF (h := ?_)
          | refine TL.pass (k := ?_)
          | refine TL.passN (k := ?_)
          | refine TL.take (k := ?_)
          | refine TL.q (h := .assign) (k := ?_)
          | refine TL.q (h := .move) (k := ?_)
          | refine TL.q (h := .lenR) (k := ?_)
          | refine TL.q (h := .lenS) (k := ?_)
          | refine TL.q (h := .indexR) (k := ?_)
          | refine TL.q (h := .loadA) (k := ?_)
          | refine TL.q (h := .loadEpA) (k := ?_)
          | (refine TL.e (h := .al) (k := ?_); rintro _ _ ⟨_, rfl, rfl⟩)
          | refine TL.u (h := .stA0) (k := ?_)
          | refine TL.u (h := .st) (k := ?_)
          | refine TL.u (h := .stA) (k := ?_)
          | refine TL.u (h := .stEp) (k := ?_)
          | refine TL.u (h := .stEpA) (k := ?_)
          | refine TL.q (h := .sub) (k := ?_)
          | refine TL.q (h := .add) (k := ?_)
          | refine TL.q (h := .catS) (k := ?_)
          | refine TL.q (h := .binI) (k := ?_)
          | refine TL.q (h := .binS) (k := ?_)))
        all_goals rw [hcs]
        all_goals (refine RndI.next (m' := l.length - (i + 1)) (by omega) ⟨i + 1, _, rfl, by omega, rfl, rfl⟩ (by (repeat (first | exact AllIs.nil | refine AllIs.cons (by (simp only [St.ev, slk, Nat.reduceBEq, cond_true, cond_false]; first | done | rfl)) ?_))) (by (repeat (first | exact Picks.nil | (apply Picks.cons; (repeat (first | exact Pick.here | apply Pick.there)))))))
    · have e : l.take i = l := List.take_of_length_le (by omega)
      rw [e]
      repeat (first
        | with_reducible apply T.seq
        | with_reducible apply T.region
        | with_reducible apply TL.nil
        | with_reducible apply Thn.normal
        | with_reducible apply Thn.ret
        | with_reducible apply Thn.exit
        | with_reducible apply Blk.normal
        | with_reducible apply Blk.ret
        | ((with_reducible refine Blk.exitE ?_ ?_); · rfl)
        | ((with_reducible refine Blk.exitN ?_ ?_); · rfl)
        | with_reducible apply Rnd.ret
        | with_reducible apply Rnd.exit
        | with_reducible apply RndI.ret
        | with_reducible apply RndI.exit
        | with_reducible apply ThnI.ret
        | with_reducible apply ThnI.exit
        | with_reducible apply T.skip
        | with_reducible apply T.block
        | with_reducible apply T.ret
        | with_reducible apply T.exit
        | refine T.condT (h := ?_)
        | refine T.condF (h := ?_)
        | refine TL.pass (k := ?_)
        | refine TL.passN (k := ?_)
        | refine TL.take (k := ?_)
        | refine TL.q (h := .assign) (k := ?_)
        | refine TL.q (h := .move) (k := ?_)
        | refine TL.q (h := .lenR) (k := ?_)
        | refine TL.q (h := .lenS) (k := ?_)
        | refine TL.q (h := .indexR) (k := ?_)
        | refine TL.q (h := .loadA) (k := ?_)
        | refine TL.q (h := .loadEpA) (k := ?_)
        | (refine TL.e (h := .al) (k := ?_); rintro _ _ ⟨_, rfl, rfl⟩)
        | refine TL.u (h := .stA0) (k := ?_)
        | refine TL.u (h := .st) (k := ?_)
        | refine TL.u (h := .stA) (k := ?_)
        | refine TL.u (h := .stEp) (k := ?_)
        | refine TL.u (h := .stEpA) (k := ?_)
        | refine TL.q (h := .sub) (k := ?_)
        | refine TL.q (h := .add) (k := ?_)
        | refine TL.q (h := .catS) (k := ?_)
        | refine TL.q (h := .binI) (k := ?_)
        | refine TL.q (h := .binS) (k := ?_))
      refine ThnI.done ⟨q, rfl, rfl⟩ (by (repeat (first | exact AllIs.nil | refine AllIs.cons (by (simp only [St.ev, slk, Nat.reduceBEq, cond_true, cond_false]; first | done | rfl)) ?_))) (by (repeat (first | exact Picks.nil | (apply Picks.cons; (repeat (first | exact Pick.here | apply Pick.there))))))
  · rintro l' A j ⟨q, rfl, rfl⟩
    repeat (first
      | with_reducible apply T.seq
      | with_reducible apply T.region
      | with_reducible apply TL.nil
      | with_reducible apply Thn.normal
      | with_reducible apply Thn.ret
      | with_reducible apply Thn.exit
      | with_reducible apply Blk.normal
      | with_reducible apply Blk.ret
      | ((with_reducible refine Blk.exitE ?_ ?_); · rfl)
      | ((with_reducible refine Blk.exitN ?_ ?_); · rfl)
      | with_reducible apply Rnd.ret
      | with_reducible apply Rnd.exit
      | with_reducible apply RndI.ret
      | with_reducible apply RndI.exit
      | with_reducible apply ThnI.ret
      | with_reducible apply ThnI.exit
      | with_reducible apply T.skip
      | with_reducible apply T.block
      | with_reducible apply T.ret
      | with_reducible apply T.exit
      | refine T.condT (h := ?_)
      | refine T.condF (h := ?_)
      | refine TL.pass (k := ?_)
      | refine TL.passN (k := ?_)
      | refine TL.take (k := ?_)
      | refine TL.q (h := .assign) (k := ?_)
      | refine TL.q (h := .move) (k := ?_)
      | refine TL.q (h := .lenR) (k := ?_)
      | refine TL.q (h := .lenS) (k := ?_)
      | refine TL.q (h := .indexR) (k := ?_)
      | refine TL.q (h := .loadA) (k := ?_)
      | refine TL.q (h := .loadEpA) (k := ?_)
      | (refine TL.e (h := .al) (k := ?_); rintro _ _ ⟨_, rfl, rfl⟩)
      | refine TL.u (h := .stA0) (k := ?_)
      | refine TL.u (h := .st) (k := ?_)
      | refine TL.u (h := .stA) (k := ?_)
      | refine TL.u (h := .stEp) (k := ?_)
      | refine TL.u (h := .stEpA) (k := ?_)
      | refine TL.q (h := .sub) (k := ?_)
      | refine TL.q (h := .add) (k := ?_)
      | refine TL.q (h := .catS) (k := ?_)
      | refine TL.q (h := .binI) (k := ?_)
      | refine TL.q (h := .binS) (k := ?_))
    (first | refine RetQ.retI (L := [row m 58 9 x.v (l.map MCard.C), row true 58 9 q.v ((sortK l).map MCard.C)]) (ResIs.r1 Try.results64 (RV.tmp)) (by (repeat (first | exact Picks.nil | (apply Picks.cons; (repeat (first | exact Pick.here | apply Pick.there)))))) ?_ | refine RetQ.norI (L := [row m 58 9 x.v (l.map MCard.C), row true 58 9 q.v ((sortK l).map MCard.C)]) (ResIs.r1 Try.results64 (RV.tmp)) (by (repeat (first | exact Picks.nil | (apply Picks.cons; (repeat (first | exact Pick.here | apply Pick.there)))))) ?_)
    exact ⟨q, rfl, rfl⟩
end Go.Proofs.Ytpbomaelkpjbbaa

