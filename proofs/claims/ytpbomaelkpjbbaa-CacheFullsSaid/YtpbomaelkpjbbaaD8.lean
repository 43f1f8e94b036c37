import Derived.Test.YtpbomaelkpjbbaaD7
namespace Go.Proofs.Ytpbomaelkpjbbaa
open Go.Fw
attribute [local irreducible] T TL TG Thn ThnI Blk Rnd RndI RetQ OpV OpE OpU OpK Ctr row cel ep
theorem ceqs_card (a b : MCard) : ceqs a.C b.C = decide (a = b) := by
  rw [Bool.eq_iff_iff, decide_eq_true_eq]
  obtain ⟨a1, a2, a3, a4, a5, a6, a7, a8, a9⟩ := a
  obtain ⟨b1, b2, b3, b4, b5, b6, b7, b8, b9⟩ := b
  simp only [ceqs, ceq, Bool.and_true, Bool.and_eq_true, bb_eq, beq_iff_eq, MCard.mk.injEq]
set_option maxHeartbeats 1000000 in
theorem ref_Same (m m2 : Bool) (x y : Sl) (l k : List MCard) (hl : l.length ≤ 1000000) : Ctr Try.prog 24 #[x.v, y.v] [row m 58 9 x.v (l.map MCard.C), row m2 58 9 y.v (k.map MCard.C)]
    fun v L => v = .bool (decide (l = k)) ∧ L = [row m 58 9 x.v (l.map MCard.C), row m2 58 9 y.v (k.map MCard.C)] := by
  have hlm : (l.map MCard.C).length = l.length := by simp
  have hkm : (k.map MCard.C).length = k.length := by simp
  refine Ctr.of (n := 26) (args := [_, _]) Try.func24 rfl rfl rfl fun F => ?_
  simp only [List.zipIdx_cons, List.zipIdx_nil, List.map_cons, List.map_nil, Nat.zero_add, Nat.reduceAdd, List.cons_append, List.nil_append]
  repeat (first
    | with_reducible apply T.seq
    | with_reducible apply T.region
    | with_reducible apply TL.nil
    | with_reducible apply Thn.normal
    | with_reducible apply Thn.ret
    | with_reducible apply Thn.exit
    | with_reducible apply Blk.normal
    | with_reducible apply Blk.ret
    | ((with_reducible refine Blk.exitE ?_ ?_); · rfl)
    | ((with_reducible refine Blk.exitN ?_ ?_); · rfl)
    | with_reducible apply Rnd.ret
    | with_reducible apply Rnd.exit
    | with_reducible apply RndI.ret
    | with_reducible apply RndI.exit
    | with_reducible apply ThnI.ret
    | with_reducible apply ThnI.exit
    | with_reducible apply T.skip
    | with_reducible apply T.block
    | with_reducible apply T.ret
    | with_reducible apply T.exit
    | refine T.condT (h := ?_)
    | refine T.condF (h := ?_)
    | refine TL.pass (k := ?_)
    | refine TL.passN (k := ?_)
    | refine TL.take (k := ?_)
    | refine TL.q (h := .assign) (k := ?_)
    | refine TL.q (h := .move) (k := ?_)
    | refine TL.q (h := .lenR) (k := ?_)
    | refine TL.q (h := .lenS) (k := ?_)
    | refine TL.q (h := .add) (k := ?_)
    | refine TL.q (h := .catS) (k := ?_)
    | refine TL.q (h := .binI) (k := ?_)
    | refine TL.q (h := .binS) (k := ?_))
  refine T.cond (by (simp only [St.ev, slk, Nat.reduceBEq, cond_true, cond_false]; first | done | rfl)) (fun h1 => ?_) (fun h1 => ?_)
  · have hne : ¬ l = k := by rintro rfl; simp at h1
    repeat (first
      | with_reducible apply T.seq
      | with_reducible apply T.region
      | with_reducible apply TL.nil
      | with_reducible apply Thn.normal
      | with_reducible apply Thn.ret
      | with_reducible apply Thn.exit
      | with_reducible apply Blk.normal
      | with_reducible apply Blk.ret
      | ((with_reducible refine Blk.exitE ?_ ?_); · rfl)
      | ((with_reducible refine Blk.exitN ?_ ?_); · rfl)
      | with_reducible apply Rnd.ret
      | with_reducible apply Rnd.exit
      | with_reducible apply RndI.ret
      | with_reducible apply RndI.exit
      | with_reducible apply ThnI.ret
      | with_reducible apply ThnI.exit
      | with_reducible apply T.skip
      | with_reducible apply T.block
      | with_reducible apply T.ret
      | with_reducible apply T.exit
      | refine T.condT (h := ?_)
      | refine T.condF (h := ?_)
      | refine TL.pass (k := ?_)
      | refine TL.passN (k := ?_)
      | refine TL.take (k := ?_)
      | refine TL.q (h := .assign) (k := ?_)
      | refine TL.q (h := .move) (k := ?_)
      | refine TL.q (h := .lenR) (k := ?_)
      | refine TL.q (h := .lenS) (k := ?_)
      | refine TL.q (h := .add) (k := ?_)
      | refine TL.q (h := .catS) (k := ?_)
      | refine TL.q (h := .binI) (k := ?_)
      | refine TL.q (h := .binS) (k := ?_))
    (first | refine RetQ.retI (L := [row m 58 9 x.v (l.map MCard.C), row m2 58 9 y.v (k.map MCard.C)]) (ResIs.r1 Try.results24 (RV.tmp)) (by (repeat (first | exact Picks.nil | (apply Picks.cons; (repeat (first | exact Pick.here | apply Pick.there)))))) ?_ | refine RetQ.norI (L := [row m 58 9 x.v (l.map MCard.C), row m2 58 9 y.v (k.map MCard.C)]) (ResIs.r1 Try.results24 (RV.tmp)) (by (repeat (first | exact Picks.nil | (apply Picks.cons; (repeat (first | exact Pick.here | apply Pick.there)))))) ?_)
    exact ⟨by simp [hne], rfl⟩
  · have hlk : l.length = k.length := by simp at h1; omega
    repeat (first
      | with_reducible apply T.seq
      | with_reducible apply T.region
      | with_reducible apply TL.nil
      | with_reducible apply Thn.normal
      | with_reducible apply Thn.ret
      | with_reducible apply Thn.exit
      | with_reducible apply Blk.normal
      | with_reducible apply Blk.ret
      | ((with_reducible refine Blk.exitE ?_ ?_); · rfl)
      | ((with_reducible refine Blk.exitN ?_ ?_); · rfl)
      | with_reducible apply Rnd.ret
      | with_reducible apply Rnd.exit
      | with_reducible apply RndI.ret
      | with_reducible apply RndI.exit
      | with_reducible apply ThnI.ret
      | with_reducible apply ThnI.exit
      | with_reducible apply T.skip
      | with_reducible apply T.block
      | with_reducible apply T.ret
      | with_reducible apply T.exit
      | refine T.condT (h := ?_)
      | refine T.condF (h := ?_)
      | refine TL.pass (k := ?_)
      | refine TL.passN (k := ?_)
      | refine TL.take (k := ?_)
      | refine TL.q (h := .assign) (k := ?_)
      | refine TL.q (h := .move) (k := ?_)
      | refine TL.q (h := .lenR) (k := ?_)
      | refine TL.q (h := .lenS) (k := ?_)
      | refine TL.q (h := .add) (k := ?_)
      | refine TL.q (h := .catS) (k := ?_)
      | refine TL.q (h := .binI) (k := ?_)
      | refine TL.q (h := .binS) (k := ?_))
    refine T.loopI (fun q' l' A => ∃ i : Nat, q' = l.length - i ∧ i ≤ l.length ∧ l.take i = k.take i ∧ l' = [(13, .int .i64 (i : Int)), (12, .int .i64 ((l.map MCard.C).length : Int)), (0, x.v), (1, y.v)] ∧ A = [row m 58 9 x.v (l.map MCard.C), row m2 58 9 y.v (k.map MCard.C), F])
      ⟨0, rfl, by omega, rfl, rfl, rfl⟩ (by (repeat (first | exact AllIs.nil | refine AllIs.cons (by (simp only [St.ev, slk, Nat.reduceBEq, cond_true, cond_false]; first | done | rfl)) ?_))) (by (repeat (first | exact Picks.nil | (apply Picks.cons; (repeat (first | exact Pick.here | apply Pick.there)))))) ?_
    rintro q' l' A j ⟨i, rfl, hi, ht, rfl, rfl⟩
    repeat (first
      | with_reducible apply T.seq
      | with_reducible apply T.region
      | with_reducible apply TL.nil
      | with_reducible apply Thn.normal
      | with_reducible apply Thn.ret
      | with_reducible apply Thn.exit
      | with_reducible apply Blk.normal
      | with_reducible apply Blk.ret
      | ((with_reducible refine Blk.exitE ?_ ?_); · rfl)
      | ((with_reducible refine Blk.exitN ?_ ?_); · rfl)
      | with_reducible apply Rnd.ret
      | with_reducible apply Rnd.exit
      | with_reducible apply RndI.ret
      | with_reducible apply RndI.exit
      | with_reducible apply ThnI.ret
      | with_reducible apply ThnI.exit
      | with_reducible apply T.skip
      | with_reducible apply T.block
      | with_reducible apply T.ret
      | with_reducible apply T.exit
      | refine T.condT (h := ?_)
      | refine T.condF (h := ?_)
      | refine TL.pass (k := ?_)
      | refine TL.passN (k := ?_)
      | refine TL.take (k := ?_)
      | refine TL.q (h := .assign) (k := ?_)
      | refine TL.q (h := .move) (k := ?_)
      | refine TL.q (h := .lenR) (k := ?_)
      | refine TL.q (h := .lenS) (k := ?_)
      | refine TL.q (h := .add) (k := ?_)
      | refine TL.q (h := .catS) (k := ?_)
      | refine TL.q (h := .binI) (k := ?_)
      | refine TL.q (h := .binS) (k := ?_))
    refine T.condD (ht := fun hlt => ?_) (hf := fun hlt => ?_)
    · obtain ⟨c, hc, hcc, hct, _⟩ := card_at (l := l) (i := i) (by omega)
      obtain ⟨d, hd, hdc, hdt, _⟩ := card_at (l := k) (i := i) (by omega)
      repeat (first
        | with_reducible apply T.seq
        | with_reducible apply T.region
        | with_reducible apply TL.nil
        | with_reducible apply Thn.normal
        | with_reducible apply Thn.ret
        | with_reducible apply Thn.exit
        | with_reducible apply Blk.normal
        | with_reducible apply Blk.ret
        | ((with_reducible refine Blk.exitE ?_ ?_); · rfl)
        | ((with_reducible refine Blk.exitN ?_ ?_); · rfl)
        | with_reducible apply Rnd.ret
        | with_reducible apply Rnd.exit
        | with_reducible apply RndI.ret
        | with_reducible apply RndI.exit
        | with_reducible apply ThnI.ret
        | with_reducible apply ThnI.exit
        | with_reducible apply T.skip
        | with_reducible apply T.block
        | with_reducible apply T.ret
        | with_reducible apply T.exit
        | refine T.condT (h := ?_)
        | refine T.condF (h := ?_)
        | refine TL.pass (k := ?_)
        | refine TL.passN (k := ?_)
        | refine TL.take (k := ?_)
        | refine TL.q (h := .assign) (k := ?_)
        | refine TL.q (h := .move) (k := ?_)
        | refine TL.q (h := .lenR) (k := ?_)
        | refine TL.q (h := .lenS) (k := ?_)
        | refine TL.q (h := .add) (k := ?_)
        | refine TL.q (h := .catS) (k := ?_)
        | refine TL.q (h := .binI) (k := ?_)
        | refine TL.q (h := .binS) (k := ?_))
      all_goals refine TG.start (i := 6) mixed rfl ?_
      all_goals (first
        | refine TG.q0 0 (ho := rfl) (hv := .yes (h := .move)) (k := ?_)
        | refine TG.lv 0 (ho := rfl) (hv := .move) (k := ?_))
      all_goals (first
        | refine TG.q0 1 (ho := rfl) (hv := .yes (h := .move)) (k := ?_)
        | refine TG.lv 1 (ho := rfl) (hv := .move) (k := ?_))
      all_goals (first
        | refine TG.qIndexR 2 (ho := rfl) (h := ?_)
        | refine TG.lv 2 (ho := rfl) (hv := .indexR) (k := ?_))
      all_goals (first
        | refine TG.qLoadA 3 (ho := rfl) (k := ?_)
        | refine TG.qLoadEpA 3 (ho := rfl) (h := ?_)
        | refine TG.lv 3 (ho := rfl) (hv := .loadA) (k := ?_)
        | refine TG.lv 3 (ho := rfl) (hv := .loadEpA) (k := ?_))
      all_goals (first
        | refine TG.q0 4 (ho := rfl) (hv := .yes (h := .move)) (k := ?_)
        | refine TG.lv 4 (ho := rfl) (hv := .move) (k := ?_))
      all_goals (first
        | refine TG.q0 5 (ho := rfl) (hv := .yes (h := .move)) (k := ?_)
        | refine TG.lv 5 (ho := rfl) (hv := .move) (k := ?_))
      all_goals (first
        | refine TG.qIndexR 6 (ho := rfl) (h := ?_)
        | refine TG.lv 6 (ho := rfl) (hv := .indexR) (k := ?_))
      all_goals (first
        | refine TG.qLoadA 7 (ho := rfl) (k := ?_)
        | refine TG.qLoadEpA 7 (ho := rfl) (h := ?_)
        | refine TG.lv 7 (ho := rfl) (hv := .loadA) (k := ?_)
        | refine TG.lv 7 (ho := rfl) (hv := .loadEpA) (k := ?_))
      all_goals (first
        | refine TG.q0 8 (ho := rfl) (hv := .yes (h := .neA)) (k := ?_)
        | refine TG.lv 8 (ho := rfl) (hv := .neA) (k := ?_))
      all_goals apply TG.fin rfl
      rw [ceqs_card]
      repeat (first
        | with_reducible apply T.seq
        | with_reducible apply T.region
        | with_reducible apply TL.nil
        | with_reducible apply Thn.normal
        | with_reducible apply Thn.ret
        | with_reducible apply Thn.exit
        | with_reducible apply Blk.normal
        | with_reducible apply Blk.ret
        | ((with_reducible refine Blk.exitE ?_ ?_); · rfl)
        | ((with_reducible refine Blk.exitN ?_ ?_); · rfl)
        | with_reducible apply Rnd.ret
        | with_reducible apply Rnd.exit
        | with_reducible apply RndI.ret
        | with_reducible apply RndI.exit
        | with_reducible apply ThnI.ret
        | with_reducible apply ThnI.exit
        | with_reducible apply T.skip
        | with_reducible apply T.block
        | with_reducible apply T.ret
        | with_reducible apply T.exit
        | refine T.condT (h := ?_)
        | refine T.condF (h := ?_)
        | refine TL.pass (k := ?_)
        | refine TL.passN (k := ?_)
        | refine TL.take (k := ?_)
        | refine TL.q (h := .assign) (k := ?_)
        | refine TL.q (h := .move) (k := ?_)
        | refine TL.q (h := .lenR) (k := ?_)
        | refine TL.q (h := .lenS) (k := ?_)
        | refine TL.q (h := .add) (k := ?_)
        | refine TL.q (h := .catS) (k := ?_)
        | refine TL.q (h := .binI) (k := ?_)
        | refine TL.q (h := .binS) (k := ?_))
      refine T.cond (by (simp only [St.ev, slk, Nat.reduceBEq, cond_true, cond_false]; first | done | rfl)) (fun h2 => ?_) (fun h2 => ?_)
      · have hne : ¬ l = k := by
          rintro rfl
          rw [hc] at hd
          cases hd
          simp at h2
        repeat (first
          | with_reducible apply T.seq
          | with_reducible apply T.region
          | with_reducible apply TL.nil
          | with_reducible apply Thn.normal
          | with_reducible apply Thn.ret
          | with_reducible apply Thn.exit
          | with_reducible apply Blk.normal
          | with_reducible apply Blk.ret
          | ((with_reducible refine Blk.exitE ?_ ?_); · rfl)
          | ((with_reducible refine Blk.exitN ?_ ?_); · rfl)
          | with_reducible apply Rnd.ret
          | with_reducible apply Rnd.exit
          | with_reducible apply RndI.ret
          | with_reducible apply RndI.exit
          | with_reducible apply ThnI.ret
          | with_reducible apply ThnI.exit
          | with_reducible apply T.skip
          | with_reducible apply T.block
          | with_reducible apply T.ret
          | with_reducible apply T.exit
          | refine T.condT (h := ?_)
          | refine T.condF (h := ?_)
          | refine TL.pass (k := ?_)
          | refine TL.passN (k := ?_)
          | refine TL.take (k := ?_)
          | refine TL.q (h := .assign) (k := ?_)
          | refine TL.q (h := .move) (k := ?_)
          | refine TL.q (h := .lenR) (k := ?_)
          | refine TL.q (h := .lenS) (k := ?_)
          | refine TL.q (h := .add) (k := ?_)
          | refine TL.q (h := .catS) (k := ?_)
          | refine TL.q (h := .binI) (k := ?_)
          | refine TL.q (h := .binS) (k := ?_))
        (first | refine RetQ.retI (L := [row m 58 9 x.v (l.map MCard.C), row m2 58 9 y.v (k.map MCard.C)]) (ResIs.r1 Try.results24 (RV.tmp)) (by (repeat (first | exact Picks.nil | (apply Picks.cons; (repeat (first | exact Pick.here | apply Pick.there)))))) ?_ | refine RetQ.norI (L := [row m 58 9 x.v (l.map MCard.C), row m2 58 9 y.v (k.map MCard.C)]) (ResIs.r1 Try.results24 (RV.tmp)) (by (repeat (first | exact Picks.nil | (apply Picks.cons; (repeat (first | exact Pick.here | apply Pick.there)))))) ?_)
        exact ⟨by simp [hne], rfl⟩
      · have he : c = d := by simpa using h2
        subst he
        repeat (first
          | with_reducible apply T.seq
          | with_reducible apply T.region
          | with_reducible apply TL.nil
          | with_reducible apply Thn.normal
          | with_reducible apply Thn.ret
          | with_reducible apply Thn.exit
          | with_reducible apply Blk.normal
          | with_reducible apply Blk.ret
          | ((with_reducible refine Blk.exitE ?_ ?_); · rfl)
          | ((with_reducible refine Blk.exitN ?_ ?_); · rfl)
          | with_reducible apply Rnd.ret
          | with_reducible apply Rnd.exit
          | with_reducible apply RndI.ret
          | with_reducible apply RndI.exit
          | with_reducible apply ThnI.ret
          | with_reducible apply ThnI.exit
          | with_reducible apply T.skip
          | with_reducible apply T.block
          | with_reducible apply T.ret
          | with_reducible apply T.exit
          | refine T.condT (h := ?_)
          | refine T.condF (h := ?_)
          | refine TL.pass (k := ?_)
          | refine TL.passN (k := ?_)
          | refine TL.take (k := ?_)
          | refine TL.q (h := .assign) (k := ?_)
          | refine TL.q (h := .move) (k := ?_)
          | refine TL.q (h := .lenR) (k := ?_)
          | refine TL.q (h := .lenS) (k := ?_)
          | refine TL.q (h := .add) (k := ?_)
          | refine TL.q (h := .catS) (k := ?_)
          | refine TL.q (h := .binI) (k := ?_)
          | refine TL.q (h := .binS) (k := ?_))
        refine RndI.next (m' := l.length - (i + 1)) (by omega) ⟨i + 1, rfl, by omega, by rw [hct, hdt, ht], rfl, rfl⟩ (by (repeat (first | exact AllIs.nil | refine AllIs.cons (by (simp only [St.ev, slk, Nat.reduceBEq, cond_true, cond_false]; first | done | rfl)) ?_))) (by (repeat (first | exact Picks.nil | (apply Picks.cons; (repeat (first | exact Pick.here | apply Pick.there))))))
    · have e : l = k := by
        have h3 : l.take i = l := List.take_of_length_le (by omega)
        have h4 : k.take i = k := List.take_of_length_le (by omega)
        rw [h3, h4] at ht
        exact ht
      repeat (first
        | with_reducible apply T.seq
        | with_reducible apply T.region
        | with_reducible apply TL.nil
        | with_reducible apply Thn.normal
        | with_reducible apply Thn.ret
        | with_reducible apply Thn.exit
        | with_reducible apply Blk.normal
        | with_reducible apply Blk.ret
        | ((with_reducible refine Blk.exitE ?_ ?_); · rfl)
        | ((with_reducible refine Blk.exitN ?_ ?_); · rfl)
        | with_reducible apply Rnd.ret
        | with_reducible apply Rnd.exit
        | with_reducible apply RndI.ret
        | with_reducible apply RndI.exit
        | with_reducible apply ThnI.ret
        | with_reducible apply ThnI.exit
        | with_reducible apply T.skip
        | with_reducible apply T.block
        | with_reducible apply T.ret
        | with_reducible apply T.exit
        | refine T.condT (h := ?_)
        | refine T.condF (h := ?_)
        | refine TL.pass (k := ?_)
        | refine TL.passN (k := ?_)
        | refine TL.take (k := ?_)
        | refine TL.q (h := .assign) (k := ?_)
        | refine TL.q (h := .move) (k := ?_)
        | refine TL.q (h := .lenR) (k := ?_)
        | refine TL.q (h := .lenS) (k := ?_)
        | refine TL.q (h := .add) (k := ?_)
        | refine TL.q (h := .catS) (k := ?_)
        | refine TL.q (h := .binI) (k := ?_)
        | refine TL.q (h := .binS) (k := ?_))
      (first | refine RetQ.retI (L := [row m 58 9 x.v (l.map MCard.C), row m2 58 9 y.v (k.map MCard.C)]) (ResIs.r1 Try.results24 (RV.tmp)) (by (repeat (first | exact Picks.nil | (apply Picks.cons; (repeat (first | exact Pick.here | apply Pick.there)))))) ?_ | refine RetQ.norI (L := [row m 58 9 x.v (l.map MCard.C), row m2 58 9 y.v (k.map MCard.C)]) (ResIs.r1 Try.results24 (RV.tmp)) (by (repeat (first | exact Picks.nil | (apply Picks.cons; (repeat (first | exact Pick.here | apply Pick.there)))))) ?_)
      exact ⟨by simp [e], rfl⟩
set_option maxHeartbeats 1000000 in
theorem ref_Seen (m : Bool) (x : Sl) (l : List MCard) (hl : l.length ≤ 100000) : Ctr Try.prog 18 #[x.v] [row m 58 9 x.v (l.map MCard.C)]
    fun v L => ∃ q : Sl, v = q.v ∧ L = [row m 58 9 x.v (l.map MCard.C), row true 58 9 q.v ((seenK l).map MCard.C)] := by
  refine Ctr.of (n := 22) (args := [_]) Try.func18 rfl rfl rfl fun F => ?_
  simp only [List.zipIdx_cons, List.zipIdx_nil, List.map_cons, List.map_nil, Nat.zero_add, Nat.reduceAdd, List.cons_append, List.nil_append]
  refine T.parts (add_nil true 58 9) ?_
  repeat (first
    | with_reducible apply T.seq
    | with_reducible apply T.region
    | with_reducible apply TL.nil
    | with_reducible apply Thn.normal
    | with_reducible apply Thn.ret
    | with_reducible apply Thn.exit
    | with_reducible apply Blk.normal
    | with_reducible apply Blk.ret
    | ((with_reducible refine Blk.exitE ?_ ?_); · rfl)
    | ((with_reducible refine Blk.exitN ?_ ?_); · rfl)
    | with_reducible apply Rnd.ret
    | with_reducible apply Rnd.exit
    | with_reducible apply RndI.ret
    | with_reducible apply RndI.exit
    | with_reducible apply ThnI.ret
    | with_reducible apply ThnI.exit
    | with_reducible apply T.skip
    | with_reducible apply T.block
    | with_reducible apply T.ret
    | with_reducible apply T.exit
    | refine T.condT (h := ?_)
    | refine T.condF (h := ?_)
    | refine TL.pass (k := ?_)
    | refine TL.passN (k := ?_)
    | refine TL.take (k := ?_)
    | refine TL.q (h := .assign) (k := ?_)
    | refine TL.q (h := .move) (k := ?_)
    | (refine TL.callF (h := ref_Sort _ _ _ (by first | assumption | rfl | omega | (simp at *; omega))) (k := ?_); rintro _ _ ⟨_, rfl, rfl⟩)
    | refine TL.q (h := .lenR) (k := ?_)
    | refine TL.q (h := .lenS) (k := ?_)
    | refine TL.q (h := .indexR) (k := ?_)
    | refine TL.q (h := .loadA) (k := ?_)
    | refine TL.q (h := .loadEpA) (k := ?_)
    | (refine TL.e (h := .al) (k := ?_); rintro _ _ ⟨_, rfl, rfl⟩)
    | refine TL.u (h := .stA0) (k := ?_)
    | refine TL.u (h := .st) (k := ?_)
    | refine TL.u (h := .stA) (k := ?_)
    | refine TL.u (h := .stEp) (k := ?_)
    | refine TL.u (h := .stEpA) (k := ?_)
    | refine TL.q (h := .fieldAddr) (k := ?_)
    | refine TL.q (h := .fieldEp) (k := ?_)
    | refine TL.q (h := .load) (k := ?_)
    | refine TL.q (h := .loadEp) (k := ?_)
    | refine TL.q (h := .not) (k := ?_)
    | (refine TL.e (h := .bs) (k := ?_); rintro _ _ ⟨_, rfl, rfl⟩)
    | (refine TL.e (h := .app) (k := ?_); rintro _ _ ⟨_, rfl, rfl⟩)
    | (refine TL.e (h := .appS) (k := ?_); rintro _ _ ⟨_, rfl, rfl⟩)
    | refine TL.q (h := .add) (k := ?_)
    | refine TL.q (h := .catS) (k := ?_)
    | refine TL.q (h := .binI) (k := ?_)
    | refine TL.q (h := .binS) (k := ?_))
  rename_i qs
  have hK0 : live (sortK l) = seenK l := filter_sortK _ l
  have hKl : (sortK l).length = l.length := sortK_len l
  generalize sortK l = K at hK0 hKl
  have hKm : (K.map MCard.C).length = K.length := by simp
  refine T.blkW (fun l' A => ∃ q : Sl, l' = [(3, q.v)] ∧ A = [row m 58 9 x.v (l.map MCard.C), row true 58 9 q.v ((seenK l).map MCard.C), F]) ?_ ?_
  · refine T.loopI (fun q' l' A => ∃ (i : Nat) (q : Sl), q' = K.length - i ∧ i ≤ K.length ∧ l' = [(9, .int .i64 (i : Int)), (8, .int .i64 ((K.map MCard.C).length : Int)), (7, qs.v), (3, q.v)] ∧ A = [row m 58 9 x.v (l.map MCard.C), row true 58 9 qs.v (K.map MCard.C), row true 58 9 q.v ((live (K.take i)).map MCard.C), F])
      ⟨0, Sl.nil, rfl, by omega, rfl, rfl⟩ (by (repeat (first | exact AllIs.nil | refine AllIs.cons (by (simp only [St.ev, slk, Nat.reduceBEq, cond_true, cond_false]; first | done | rfl)) ?_))) (by (repeat (first | exact Picks.nil | (apply Picks.cons; (repeat (first | exact Pick.here | apply Pick.there)))))) ?_
    rintro q' l' A j ⟨i, q, rfl, hi, rfl, rfl⟩
    have hle : ((live (K.take i)).map MCard.C).length ≤ K.length := by
      rw [List.length_map]; exact Nat.le_trans (live_len _) (by simp; omega)
    repeat (first
      | with_reducible apply T.seq
      | with_reducible apply T.region
      | with_reducible apply TL.nil
      | with_reducible apply Thn.normal
      | with_reducible apply Thn.ret
      | with_reducible apply Thn.exit
      | with_reducible apply Blk.normal
      | with_reducible apply Blk.ret
      | ((with_reducible refine Blk.exitE ?_ ?_); · rfl)
      | ((with_reducible refine Blk.exitN ?_ ?_); · rfl)
      | with_reducible apply Rnd.ret
      | with_reducible apply Rnd.exit
      | with_reducible apply RndI.ret
      | with_reducible apply RndI.exit
      | with_reducible apply ThnI.ret
      | with_reducible apply ThnI.exit
      | with_reducible apply T.skip
      | with_reducible apply T.block
      | with_reducible apply T.ret
      | with_reducible apply T.exit
      | refine T.condT (h := ?_)
      | refine T.condF (h := ?_)
      | refine TL.pass (k := ?_)
      | refine TL.passN (k := ?_)
      | refine TL.take (k := ?_)
      | refine TL.q (h := .assign) (k := ?_)
      | refine TL.q (h := .move) (k := ?_)
      | (refine TL.callF (h := ref_Sort _ _ _ (by first | assumption | rfl | omega | (simp at *; omega))) (k := ?_); rintro _ _ ⟨_, rfl, rfl⟩)
      | refine TL.q (h := .lenR) (k := ?_)
      | refine TL.q (h := .lenS) (k := ?_)
      | refine TL.q (h := .indexR) (k := ?_)
      | refine TL.q (h := .loadA) (k := ?_)
      | refine TL.q (h := .loadEpA) (k := ?_)
      | (refine TL.e (h := .al) (k := ?_); rintro _ _ ⟨_, rfl, rfl⟩)
      | refine TL.u (h := .stA0) (k := ?_)
      | refine TL.u (h := .st) (k := ?_)
      | refine TL.u (h := .stA) (k := ?_)
      | refine TL.u (h := .stEp) (k := ?_)
      | refine TL.u (h := .stEpA) (k := ?_)
      | refine TL.q (h := .fieldAddr) (k := ?_)
      | refine TL.q (h := .fieldEp) (k := ?_)
      | refine TL.q (h := .load) (k := ?_)
      | refine TL.q (h := .loadEp) (k := ?_)
      | refine TL.q (h := .not) (k := ?_)
      | (refine TL.e (h := .bs) (k := ?_); rintro _ _ ⟨_, rfl, rfl⟩)
      | (refine TL.e (h := .app) (k := ?_); rintro _ _ ⟨_, rfl, rfl⟩)
      | (refine TL.e (h := .appS) (k := ?_); rintro _ _ ⟨_, rfl, rfl⟩)
      | refine TL.q (h := .add) (k := ?_)
      | refine TL.q (h := .catS) (k := ?_)
      | refine TL.q (h := .binI) (k := ?_)
      | refine TL.q (h := .binS) (k := ?_))
    refine T.condD (ht := fun hlt => ?_) (hf := fun hlt => ?_)
    · obtain ⟨c, hc, hcc, ht, _⟩ := card_at (l := K) (i := i) (by omega)
      have hs := live_snoc (K.take i) c
      repeat (first
        | with_reducible apply T.seq
        | with_reducible apply T.region
        | with_reducible apply TL.nil
        | with_reducible apply Thn.normal
        | with_reducible apply Thn.ret
        | with_reducible apply Thn.exit
        | with_reducible apply Blk.normal
        | with_reducible apply Blk.ret
        | ((with_reducible refine Blk.exitE ?_ ?_); · rfl)
        | ((with_reducible refine Blk.exitN ?_ ?_); · rfl)
        | with_reducible apply Rnd.ret
        | with_reducible apply Rnd.exit
        | with_reducible apply RndI.ret
        | with_reducible apply RndI.exit
        | with_reducible apply ThnI.ret
        | with_reducible apply ThnI.exit
        | with_reducible apply T.skip
        | with_reducible apply T.block
        | with_reducible apply T.ret
        | with_reducible apply T.exit
        | refine T.condT (h := ?_)
        | refine T.condF (h := ?_)
        | refine TL.pass (k := ?_)
        | refine TL.passN (k := ?_)
        | refine TL.take (k := ?_)
        | refine TL.q (h := .assign) (k := ?_)
        | refine TL.q (h := .move) (k := ?_)
        | (refine TL.callF (h := ref_Sort _ _ _ (by first | assumption | rfl | omega | (simp at *; omega))) (k := ?_); rintro _ _ ⟨_, rfl, rfl⟩)
        | refine TL.q (h := .lenR) (k := ?_)
        | refine TL.q (h := .lenS) (k := ?_)
        | refine TL.q (h := .indexR) (k := ?_)
        | refine TL.q (h := .loadA) (k := ?_)
        | refine TL.q (h := .loadEpA) (k := ?_)
        | (refine TL.e (h := .al) (k := ?_); rintro _ _ ⟨_, rfl, rfl⟩)
        | refine TL.u (h := .stA0) (k := ?_)
        | refine TL.u (h := .st) (k := ?_)
        | refine TL.u (h := .stA) (k := ?_)
        | refine TL.u (h := .stEp) (k := ?_)
        | refine TL.u (h := .stEpA) (k := ?_)
        | refine TL.q (h := .fieldAddr) (k := ?_)
        | refine TL.q (h := .fieldEp) (k := ?_)
        | refine TL.q (h := .load) (k := ?_)
        | refine TL.q (h := .loadEp) (k := ?_)
        | refine TL.q (h := .not) (k := ?_)
        | (refine TL.e (h := .bs) (k := ?_); rintro _ _ ⟨_, rfl, rfl⟩)
        | (refine TL.e (h := .app) (k := ?_); rintro _ _ ⟨_, rfl, rfl⟩)
        | (refine TL.e (h := .appS) (k := ?_); rintro _ _ ⟨_, rfl, rfl⟩)
        | refine TL.q (h := .add) (k := ?_)
        | refine TL.q (h := .catS) (k := ?_)
        | refine TL.q (h := .binI) (k := ?_)
        | refine TL.q (h := .binS) (k := ?_))
      refine T.cond (by (simp only [St.ev, slk, Nat.reduceBEq, cond_true, cond_false]; first | done | rfl)) (fun hg => ?_) (fun hg => ?_)
      · have hg' : ¬ c.gone = true := by simpa using hg
        rw [if_neg hg'] at hs
        repeat (first
          | with_reducible apply T.seq
          | with_reducible apply T.region
          | with_reducible apply TL.nil
          | with_reducible apply Thn.normal
          | with_reducible apply Thn.ret
          | with_reducible apply Thn.exit
          | with_reducible apply Blk.normal
          | with_reducible apply Blk.ret
          | ((with_reducible refine Blk.exitE ?_ ?_); · rfl)
          | ((with_reducible refine Blk.exitN ?_ ?_); · rfl)
          | with_reducible apply Rnd.ret
          | with_reducible apply Rnd.exit
          | with_reducible apply RndI.ret
          | with_reducible apply RndI.exit
          | with_reducible apply ThnI.ret
          | with_reducible apply ThnI.exit
          | with_reducible apply T.skip
          | with_reducible apply T.block
          | with_reducible apply T.ret
          | with_reducible apply T.exit
          | refine T.condT (h := ?_)
          | refine T.condF (h := ?_)
          | refine TL.pass (k := ?_)
          | refine TL.passN (k := ?_)
          | refine TL.take (k := ?_)
          | refine TL.q (h := .assign) (k := ?_)
          | refine TL.q (h := .move) (k := ?_)
          | (refine TL.callF (h := ref_Sort _ _ _ (by first | assumption | rfl | omega | (simp at *; omega))) (k := ?_); rintro _ _ ⟨_, rfl, rfl⟩)
          | refine TL.q (h := .lenR) (k := ?_)
          | refine TL.q (h := .lenS) (k := ?_)
          | refine TL.q (h := .indexR) (k := ?_)
          | refine TL.q (h := .loadA) (k := ?_)
          | refine TL.q (h := .loadEpA) (k := ?_)
          | (refine TL.e (h := .al) (k := ?_); rintro _ _ ⟨_, rfl, rfl⟩)
          | refine TL.u (h := .stA0) (k := ?_)
          | refine TL.u (h := .st) (k := ?_)
          | refine TL.u (h := .stA) (k := ?_)
          | refine TL.u (h := .stEp) (k := ?_)
          | refine TL.u (h := .stEpA) (k := ?_)
          | refine TL.q (h := .fieldAddr) (k := ?_)
          | refine TL.q (h := .fieldEp) (k := ?_)
          | refine TL.q (h := .load) (k := ?_)
          | refine TL.q (h := .loadEp) (k := ?_)
          | refine TL.q (h := .not) (k := ?_)
          | (refine TL.e (h := .bs) (k := ?_); rintro _ _ ⟨_, rfl, rfl⟩)
          | (refine TL.e (h := .app) (k := ?_); rintro _ _ ⟨_, rfl, rfl⟩)
          | (refine TL.e (h := .appS) (k := ?_); rintro _ _ ⟨_, rfl, rfl⟩)
          | refine TL.q (h := .add) (k := ?_)
          | refine TL.q (h := .catS) (k := ?_)
          | refine TL.q (h := .binI) (k := ?_)
          | refine TL.q (h := .binS) (k := ?_))
        rename_i q1 q2
        rw [map_snoc]
        refine RndI.next (m' := K.length - (i + 1)) (by omega) ⟨i + 1, q2, rfl, by omega, rfl, by rw [ht, hs]⟩ (by (repeat (first | exact AllIs.nil | refine AllIs.cons (by (simp only [St.ev, slk, Nat.reduceBEq, cond_true, cond_false]; first | done | rfl)) ?_))) (by (repeat (first | exact Picks.nil | (apply Picks.cons; (repeat (first | exact Pick.here | apply Pick.there))))))
      · have hg' : c.gone = true := by simpa using hg
        rw [if_pos hg'] at hs
        repeat (first
          | with_reducible apply T.seq
          | with_reducible apply T.region
          | with_reducible apply TL.nil
          | with_reducible apply Thn.normal
          | with_reducible apply Thn.ret
          | with_reducible apply Thn.exit
          | with_reducible apply Blk.normal
          | with_reducible apply Blk.ret
          | ((with_reducible refine Blk.exitE ?_ ?_); · rfl)
          | ((with_reducible refine Blk.exitN ?_ ?_); · rfl)
          | with_reducible apply Rnd.ret
          | with_reducible apply Rnd.exit
          | with_reducible apply RndI.ret
          | with_reducible apply RndI.exit
          | with_reducible apply ThnI.ret
          | with_reducible apply ThnI.exit
          | with_reducible apply T.skip
          | with_reducible apply T.block
          | with_reducible apply T.ret
          | with_reducible apply T.exit
          | refine T.condT (h := ?_)
          | refine T.condF (h := ?_)
          | refine TL.pass (k := ?_)
          | refine TL.passN (k := ?_)
          | refine TL.take (k := ?_)
          | refine TL.q (h := .assign) (k := ?_)
          | refine TL.q (h := .move) (k := ?_)
          | (refine TL.callF (h := ref_Sort _ _ _ (by first | assumption | rfl | omega | (simp at *; omega))) (k := ?_); rintro _ _ ⟨_, rfl, rfl⟩)
          | refine TL.q (h := .lenR) (k := ?_)
          | refine TL.q (h := .lenS) (k := ?_)
          | refine TL.q (h := .indexR) (k := ?_)
          | refine TL.q (h := .loadA) (k := ?_)
          | refine TL.q (h := .loadEpA) (k := ?_)
          | (refine TL.e (h := .al) (k := ?_); rintro _ _ ⟨_, rfl, rfl⟩)
          | refine TL.u (h := .stA0) (k := ?_)
          | refine TL.u (h := .st) (k := ?_)
          | refine TL.u (h := .stA) (k := ?_)
          | refine TL.u (h := .stEp) (k := ?_)
          | refine TL.u (h := .stEpA) (k := ?_)
          | refine TL.q (h := .fieldAddr) (k := ?_)
          | refine TL.q (h := .fieldEp) (k := ?_)
          | refine TL.q (h := .load) (k := ?_)
          | refine TL.q (h := .loadEp) (k := ?_)
          | refine TL.q (h := .not) (k := ?_)
          | (refine TL.e (h := .bs) (k := ?_); rintro _ _ ⟨_, rfl, rfl⟩)
          | (refine TL.e (h := .app) (k := ?_); rintro _ _ ⟨_, rfl, rfl⟩)
          | (refine TL.e (h := .appS) (k := ?_); rintro _ _ ⟨_, rfl, rfl⟩)
          | refine TL.q (h := .add) (k := ?_)
          | refine TL.q (h := .catS) (k := ?_)
          | refine TL.q (h := .binI) (k := ?_)
          | refine TL.q (h := .binS) (k := ?_))
        refine RndI.next (m' := K.length - (i + 1)) (by omega) ⟨i + 1, q, rfl, by omega, rfl, by rw [ht, hs]⟩ (by (repeat (first | exact AllIs.nil | refine AllIs.cons (by (simp only [St.ev, slk, Nat.reduceBEq, cond_true, cond_false]; first | done | rfl)) ?_))) (by (repeat (first | exact Picks.nil | (apply Picks.cons; (repeat (first | exact Pick.here | apply Pick.there))))))
    · have e : K.take i = K := List.take_of_length_le (by omega)
      rw [e, hK0]
      repeat (first
        | with_reducible apply T.seq
        | with_reducible apply T.region
        | with_reducible apply TL.nil
        | with_reducible apply Thn.normal
        | with_reducible apply Thn.ret
        | with_reducible apply Thn.exit
        | with_reducible apply Blk.normal
        | with_reducible apply Blk.ret
        | ((with_reducible refine Blk.exitE ?_ ?_); · rfl)
        | ((with_reducible refine Blk.exitN ?_ ?_); · rfl)
        | with_reducible apply Rnd.ret
        | with_reducible apply Rnd.exit
        | with_reducible apply RndI.ret
        | with_reducible apply RndI.exit
        | with_reducible apply ThnI.ret
        | with_reducible apply ThnI.exit
        | with_reducible apply T.skip
        | with_reducible apply T.block
        | with_reducible apply T.ret
        | with_reducible apply T.exit
        | refine T.condT (h := ?_)
        | refine T.condF (h := ?_)
        | refine TL.pass (k := ?_)
        | refine TL.passN (k := ?_)
        | refine TL.take (k := ?_)
        | refine TL.q (h := .assign) (k := ?_)
        | refine TL.q (h := .move) (k := ?_)
        | (refine TL.callF (h := ref_Sort _ _ _ (by first | assumption | rfl | omega | (simp at *; omega))) (k := ?_); rintro _ _ ⟨_, rfl, rfl⟩)
        | refine TL.q (h := .lenR) (k := ?_)
        | refine TL.q (h := .lenS) (k := ?_)
        | refine TL.q (h := .indexR) (k := ?_)
        | refine TL.q (h := .loadA) (k := ?_)
        | refine TL.q (h := .loadEpA) (k := ?_)
        | (refine TL.e (h := .al) (k := ?_); rintro _ _ ⟨_, rfl, rfl⟩)
        | refine TL.u (h := .stA0) (k := ?_)
        | refine TL.u (h := .st) (k := ?_)
        | refine TL.u (h := .stA) (k := ?_)
        | refine TL.u (h := .stEp) (k := ?_)
        | refine TL.u (h := .stEpA) (k := ?_)
        | refine TL.q (h := .fieldAddr) (k := ?_)
        | refine TL.q (h := .fieldEp) (k := ?_)
        | refine TL.q (h := .load) (k := ?_)
        | refine TL.q (h := .loadEp) (k := ?_)
        | refine TL.q (h := .not) (k := ?_)
        | (refine TL.e (h := .bs) (k := ?_); rintro _ _ ⟨_, rfl, rfl⟩)
        | (refine TL.e (h := .app) (k := ?_); rintro _ _ ⟨_, rfl, rfl⟩)
        | (refine TL.e (h := .appS) (k := ?_); rintro _ _ ⟨_, rfl, rfl⟩)
        | refine TL.q (h := .add) (k := ?_)
        | refine TL.q (h := .catS) (k := ?_)
        | refine TL.q (h := .binI) (k := ?_)
        | refine TL.q (h := .binS) (k := ?_))
      refine ThnI.done ⟨q, rfl, rfl⟩ (by (repeat (first | exact AllIs.nil | refine AllIs.cons (by (simp only [St.ev, slk, Nat.reduceBEq, cond_true, cond_false]; first | done | rfl)) ?_))) (by (repeat (first | exact Picks.nil | (apply Picks.cons; (repeat (first | exact Pick.here | apply Pick.there))))))
  · rintro l' A j ⟨q, rfl, rfl⟩
    repeat (first
      | with_reducible apply T.seq
      | with_reducible apply T.region
      | with_reducible apply TL.nil
      | with_reducible apply Thn.normal
      | with_reducible apply Thn.ret
      | with_reducible apply Thn.exit
      | with_reducible apply Blk.normal
      | with_reducible apply Blk.ret
      | ((with_reducible refine Blk.exitE ?_ ?_); · rfl)
      | ((with_reducible refine Blk.exitN ?_ ?_); · rfl)
      | with_reducible apply Rnd.ret
      | with_reducible apply Rnd.exit
      | with_reducible apply RndI.ret
      | with_reducible apply RndI.exit
      | with_reducible apply ThnI.ret
      | with_reducible apply ThnI.exit
      | with_reducible apply T.skip
      | with_reducible apply T.block
      | with_reducible apply T.ret
      | with_reducible apply T.exit
      | refine T.condT (h := ?_)
      | refine T.condF (h := ?_)
      | refine TL.pass (k := ?_)
      | refine TL.passN (k := ?_)
      | refine TL.take (k := ?_)
      | refine TL.q (h := .assign) (k := ?_)
      | refine TL.q (h := .move) (k := ?_)
      | (refine TL.callF (h := ref_Sort _ _ _ (by first | assumption | rfl | omega | (simp at *; omega))) (k := ?_); rintro _ _ ⟨_, rfl, rfl⟩)
      | refine TL.q (h := .lenR) (k := ?_)
      | refine TL.q (h := .lenS) (k := ?_)
      | refine TL.q (h := .indexR) (k := ?_)
      | refine TL.q (h := .loadA) (k := ?_)
      | refine TL.q (h := .loadEpA) (k := ?_)
      | (refine TL.e (h := .al) (k := ?_); rintro _ _ ⟨_, rfl, rfl⟩)
      | refine TL.u (h := .stA0) (k := ?_)
      | refine TL.u (h := .st) (k := ?_)
      | refine TL.u (h := .stA) (k := ?_)
      | refine TL.u (h := .stEp) (k := ?_)
      | refine TL.u (h := .stEpA) (k := ?_)
      | refine TL.q (h := .fieldAddr) (k := ?_)
      | refine TL.q (h := .fieldEp) (k := ?_)
      | refine TL.q (h := .load) (k := ?_)
      | refine TL.q (h := .loadEp) (k := ?_)
      | refine TL.q (h := .not) (k := ?_)
      | (refine TL.e (h := .bs) (k := ?_); rintro _ _ ⟨_, rfl, rfl⟩)
      | (refine TL.e (h := .app) (k := ?_); rintro _ _ ⟨_, rfl, rfl⟩)
      | (refine TL.e (h := .appS) (k := ?_); rintro _ _ ⟨_, rfl, rfl⟩)
      | refine TL.q (h := .add) (k := ?_)
      | refine TL.q (h := .catS) (k := ?_)
      | refine TL.q (h := .binI) (k := ?_)
      | refine TL.q (h := .binS) (k := ?_))
    (first | refine RetQ.retI (L := [row m 58 9 x.v (l.map MCard.C), row true 58 9 q.v ((seenK l).map MCard.C)]) (ResIs.r1 Try.results18 (RV.tmp)) (by (repeat (first | exact Picks.nil | (apply Picks.cons; (repeat (first | exact Pick.here | apply Pick.there)))))) ?_ | refine RetQ.norI (L := [row m 58 9 x.v (l.map MCard.C), row true 58 9 q.v ((seenK l).map MCard.C)]) (ResIs.r1 Try.results18 (RV.tmp)) (by (repeat (first | exact Picks.nil | (apply Picks.cons; (repeat (first | exact Pick.here | apply Pick.there)))))) ?_)
    exact ⟨q, rfl, rfl⟩
theorem ref_Byte (m : Bool) (x : Sl) (bs : List Int) (n : Int) (hl : bs.length ≤ 100000) : Ctr Try.prog 107 #[x.v, .int .i64 n] [row m 5 1 x.v (bs.map byC)]
    fun v L => ∃ q : Sl, v = q.v ∧ L = [row m 5 1 x.v (bs.map byC), row true 5 1 q.v ((pByte bs n).map byC)] := by
  have hlm : (bs.map byC).length = bs.length := by simp
  refine Ctr.of (n := 12) (args := [_, _]) Try.func107 rfl rfl rfl fun F => ?_
  simp only [List.zipIdx_cons, List.zipIdx_nil, List.map_cons, List.map_nil, Nat.zero_add, Nat.reduceAdd, List.cons_append, List.nil_append]
  repeat (first
    | with_reducible apply T.seq
    | with_reducible apply T.region
    | with_reducible apply TL.nil
    | with_reducible apply Thn.normal
    | with_reducible apply Thn.ret
    | with_reducible apply Thn.exit
    | with_reducible apply Blk.normal
    | with_reducible apply Blk.ret
    | ((with_reducible refine Blk.exitE ?_ ?_); · rfl)
    | ((with_reducible refine Blk.exitN ?_ ?_); · rfl)
    | with_reducible apply Rnd.ret
    | with_reducible apply Rnd.exit
    | with_reducible apply RndI.ret
    | with_reducible apply RndI.exit
    | with_reducible apply ThnI.ret
    | with_reducible apply ThnI.exit
    | with_reducible apply T.skip
    | with_reducible apply T.block
    | with_reducible apply T.ret
    | with_reducible apply T.exit
    | refine T.condT (h := ?_)
    | refine T.condF (h := ?_)
    | refine TL.pass (k := ?_)
    | refine TL.passN (k := ?_)
    | refine TL.take (k := ?_)
    | refine TL.q (h := .assign) (k := ?_)
    | (refine TL.e (h := .bs) (k := ?_); rintro _ _ ⟨_, rfl, rfl⟩)
    | refine TL.q (h := .move) (k := ?_)
    | (refine TL.e (h := .app) (k := ?_); rintro _ _ ⟨_, rfl, rfl⟩)
    | (refine TL.e (h := .appS) (k := ?_); rintro _ _ ⟨_, rfl, rfl⟩)
    | refine TL.q (h := .convI) (k := ?_))
  rename_i q1 q2 q3 q4
  rw [List.nil_append, pByte_map]
  (first | refine RetQ.retI (L := [row m 5 1 x.v (bs.map byC), row true 5 1 q4.v ((pByte bs n).map byC)]) (ResIs.r1 Try.results107 (RV.tmp)) (by (repeat (first | exact Picks.nil | (apply Picks.cons; (repeat (first | exact Pick.here | apply Pick.there)))))) ?_ | refine RetQ.norI (L := [row m 5 1 x.v (bs.map byC), row true 5 1 q4.v ((pByte bs n).map byC)]) (ResIs.r1 Try.results107 (RV.tmp)) (by (repeat (first | exact Picks.nil | (apply Picks.cons; (repeat (first | exact Pick.here | apply Pick.there)))))) ?_)
  exact ⟨q4, rfl, rfl⟩
theorem ref_Text (m : Bool) (x : Sl) (bs : List Int) (s : ByteArray) (hl : bs.length ≤ 50000) (hs : s.size ≤ 255) : Ctr Try.prog 105 #[x.v, .string s] [row m 5 1 x.v (bs.map byC)]
    fun v L => ∃ q : Sl, v = q.v ∧ L = [row m 5 1 x.v (bs.map byC), row true 5 1 q.v ((pText bs s).map byC)] := by
  have hlm : ((pByte bs s.size).map byC).length = bs.length + 1 := by simp [pByte]
  refine Ctr.of (n := 16) (args := [_, _]) Try.func105 rfl rfl rfl fun F => ?_
  simp only [List.zipIdx_cons, List.zipIdx_nil, List.map_cons, List.map_nil, Nat.zero_add, Nat.reduceAdd, List.cons_append, List.nil_append]
  repeat (first
    | with_reducible apply T.seq
    | with_reducible apply T.region
    | with_reducible apply TL.nil
    | with_reducible apply Thn.normal
    | with_reducible apply Thn.ret
    | with_reducible apply Thn.exit
    | with_reducible apply Blk.normal
    | with_reducible apply Blk.ret
    | ((with_reducible refine Blk.exitE ?_ ?_); · rfl)
    | ((with_reducible refine Blk.exitN ?_ ?_); · rfl)
    | with_reducible apply Rnd.ret
    | with_reducible apply Rnd.exit
    | with_reducible apply RndI.ret
    | with_reducible apply RndI.exit
    | with_reducible apply ThnI.ret
    | with_reducible apply ThnI.exit
    | with_reducible apply T.skip
    | with_reducible apply T.block
    | with_reducible apply T.ret
    | with_reducible apply T.exit
    | refine T.condT (h := ?_)
    | refine T.condF (h := ?_)
    | refine TL.pass (k := ?_)
    | refine TL.passN (k := ?_)
    | refine TL.take (k := ?_)
    | refine TL.q (h := .assign) (k := ?_)
    | refine TL.q (h := .move) (k := ?_)
    | refine TL.q (h := .lenR) (k := ?_)
    | refine TL.q (h := .lenS) (k := ?_)
    | refine TL.q (h := .subSAll) (k := ?_)
    | refine TL.q (h := .subSH) (k := ?_)
    | (refine TL.callF (h := ref_Byte _ _ _ _ (by first | assumption | rfl | omega | (simp at *; omega))) (k := ?_); rintro _ _ ⟨_, rfl, rfl⟩)
    | (refine TL.e (h := .app) (k := ?_); rintro _ _ ⟨_, rfl, rfl⟩)
    | (refine TL.e (h := .appS) (k := ?_); rintro _ _ ⟨_, rfl, rfl⟩)
    | refine TL.q (h := .binI) (k := ?_)
    | refine TL.q (h := .binS) (k := ?_))
  refine T.condD (ht := fun h1 => ?_) (hf := fun h1 => ?_)
  · omega
  · skip
    repeat (first
      | with_reducible apply T.seq
      | with_reducible apply T.region
      | with_reducible apply TL.nil
      | with_reducible apply Thn.normal
      | with_reducible apply Thn.ret
      | with_reducible apply Thn.exit
      | with_reducible apply Blk.normal
      | with_reducible apply Blk.ret
      | ((with_reducible refine Blk.exitE ?_ ?_); · rfl)
      | ((with_reducible refine Blk.exitN ?_ ?_); · rfl)
      | with_reducible apply Rnd.ret
      | with_reducible apply Rnd.exit
      | with_reducible apply RndI.ret
      | with_reducible apply RndI.exit
      | with_reducible apply ThnI.ret
      | with_reducible apply ThnI.exit
      | with_reducible apply T.skip
      | with_reducible apply T.block
      | with_reducible apply T.ret
      | with_reducible apply T.exit
      | refine T.condT (h := ?_)
      | refine T.condF (h := ?_)
      | refine TL.pass (k := ?_)
      | refine TL.passN (k := ?_)
      | refine TL.take (k := ?_)
      | refine TL.q (h := .assign) (k := ?_)
      | refine TL.q (h := .move) (k := ?_)
      | refine TL.q (h := .lenR) (k := ?_)
      | refine TL.q (h := .lenS) (k := ?_)
      | refine TL.q (h := .subSAll) (k := ?_)
      | refine TL.q (h := .subSH) (k := ?_)
      | (refine TL.callF (h := ref_Byte _ _ _ _ (by first | assumption | rfl | omega | (simp at *; omega))) (k := ?_); rintro _ _ ⟨_, rfl, rfl⟩)
      | (refine TL.e (h := .app) (k := ?_); rintro _ _ ⟨_, rfl, rfl⟩)
      | (refine TL.e (h := .appS) (k := ?_); rintro _ _ ⟨_, rfl, rfl⟩)
      | refine TL.q (h := .binI) (k := ?_)
      | refine TL.q (h := .binS) (k := ?_))
    rename_i q1 q2
    rw [pText_map]
    (first | refine RetQ.retI (L := [row m 5 1 x.v (bs.map byC), row true 5 1 q2.v ((pText bs s).map byC)]) (ResIs.r1 Try.results105 (RV.tmp)) (by (repeat (first | exact Picks.nil | (apply Picks.cons; (repeat (first | exact Pick.here | apply Pick.there)))))) ?_ | refine RetQ.norI (L := [row m 5 1 x.v (bs.map byC), row true 5 1 q2.v ((pText bs s).map byC)]) (ResIs.r1 Try.results105 (RV.tmp)) (by (repeat (first | exact Picks.nil | (apply Picks.cons; (repeat (first | exact Pick.here | apply Pick.there)))))) ?_)
    exact ⟨q2, rfl, rfl⟩
theorem ref_Int (m : Bool) (x : Sl) (bs : List Int) (n : Int) (hl : bs.length ≤ 50000) : Ctr Try.prog 106 #[x.v, .int .i64 n] [row m 5 1 x.v (bs.map byC)]
    fun v L => ∃ q : Sl, v = q.v ∧ L = [row m 5 1 x.v (bs.map byC), row true 5 1 q.v ((pInt bs n).map byC)] := by
  have hlm0 : (bs.map byC).length = bs.length := by simp
  refine Ctr.of (n := 23) (args := [_, _]) Try.func106 rfl rfl rfl fun F => ?_
  simp only [List.zipIdx_cons, List.zipIdx_nil, List.map_cons, List.map_nil, Nat.zero_add, Nat.reduceAdd, List.cons_append, List.nil_append]
  repeat (first
    | with_reducible apply T.seq
    | with_reducible apply T.region
    | with_reducible apply TL.nil
    | with_reducible apply Thn.normal
    | with_reducible apply Thn.ret
    | with_reducible apply Thn.exit
    | with_reducible apply Blk.normal
    | with_reducible apply Blk.ret
    | ((with_reducible refine Blk.exitE ?_ ?_); · rfl)
    | ((with_reducible refine Blk.exitN ?_ ?_); · rfl)
    | with_reducible apply Rnd.ret
    | with_reducible apply Rnd.exit
    | with_reducible apply RndI.ret
    | with_reducible apply RndI.exit
    | with_reducible apply ThnI.ret
    | with_reducible apply ThnI.exit
    | with_reducible apply T.skip
    | with_reducible apply T.block
    | with_reducible apply T.ret
    | with_reducible apply T.exit
    | refine T.condT (h := ?_)
    | refine T.condF (h := ?_)
    | refine TL.pass (k := ?_)
    | refine TL.passN (k := ?_)
    | refine TL.take (k := ?_)
    | refine TL.q (h := .assign) (k := ?_)
    | (refine TL.e (h := .bs) (k := ?_); rintro _ _ ⟨_, rfl, rfl⟩)
    | refine TL.q (h := .move) (k := ?_)
    | (refine TL.e (h := .app) (k := ?_); rintro _ _ ⟨_, rfl, rfl⟩)
    | (refine TL.e (h := .appS) (k := ?_); rintro _ _ ⟨_, rfl, rfl⟩)
    | refine TL.q (h := .convI) (k := ?_)
    | refine TL.q (h := .shr) (k := ?_)
    | refine TL.q (h := .sub) (k := ?_)
    | refine TL.q (h := .binI) (k := ?_)
    | refine TL.q (h := .binS) (k := ?_))
  rename_i q00 q0
  rw [List.nil_append]
  refine T.blkW (fun l A => ∃ q : Sl, l = [(5, q.v)] ∧ A = [row m 5 1 x.v (bs.map byC), row true 5 1 q.v ((pInt bs n).map byC), F]) ?_ ?_
  · refine T.loopI (fun q' l A => ∃ (k : Nat) (q : Sl), q' = 8 - k ∧ k ≤ 8 ∧ l = [(6, .int .i64 (56 - 8 * (k : Int))), (5, q.v), (1, .int .i64 n)] ∧ A = [row m 5 1 x.v (bs.map byC), row true 5 1 q.v ((bs ++ pInts n k).map byC), F])
      ⟨0, q0, rfl, by omega, rfl, by rw [show bs ++ pInts n 0 = bs from List.append_nil bs]⟩ (by (repeat (first | exact AllIs.nil | refine AllIs.cons (by (simp only [St.ev, slk, Nat.reduceBEq, cond_true, cond_false]; first | done | rfl)) ?_))) (by (repeat (first | exact Picks.nil | (apply Picks.cons; (repeat (first | exact Pick.here | apply Pick.there)))))) ?_
    rintro q' l A j ⟨k, q, rfl, hk, rfl, rfl⟩
    have hlm : ((bs ++ pInts n k).map byC).length = bs.length + k := by simp [pInts_len]
    repeat (first
      | with_reducible apply T.seq
      | with_reducible apply T.region
      | with_reducible apply TL.nil
      | with_reducible apply Thn.normal
      | with_reducible apply Thn.ret
      | with_reducible apply Thn.exit
      | with_reducible apply Blk.normal
      | with_reducible apply Blk.ret
      | ((with_reducible refine Blk.exitE ?_ ?_); · rfl)
      | ((with_reducible refine Blk.exitN ?_ ?_); · rfl)
      | with_reducible apply Rnd.ret
      | with_reducible apply Rnd.exit
      | with_reducible apply RndI.ret
      | with_reducible apply RndI.exit
      | with_reducible apply ThnI.ret
      | with_reducible apply ThnI.exit
      | with_reducible apply T.skip
      | with_reducible apply T.block
      | with_reducible apply T.ret
      | with_reducible apply T.exit
      | refine T.condT (h := ?_)
      | refine T.condF (h := ?_)
      | refine TL.pass (k := ?_)
      | refine TL.passN (k := ?_)
      | refine TL.take (k := ?_)
      | refine TL.q (h := .assign) (k := ?_)
      | (refine TL.e (h := .bs) (k := ?_); rintro _ _ ⟨_, rfl, rfl⟩)
      | refine TL.q (h := .move) (k := ?_)
      | (refine TL.e (h := .app) (k := ?_); rintro _ _ ⟨_, rfl, rfl⟩)
      | (refine TL.e (h := .appS) (k := ?_); rintro _ _ ⟨_, rfl, rfl⟩)
      | refine TL.q (h := .convI) (k := ?_)
      | refine TL.q (h := .shr) (k := ?_)
      | refine TL.q (h := .sub) (k := ?_)
      | refine TL.q (h := .binI) (k := ?_)
      | refine TL.q (h := .binS) (k := ?_))
    refine T.condD (ht := fun hge => ?_) (hf := fun hge => ?_)
    · have hb : IntKind.i64.bits = 64 := rfl
      have hu : IntKind.u64.wrap (56 - 8 * (k : Int)) = 56 - 8 * (k : Int) := by simp [IntKind.wrap, IntKind.signed, IntKind.bits]; omega
      have hu0 : 0 ≤ IntKind.u64.wrap (56 - 8 * (k : Int)) := by rw [hu]; omega
      have e : min (IntKind.u64.wrap (56 - 8 * (k : Int))).toNat IntKind.i64.bits = 8 * (7 - k) := by rw [hu, hb]; omega
      have hm : ∀ a : Int, (bs ++ pInts n k).map byC ++ [[Value.int .u8 (IntKind.u8.wrap a)]] = (bs ++ pInts n k ++ [u8 a]).map byC := fun a => by
        rw [List.map_append (l₂ := [u8 a])]; rfl
      repeat (first
        | with_reducible apply T.seq
        | with_reducible apply T.region
        | with_reducible apply TL.nil
        | with_reducible apply Thn.normal
        | with_reducible apply Thn.ret
        | with_reducible apply Thn.exit
        | with_reducible apply Blk.normal
        | with_reducible apply Blk.ret
        | ((with_reducible refine Blk.exitE ?_ ?_); · rfl)
        | ((with_reducible refine Blk.exitN ?_ ?_); · rfl)
        | with_reducible apply Rnd.ret
        | with_reducible apply Rnd.exit
        | with_reducible apply RndI.ret
        | with_reducible apply RndI.exit
        | with_reducible apply ThnI.ret
        | with_reducible apply ThnI.exit
        | with_reducible apply T.skip
        | with_reducible apply T.block
        | with_reducible apply T.ret
        | with_reducible apply T.exit
        | refine T.condT (h := ?_)
        | refine T.condF (h := ?_)
        | refine TL.pass (k := ?_)
        | refine TL.passN (k := ?_)
        | refine TL.take (k := ?_)
        | refine TL.q (h := .assign) (k := ?_)
        | (refine TL.e (h := .bs) (k := ?_); rintro _ _ ⟨_, rfl, rfl⟩)
        | refine TL.q (h := .move) (k := ?_)
        | (refine TL.e (h := .app) (k := ?_); rintro _ _ ⟨_, rfl, rfl⟩)
        | (refine TL.e (h := .appS) (k := ?_); rintro _ _ ⟨_, rfl, rfl⟩)
        | refine TL.q (h := .convI) (k := ?_)
        | refine TL.q (h := .shr) (k := ?_)
        | refine TL.q (h := .sub) (k := ?_)
        | refine TL.q (h := .binI) (k := ?_)
        | refine TL.q (h := .binS) (k := ?_))
      rename_i q1 q2
      rw [e, hm]
      have e2 : (56 : Int) - 8 * (k : Int) - 8 = 56 - 8 * ((k + 1 : Nat) : Int) := by omega
      rw [e2, List.append_assoc]
      refine RndI.next (m' := 8 - (k + 1)) (by omega) ⟨k + 1, q2, rfl, by omega, rfl, rfl⟩ (by (repeat (first | exact AllIs.nil | refine AllIs.cons (by (simp only [St.ev, slk, Nat.reduceBEq, cond_true, cond_false]; first | done | rfl)) ?_))) (by (repeat (first | exact Picks.nil | (apply Picks.cons; (repeat (first | exact Pick.here | apply Pick.there))))))
    · have hk8 : k = 8 := by omega
      subst hk8
      repeat (first
        | with_reducible apply T.seq
        | with_reducible apply T.region
        | with_reducible apply TL.nil
        | with_reducible apply Thn.normal
        | with_reducible apply Thn.ret
        | with_reducible apply Thn.exit
        | with_reducible apply Blk.normal
        | with_reducible apply Blk.ret
        | ((with_reducible refine Blk.exitE ?_ ?_); · rfl)
        | ((with_reducible refine Blk.exitN ?_ ?_); · rfl)
        | with_reducible apply Rnd.ret
        | with_reducible apply Rnd.exit
        | with_reducible apply RndI.ret
        | with_reducible apply RndI.exit
        | with_reducible apply ThnI.ret
        | with_reducible apply ThnI.exit
        | with_reducible apply T.skip
        | with_reducible apply T.block
        | with_reducible apply T.ret
        | with_reducible apply T.exit
        | refine T.condT (h := ?_)
        | refine T.condF (h := ?_)
        | refine TL.pass (k := ?_)
        | refine TL.passN (k := ?_)
        | refine TL.take (k := ?_)
        | refine TL.q (h := .assign) (k := ?_)
        | (refine TL.e (h := .bs) (k := ?_); rintro _ _ ⟨_, rfl, rfl⟩)
        | refine TL.q (h := .move) (k := ?_)
        | (refine TL.e (h := .app) (k := ?_); rintro _ _ ⟨_, rfl, rfl⟩)
        | (refine TL.e (h := .appS) (k := ?_); rintro _ _ ⟨_, rfl, rfl⟩)
        | refine TL.q (h := .convI) (k := ?_)
        | refine TL.q (h := .shr) (k := ?_)
        | refine TL.q (h := .sub) (k := ?_)
        | refine TL.q (h := .binI) (k := ?_)
        | refine TL.q (h := .binS) (k := ?_))
      refine ThnI.done ⟨q, rfl, rfl⟩ (by (repeat (first | exact AllIs.nil | refine AllIs.cons (by (simp only [St.ev, slk, Nat.reduceBEq, cond_true, cond_false]; first | done | rfl)) ?_))) (by (repeat (first | exact Picks.nil | (apply Picks.cons; (repeat (first | exact Pick.here | apply Pick.there))))))
  · rintro l A j ⟨q, rfl, rfl⟩
    repeat (first
      | with_reducible apply T.seq
      | with_reducible apply T.region
      | with_reducible apply TL.nil
      | with_reducible apply Thn.normal
      | with_reducible apply Thn.ret
      | with_reducible apply Thn.exit
      | with_reducible apply Blk.normal
      | with_reducible apply Blk.ret
      | ((with_reducible refine Blk.exitE ?_ ?_); · rfl)
      | ((with_reducible refine Blk.exitN ?_ ?_); · rfl)
      | with_reducible apply Rnd.ret
      | with_reducible apply Rnd.exit
      | with_reducible apply RndI.ret
      | with_reducible apply RndI.exit
      | with_reducible apply ThnI.ret
      | with_reducible apply ThnI.exit
      | with_reducible apply T.skip
      | with_reducible apply T.block
      | with_reducible apply T.ret
      | with_reducible apply T.exit
      | refine T.condT (h := ?_)
      | refine T.condF (h := ?_)
      | refine TL.pass (k := ?_)
      | refine TL.passN (k := ?_)
      | refine TL.take (k := ?_)
      | refine TL.q (h := .assign) (k := ?_)
      | (refine TL.e (h := .bs) (k := ?_); rintro _ _ ⟨_, rfl, rfl⟩)
      | refine TL.q (h := .move) (k := ?_)
      | (refine TL.e (h := .app) (k := ?_); rintro _ _ ⟨_, rfl, rfl⟩)
      | (refine TL.e (h := .appS) (k := ?_); rintro _ _ ⟨_, rfl, rfl⟩)
      | refine TL.q (h := .convI) (k := ?_)
      | refine TL.q (h := .shr) (k := ?_)
      | refine TL.q (h := .sub) (k := ?_)
      | refine TL.q (h := .binI) (k := ?_)
      | refine TL.q (h := .binS) (k := ?_))
    (first | refine RetQ.retI (L := [row m 5 1 x.v (bs.map byC), row true 5 1 q.v ((pInt bs n).map byC)]) (ResIs.r1 Try.results106 (RV.tmp)) (by (repeat (first | exact Picks.nil | (apply Picks.cons; (repeat (first | exact Pick.here | apply Pick.there)))))) ?_ | refine RetQ.norI (L := [row m 5 1 x.v (bs.map byC), row true 5 1 q.v ((pInt bs n).map byC)]) (ResIs.r1 Try.results106 (RV.tmp)) (by (repeat (first | exact Picks.nil | (apply Picks.cons; (repeat (first | exact Pick.here | apply Pick.there)))))) ?_)
    exact ⟨q, rfl, rfl⟩
theorem ref_Shows (c : MCard) : Ctr Try.prog 108 #[.agg c.C.toArray] [] fun v L => v = .int .i64 (showsM c) ∧ L = [] := by
  simp only [MCard.C]
  refine Ctr.of (n := 12) (args := [_]) Try.func108 rfl rfl rfl fun F => ?_
  simp only [List.zipIdx_cons, List.zipIdx_nil, List.map_cons, List.map_nil, Nat.zero_add, Nat.reduceAdd, List.cons_append, List.nil_append]
  repeat' (first
    | with_reducible apply T.seq
    | with_reducible apply T.region
    | with_reducible apply TL.nil
    | with_reducible apply Thn.normal
    | with_reducible apply Thn.ret
    | with_reducible apply Thn.exit
    | with_reducible apply Blk.normal
    | with_reducible apply Blk.ret
    | ((with_reducible refine Blk.exitE ?_ ?_); · rfl)
    | ((with_reducible refine Blk.exitN ?_ ?_); · rfl)
    | with_reducible apply Rnd.ret
    | with_reducible apply Rnd.exit
    | with_reducible apply RndI.ret
    | with_reducible apply RndI.exit
    | with_reducible apply ThnI.ret
    | with_reducible apply ThnI.exit
    | with_reducible apply T.skip
    | with_reducible apply T.block
    | with_reducible apply T.ret
    | with_reducible apply T.exit
    | refine T.condT (h := ?_)
    | refine T.condF (h := ?_)
    | refine TL.pass (k := ?_)
    | refine TL.passN (k := ?_)
    | refine TL.take (k := ?_)
    | (refine TL.e (h := .bx) (k := ?_); rintro _ _ ⟨_, rfl, rfl⟩)
    | refine TL.q (h := .assign) (k := ?_)
    | refine TL.q (h := .fieldAddr) (k := ?_)
    | refine TL.q (h := .fieldEp) (k := ?_)
    | refine TL.q (h := .load) (k := ?_)
    | refine TL.q (h := .loadEp) (k := ?_)
    | refine TL.q (h := .binI) (k := ?_)
    | refine TL.gT (k := ?_)
    | refine TL.gF (k := ?_)
    | refine T.cT (h := ?_)
    | refine T.cF (h := ?_)
    | (refine TL.gcase (ht := fun _ => ?_) (hf := fun _ => ?_))
    | refine T.cond (by (simp only [St.ev, slk, Nat.reduceBEq, cond_true, cond_false]; first | done | rfl)) (fun _ => ?_) (fun _ => ?_))
  all_goals ((first | refine RetQ.retI (L := []) (ResIs.r1 Try.results108 (RV.tmp)) (by (repeat (first | exact Picks.nil | (apply Picks.cons; (repeat (first | exact Pick.here | apply Pick.there)))))) ?_ | refine RetQ.norI (L := []) (ResIs.r1 Try.results108 (RV.tmp)) (by (repeat (first | exact Picks.nil | (apply Picks.cons; (repeat (first | exact Pick.here | apply Pick.there)))))) ?_)
             simp_all [showsM])
theorem ref_Sum (m : Bool) (x : Sl) (bs : List Int) (hl : bs.length ≤ 100000) : Ctr Try.prog 65 #[x.v] [row m 5 1 x.v (bs.map byC)] fun v L => v = .int .u32 (sumB bs) ∧ L = [row m 5 1 x.v (bs.map byC)] := by
  have hlm : (bs.map byC).length = bs.length := by simp
  refine Ctr.of (n := 21) (args := [_]) Try.func65 rfl rfl rfl fun F => ?_
  simp only [List.zipIdx_cons, List.zipIdx_nil, List.map_cons, List.map_nil, Nat.zero_add, Nat.reduceAdd, List.cons_append, List.nil_append]
  repeat (first
    | with_reducible apply T.seq
    | with_reducible apply T.region
    | with_reducible apply TL.nil
    | with_reducible apply Thn.normal
    | with_reducible apply Thn.ret
    | with_reducible apply Thn.exit
    | with_reducible apply Blk.normal
    | with_reducible apply Blk.ret
    | ((with_reducible refine Blk.exitE ?_ ?_); · rfl)
    | ((with_reducible refine Blk.exitN ?_ ?_); · rfl)
    | with_reducible apply Rnd.ret
    | with_reducible apply Rnd.exit
    | with_reducible apply RndI.ret
    | with_reducible apply RndI.exit
    | with_reducible apply ThnI.ret
    | with_reducible apply ThnI.exit
    | with_reducible apply T.skip
    | with_reducible apply T.block
    | with_reducible apply T.ret
    | with_reducible apply T.exit
    | refine T.condT (h := ?_)
    | refine T.condF (h := ?_)
    | refine TL.pass (k := ?_)
    | refine TL.passN (k := ?_)
    | refine TL.take (k := ?_)
    | refine TL.q (h := .assign) (k := ?_)
    | refine TL.q (h := .move) (k := ?_)
    | refine TL.q (h := .lenR) (k := ?_)
    | refine TL.q (h := .lenS) (k := ?_)
    | refine TL.q (h := .mul) (k := ?_)
    | refine TL.q (h := .indexR) (k := ?_)
    | refine TL.q (h := .load) (k := ?_)
    | refine TL.q (h := .loadEp) (k := ?_)
    | refine TL.q (h := .convI) (k := ?_)
    | refine TL.q (h := .add) (k := ?_)
    | refine TL.q (h := .catS) (k := ?_)
    | refine TL.q (h := .binI) (k := ?_)
    | refine TL.q (h := .binS) (k := ?_))
  refine T.blkW (fun l A => l = [(3, .int .u32 (sumB bs))] ∧ A = [row m 5 1 x.v (bs.map byC), F]) ?_ ?_
  · refine T.loopI (fun q' l A => ∃ (i : Nat), q' = bs.length - i ∧ i ≤ bs.length ∧ l = [(4, .int .i64 (i : Int)), (0, x.v), (3, .int .u32 ((bs.take i).foldl stepS 17))] ∧ A = [row m 5 1 x.v (bs.map byC), F])
      ⟨0, rfl, by omega, rfl, rfl⟩ (by (repeat (first | exact AllIs.nil | refine AllIs.cons (by (simp only [St.ev, slk, Nat.reduceBEq, cond_true, cond_false]; first | done | rfl)) ?_))) (by (repeat (first | exact Picks.nil | (apply Picks.cons; (repeat (first | exact Pick.here | apply Pick.there)))))) ?_
    rintro q' l A j ⟨i, rfl, hi, rfl, rfl⟩
    repeat (first
      | with_reducible apply T.seq
      | with_reducible apply T.region
      | with_reducible apply TL.nil
      | with_reducible apply Thn.normal
      | with_reducible apply Thn.ret
      | with_reducible apply Thn.exit
      | with_reducible apply Blk.normal
      | with_reducible apply Blk.ret
      | ((with_reducible refine Blk.exitE ?_ ?_); · rfl)
      | ((with_reducible refine Blk.exitN ?_ ?_); · rfl)
      | with_reducible apply Rnd.ret
      | with_reducible apply Rnd.exit
      | with_reducible apply RndI.ret
      | with_reducible apply RndI.exit
      | with_reducible apply ThnI.ret
      | with_reducible apply ThnI.exit
      | with_reducible apply T.skip
      | with_reducible apply T.block
      | with_reducible apply T.ret
      | with_reducible apply T.exit
      | refine T.condT (h := ?_)
      | refine T.condF (h := ?_)
      | refine TL.pass (k := ?_)
      | refine TL.passN (k := ?_)
      | refine TL.take (k := ?_)
      | refine TL.q (h := .assign) (k := ?_)
      | refine TL.q (h := .move) (k := ?_)
      | refine TL.q (h := .lenR) (k := ?_)
      | refine TL.q (h := .lenS) (k := ?_)
      | refine TL.q (h := .mul) (k := ?_)
      | refine TL.q (h := .indexR) (k := ?_)
      | refine TL.q (h := .load) (k := ?_)
      | refine TL.q (h := .loadEp) (k := ?_)
      | refine TL.q (h := .convI) (k := ?_)
      | refine TL.q (h := .add) (k := ?_)
      | refine TL.q (h := .catS) (k := ?_)
      | refine TL.q (h := .binI) (k := ?_)
      | refine TL.q (h := .binS) (k := ?_))
    refine T.condD (ht := fun hlt => ?_) (hf := fun hlt => ?_)
    · have hlt' : i < bs.length := by omega
      obtain ⟨c, hc⟩ : ∃ c, bs[i]? = some c := ⟨_, List.getElem?_eq_getElem hlt'⟩
      have hcc : (bs.map byC)[i]? = some [.int .u8 c] := by simp [hc, byC]
      have ht : (bs.take (i + 1)).foldl stepS 17 = stepS ((bs.take i).foldl stepS 17) c := by rw [List.take_add_one, hc]; simp
      repeat (first
        | with_reducible apply T.seq
        | with_reducible apply T.region
        | with_reducible apply TL.nil
        | with_reducible apply Thn.normal
        | with_reducible apply Thn.ret
        | with_reducible apply Thn.exit
        | with_reducible apply Blk.normal
        | with_reducible apply Blk.ret
        | ((with_reducible refine Blk.exitE ?_ ?_); · rfl)
        | ((with_reducible refine Blk.exitN ?_ ?_); · rfl)
        | with_reducible apply Rnd.ret
        | with_reducible apply Rnd.exit
        | with_reducible apply RndI.ret
        | with_reducible apply RndI.exit
        | with_reducible apply ThnI.ret
        | with_reducible apply ThnI.exit
        | with_reducible apply T.skip
        | with_reducible apply T.block
        | with_reducible apply T.ret
        | with_reducible apply T.exit
        | refine T.condT (h := ?_)
        | refine T.condF (h := ?_)
        | refine TL.pass (k := ?_)
        | refine TL.passN (k := ?_)
        | refine TL.take (k := ?_)
        | refine TL.q (h := .assign) (k := ?_)
        | refine TL.q (h := .move) (k := ?_)
        | refine TL.q (h := .lenR) (k := ?_)
        | refine TL.q (h := .lenS) (k := ?_)
        | refine TL.q (h := .mul) (k := ?_)
        | refine TL.q (h := .indexR) (k := ?_)
        | refine TL.q (h := .load) (k := ?_)
        | refine TL.q (h := .loadEp) (k := ?_)
        | refine TL.q (h := .convI) (k := ?_)
        | refine TL.q (h := .add) (k := ?_)
        | refine TL.q (h := .catS) (k := ?_)
        | refine TL.q (h := .binI) (k := ?_)
        | refine TL.q (h := .binS) (k := ?_))
      refine RndI.next (m' := bs.length - (i + 1)) (by omega) ⟨i + 1, rfl, by omega, by rw [ht], rfl⟩ (by (repeat (first | exact AllIs.nil | refine AllIs.cons (by (simp only [St.ev, slk, Nat.reduceBEq, cond_true, cond_false]; first | done | rfl)) ?_))) (by (repeat (first | exact Picks.nil | (apply Picks.cons; (repeat (first | exact Pick.here | apply Pick.there))))))
    · have hi' : i = bs.length := by omega
      subst hi'
      repeat (first
        | with_reducible apply T.seq
        | with_reducible apply T.region
        | with_reducible apply TL.nil
        | with_reducible apply Thn.normal
        | with_reducible apply Thn.ret
        | with_reducible apply Thn.exit
        | with_reducible apply Blk.normal
        | with_reducible apply Blk.ret
        | ((with_reducible refine Blk.exitE ?_ ?_); · rfl)
        | ((with_reducible refine Blk.exitN ?_ ?_); · rfl)
        | with_reducible apply Rnd.ret
        | with_reducible apply Rnd.exit
        | with_reducible apply RndI.ret
        | with_reducible apply RndI.exit
        | with_reducible apply ThnI.ret
        | with_reducible apply ThnI.exit
        | with_reducible apply T.skip
        | with_reducible apply T.block
        | with_reducible apply T.ret
        | with_reducible apply T.exit
        | refine T.condT (h := ?_)
        | refine T.condF (h := ?_)
        | refine TL.pass (k := ?_)
        | refine TL.passN (k := ?_)
        | refine TL.take (k := ?_)
        | refine TL.q (h := .assign) (k := ?_)
        | refine TL.q (h := .move) (k := ?_)
        | refine TL.q (h := .lenR) (k := ?_)
        | refine TL.q (h := .lenS) (k := ?_)
        | refine TL.q (h := .mul) (k := ?_)
        | refine TL.q (h := .indexR) (k := ?_)
        | refine TL.q (h := .load) (k := ?_)
        | refine TL.q (h := .loadEp) (k := ?_)
        | refine TL.q (h := .convI) (k := ?_)
        | refine TL.q (h := .add) (k := ?_)
        | refine TL.q (h := .catS) (k := ?_)
        | refine TL.q (h := .binI) (k := ?_)
        | refine TL.q (h := .binS) (k := ?_))
      rw [List.take_length]
      refine ThnI.done ⟨rfl, rfl⟩ (by (repeat (first | exact AllIs.nil | refine AllIs.cons (by (simp only [St.ev, slk, Nat.reduceBEq, cond_true, cond_false]; first | done | rfl)) ?_))) (by (repeat (first | exact Picks.nil | (apply Picks.cons; (repeat (first | exact Pick.here | apply Pick.there))))))
  · rintro l A j ⟨rfl, rfl⟩
    repeat (first
      | with_reducible apply T.seq
      | with_reducible apply T.region
      | with_reducible apply TL.nil
      | with_reducible apply Thn.normal
      | with_reducible apply Thn.ret
      | with_reducible apply Thn.exit
      | with_reducible apply Blk.normal
      | with_reducible apply Blk.ret
      | ((with_reducible refine Blk.exitE ?_ ?_); · rfl)
      | ((with_reducible refine Blk.exitN ?_ ?_); · rfl)
      | with_reducible apply Rnd.ret
      | with_reducible apply Rnd.exit
      | with_reducible apply RndI.ret
      | with_reducible apply RndI.exit
      | with_reducible apply ThnI.ret
      | with_reducible apply ThnI.exit
      | with_reducible apply T.skip
      | with_reducible apply T.block
      | with_reducible apply T.ret
      | with_reducible apply T.exit
      | refine T.condT (h := ?_)
      | refine T.condF (h := ?_)
      | refine TL.pass (k := ?_)
      | refine TL.passN (k := ?_)
      | refine TL.take (k := ?_)
      | refine TL.q (h := .assign) (k := ?_)
      | refine TL.q (h := .move) (k := ?_)
      | refine TL.q (h := .lenR) (k := ?_)
      | refine TL.q (h := .lenS) (k := ?_)
      | refine TL.q (h := .mul) (k := ?_)
      | refine TL.q (h := .indexR) (k := ?_)
      | refine TL.q (h := .load) (k := ?_)
      | refine TL.q (h := .loadEp) (k := ?_)
      | refine TL.q (h := .convI) (k := ?_)
      | refine TL.q (h := .add) (k := ?_)
      | refine TL.q (h := .catS) (k := ?_)
      | refine TL.q (h := .binI) (k := ?_)
      | refine TL.q (h := .binS) (k := ?_))
    (first | refine RetQ.retI (L := [row m 5 1 x.v (bs.map byC)]) (ResIs.r1 Try.results65 (RV.tmp)) (by (repeat (first | exact Picks.nil | (apply Picks.cons; (repeat (first | exact Pick.here | apply Pick.there)))))) ?_ | refine RetQ.norI (L := [row m 5 1 x.v (bs.map byC)]) (ResIs.r1 Try.results65 (RV.tmp)) (by (repeat (first | exact Picks.nil | (apply Picks.cons; (repeat (first | exact Pick.here | apply Pick.there)))))) ?_)
    exact ⟨rfl, rfl⟩
set_option maxHeartbeats 1000000 in
theorem ref_Bytes (m : Bool) (x : Sl) (l : List MCard) (hl : l.length ≤ 90) (hs : Short l) : Ctr Try.prog 60 #[x.v] [row m 58 9 x.v (l.map MCard.C)]
    fun v L => ∃ q : Sl, v = q.v ∧ L = [row m 58 9 x.v (l.map MCard.C), row true 5 1 q.v ((sealB l).map byC)] := by
  have hsl := seenK_len l
  have hss := hs.seen
  refine Ctr.of (n := 31) (args := [_]) Try.func60 rfl rfl rfl fun F => ?_
  simp only [List.zipIdx_cons, List.zipIdx_nil, List.map_cons, List.map_nil, Nat.zero_add, Nat.reduceAdd, List.cons_append, List.nil_append]
  refine T.parts (add_nil true 5 1) ?_
  repeat (first
    | with_reducible apply T.seq
    | with_reducible apply T.region
    | with_reducible apply TL.nil
    | with_reducible apply Thn.normal
    | with_reducible apply Thn.ret
    | with_reducible apply Thn.exit
    | with_reducible apply Blk.normal
    | with_reducible apply Blk.ret
    | ((with_reducible refine Blk.exitE ?_ ?_); · rfl)
    | ((with_reducible refine Blk.exitN ?_ ?_); · rfl)
    | with_reducible apply Rnd.ret
    | with_reducible apply Rnd.exit
    | with_reducible apply RndI.ret
    | with_reducible apply RndI.exit
    | with_reducible apply ThnI.ret
    | with_reducible apply ThnI.exit
    | with_reducible apply T.skip
    | with_reducible apply T.block
    | with_reducible apply T.ret
    | with_reducible apply T.exit
    | refine T.condT (h := ?_)
    | refine T.condF (h := ?_)
    | refine TL.pass (k := ?_)
    | refine TL.passN (k := ?_)
    | refine TL.take (k := ?_)
    | refine TL.q (h := .assign) (k := ?_)
    | refine TL.q (h := .move) (k := ?_)
    | (refine TL.callF (h := ref_Seen _ _ _ (by first | assumption | rfl | omega | (simp at *; omega))) (k := ?_); rintro _ _ ⟨_, rfl, rfl⟩)
    | refine TL.q (h := .lenR) (k := ?_)
    | refine TL.q (h := .lenS) (k := ?_)
    | refine TL.q (h := .indexR) (k := ?_)
    | refine TL.q (h := .loadA) (k := ?_)
    | refine TL.q (h := .loadEpA) (k := ?_)
    | (refine TL.e (h := .al) (k := ?_); rintro _ _ ⟨_, rfl, rfl⟩)
    | refine TL.u (h := .stA0) (k := ?_)
    | refine TL.u (h := .st) (k := ?_)
    | refine TL.u (h := .stA) (k := ?_)
    | refine TL.u (h := .stEp) (k := ?_)
    | refine TL.u (h := .stEpA) (k := ?_)
    | refine TL.q (h := .add) (k := ?_)
    | refine TL.q (h := .catS) (k := ?_)
    | refine TL.q (h := .binI) (k := ?_)
    | refine TL.q (h := .binS) (k := ?_))
  rename_i qs
  generalize hK : seenK l = K at hsl hss
  have hKm : (K.map MCard.C).length = K.length := by simp
  refine T.blkW (fun l' A => ∃ q : Sl, l' = [(3, q.v)] ∧ A = [row m 58 9 x.v (l.map MCard.C), row true 5 1 q.v ((bytesL K).map byC), F]) ?_ ?_
  · refine T.loopI (fun q' l' A => ∃ (i : Nat) (q : Sl), q' = K.length - i ∧ i ≤ K.length ∧ l' = [(9, .int .i64 (i : Int)), (8, .int .i64 ((K.map MCard.C).length : Int)), (7, qs.v), (3, q.v)] ∧ A = [row m 58 9 x.v (l.map MCard.C), row true 58 9 qs.v (K.map MCard.C), row true 5 1 q.v ((bytesL (K.take i)).map byC), F])
      ⟨0, Sl.nil, rfl, by omega, rfl, rfl⟩ (by (repeat (first | exact AllIs.nil | refine AllIs.cons (by (simp only [St.ev, slk, Nat.reduceBEq, cond_true, cond_false]; first | done | rfl)) ?_))) (by (repeat (first | exact Picks.nil | (apply Picks.cons; (repeat (first | exact Pick.here | apply Pick.there)))))) ?_
    rintro q' l' A j ⟨i, q, rfl, hi, rfl, rfl⟩
    have hbl := bytesL_len (K.take i) (fun c hc => hss c (List.mem_of_mem_take hc))
    have htl : (K.take i).length ≤ 90 := by simp; omega
    repeat (first
      | with_reducible apply T.seq
      | with_reducible apply T.region
      | with_reducible apply TL.nil
      | with_reducible apply Thn.normal
      | with_reducible apply Thn.ret
      | with_reducible apply Thn.exit
      | with_reducible apply Blk.normal
      | with_reducible apply Blk.ret
      | ((with_reducible refine Blk.exitE ?_ ?_); · rfl)
      | ((with_reducible refine Blk.exitN ?_ ?_); · rfl)
      | with_reducible apply Rnd.ret
      | with_reducible apply Rnd.exit
      | with_reducible apply RndI.ret
      | with_reducible apply RndI.exit
      | with_reducible apply ThnI.ret
      | with_reducible apply ThnI.exit
      | with_reducible apply T.skip
      | with_reducible apply T.block
      | with_reducible apply T.ret
      | with_reducible apply T.exit
      | refine T.condT (h := ?_)
      | refine T.condF (h := ?_)
      | refine TL.pass (k := ?_)
      | refine TL.passN (k := ?_)
      | refine TL.take (k := ?_)
      | refine TL.q (h := .assign) (k := ?_)
      | refine TL.q (h := .move) (k := ?_)
      | (refine TL.callF (h := ref_Seen _ _ _ (by first | assumption | rfl | omega | (simp at *; omega))) (k := ?_); rintro _ _ ⟨_, rfl, rfl⟩)
      | refine TL.q (h := .lenR) (k := ?_)
      | refine TL.q (h := .lenS) (k := ?_)
      | refine TL.q (h := .indexR) (k := ?_)
      | refine TL.q (h := .loadA) (k := ?_)
      | refine TL.q (h := .loadEpA) (k := ?_)
      | (refine TL.e (h := .al) (k := ?_); rintro _ _ ⟨_, rfl, rfl⟩)
      | refine TL.u (h := .stA0) (k := ?_)
      | refine TL.u (h := .st) (k := ?_)
      | refine TL.u (h := .stA) (k := ?_)
      | refine TL.u (h := .stEp) (k := ?_)
      | refine TL.u (h := .stEpA) (k := ?_)
      | refine TL.q (h := .add) (k := ?_)
      | refine TL.q (h := .catS) (k := ?_)
      | refine TL.q (h := .binI) (k := ?_)
      | refine TL.q (h := .binS) (k := ?_))
    refine T.condD (ht := fun hlt => ?_) (hf := fun hlt => ?_)
    · obtain ⟨c, hc, hcc, ht, hcm⟩ := card_at (l := K) (i := i) (by omega)
      obtain ⟨ha, hid⟩ := hss c hcm
      have e := bytesL_snoc (K.take i) c
      generalize hB : bytesL (K.take i) = B at hbl e
      have e1 := pText_len B c.app
      have e2 := pText_len (pText B c.app) c.id
      have e3 := pByte_len (pText (pText B c.app) c.id) (showsM c)
      repeat (first
        | with_reducible apply T.seq
        | with_reducible apply T.region
        | with_reducible apply TL.nil
        | with_reducible apply Thn.normal
        | with_reducible apply Thn.ret
        | with_reducible apply Thn.exit
        | with_reducible apply Blk.normal
        | with_reducible apply Blk.ret
        | ((with_reducible refine Blk.exitE ?_ ?_); · rfl)
        | ((with_reducible refine Blk.exitN ?_ ?_); · rfl)
        | with_reducible apply Rnd.ret
        | with_reducible apply Rnd.exit
        | with_reducible apply RndI.ret
        | with_reducible apply RndI.exit
        | with_reducible apply ThnI.ret
        | with_reducible apply ThnI.exit
        | with_reducible apply T.skip
        | with_reducible apply T.block
        | with_reducible apply T.ret
        | with_reducible apply T.exit
        | refine T.condT (h := ?_)
        | refine T.condF (h := ?_)
        | refine TL.pass (k := ?_)
        | refine TL.passN (k := ?_)
        | refine TL.take (k := ?_)
        | refine TL.q (h := .assign) (k := ?_)
        | refine TL.q (h := .move) (k := ?_)
        | (refine TL.callF (h := ref_Seen _ _ _ (by first | assumption | rfl | omega | (simp at *; omega))) (k := ?_); rintro _ _ ⟨_, rfl, rfl⟩)
        | refine TL.q (h := .lenR) (k := ?_)
        | refine TL.q (h := .lenS) (k := ?_)
        | refine TL.q (h := .indexR) (k := ?_)
        | refine TL.q (h := .loadA) (k := ?_)
        | refine TL.q (h := .loadEpA) (k := ?_)
        | (refine TL.e (h := .al) (k := ?_); rintro _ _ ⟨_, rfl, rfl⟩)
        | refine TL.u (h := .stA0) (k := ?_)
        | refine TL.u (h := .st) (k := ?_)
        | refine TL.u (h := .stA) (k := ?_)
        | refine TL.u (h := .stEp) (k := ?_)
        | refine TL.u (h := .stEpA) (k := ?_)
        | refine TL.q (h := .add) (k := ?_)
        | refine TL.q (h := .catS) (k := ?_)
        | refine TL.q (h := .binI) (k := ?_)
        | refine TL.q (h := .binS) (k := ?_))
      all_goals refine TG.start (i := 5) mixed rfl ?_
      all_goals (first
        | refine TG.q0 0 (ho := rfl) (hv := .yes (h := .move)) (k := ?_)
        | refine TG.lv 0 (ho := rfl) (hv := .move) (k := ?_))
      all_goals (first
        | refine TG.q0 1 (ho := rfl) (hv := .yes (h := .fieldAddr)) (k := ?_)
        | refine TG.qFieldEp 1 (ho := rfl) (h := ?_)
        | refine TG.lv 1 (ho := rfl) (hv := .fieldAddr) (k := ?_)
        | refine TG.lv 1 (ho := rfl) (hv := .fieldEp) (k := ?_))
      all_goals (first
        | refine TG.q0 2 (ho := rfl) (hv := .yes (h := .fieldAddr)) (k := ?_)
        | refine TG.qFieldEp 2 (ho := rfl) (h := ?_)
        | refine TG.lv 2 (ho := rfl) (hv := .fieldAddr) (k := ?_)
        | refine TG.lv 2 (ho := rfl) (hv := .fieldEp) (k := ?_))
      all_goals (first
        | refine TG.qLoad 3 (ho := rfl) (k := ?_)
        | refine TG.qLoadEp 3 (ho := rfl) (h := ?_)
        | refine TG.lv 3 (ho := rfl) (hv := .load) (k := ?_)
        | refine TG.lv 3 (ho := rfl) (hv := .loadEp) (k := ?_))
      all_goals (first
        | refine TG.q0 5 (ho := rfl) (hv := .yes (h := .fieldAddr)) (k := ?_)
        | refine TG.qFieldEp 5 (ho := rfl) (h := ?_)
        | refine TG.lv 5 (ho := rfl) (hv := .fieldAddr) (k := ?_)
        | refine TG.lv 5 (ho := rfl) (hv := .fieldEp) (k := ?_))
      all_goals (first
        | refine TG.q0 6 (ho := rfl) (hv := .yes (h := .fieldAddr)) (k := ?_)
        | refine TG.qFieldEp 6 (ho := rfl) (h := ?_)
        | refine TG.lv 6 (ho := rfl) (hv := .fieldAddr) (k := ?_)
        | refine TG.lv 6 (ho := rfl) (hv := .fieldEp) (k := ?_))
      all_goals (first
        | refine TG.qLoad 7 (ho := rfl) (k := ?_)
        | refine TG.qLoadEp 7 (ho := rfl) (h := ?_)
        | refine TG.lv 7 (ho := rfl) (hv := .load) (k := ?_)
        | refine TG.lv 7 (ho := rfl) (hv := .loadEp) (k := ?_))
      all_goals (first
        | (refine TG.ld 4 (ho := rfl) (hK := .callF (h := ref_Text _ _ _ _ (by first | assumption | rfl | omega | (simp at *; omega)) (by first | assumption | rfl | omega | (simp at *; omega)))) (k := ?_); rintro _ _ ⟨_, rfl, _, rfl, rfl⟩; refine ⟨by (repeat (first | exact Held.nil | apply Held.zero | (apply Held.one; (repeat (first | exact Pick.here | apply Pick.there))))), ?_⟩))
      all_goals (first
        | (refine TG.ld 8 (ho := rfl) (hK := .callF (h := ref_Text _ _ _ _ (by first | assumption | rfl | omega | (simp at *; omega)) (by first | assumption | rfl | omega | (simp at *; omega)))) (k := ?_); rintro _ _ ⟨_, rfl, _, rfl, rfl⟩; refine ⟨by (repeat (first | exact Held.nil | apply Held.zero | (apply Held.one; (repeat (first | exact Pick.here | apply Pick.there))))), ?_⟩))
      all_goals (first
        | refine TG.q0 9 (ho := rfl) (hv := .yes (h := .assign)) (k := ?_)
        | refine TG.lv 9 (ho := rfl) (hv := .assign) (k := ?_))
      all_goals apply TG.fin rfl
      repeat (first
        | with_reducible apply T.seq
        | with_reducible apply T.region
        | with_reducible apply TL.nil
        | with_reducible apply Thn.normal
        | with_reducible apply Thn.ret
        | with_reducible apply Thn.exit
        | with_reducible apply Blk.normal
        | with_reducible apply Blk.ret
        | ((with_reducible refine Blk.exitE ?_ ?_); · rfl)
        | ((with_reducible refine Blk.exitN ?_ ?_); · rfl)
        | with_reducible apply Rnd.ret
        | with_reducible apply Rnd.exit
        | with_reducible apply RndI.ret
        | with_reducible apply RndI.exit
        | with_reducible apply ThnI.ret
        | with_reducible apply ThnI.exit
        | with_reducible apply T.skip
        | with_reducible apply T.block
        | with_reducible apply T.ret
        | with_reducible apply T.exit
        | refine T.condT (h := ?_)
        | refine T.condF (h := ?_)
        | refine TL.pass (k := ?_)
        | refine TL.passN (k := ?_)
        | refine TL.take (k := ?_)
        | refine TL.q (h := .assign) (k := ?_)
        | refine TL.q (h := .move) (k := ?_)
        | (refine TL.callF (h := ref_Seen _ _ _ (by first | assumption | rfl | omega | (simp at *; omega))) (k := ?_); rintro _ _ ⟨_, rfl, rfl⟩)
        | refine TL.q (h := .lenR) (k := ?_)
        | refine TL.q (h := .lenS) (k := ?_)
        | refine TL.q (h := .indexR) (k := ?_)
        | refine TL.q (h := .loadA) (k := ?_)
        | refine TL.q (h := .loadEpA) (k := ?_)
        | (refine TL.e (h := .al) (k := ?_); rintro _ _ ⟨_, rfl, rfl⟩)
        | refine TL.u (h := .stA0) (k := ?_)
        | refine TL.u (h := .st) (k := ?_)
        | refine TL.u (h := .stA) (k := ?_)
        | refine TL.u (h := .stEp) (k := ?_)
        | refine TL.u (h := .stEpA) (k := ?_)
        | refine TL.q (h := .add) (k := ?_)
        | refine TL.q (h := .catS) (k := ?_)
        | refine TL.q (h := .binI) (k := ?_)
        | refine TL.q (h := .binS) (k := ?_))
      all_goals refine TG.start (i := 6) mixed rfl ?_
      all_goals (first
        | refine TG.q0 0 (ho := rfl) (hv := .yes (h := .move)) (k := ?_)
        | refine TG.lv 0 (ho := rfl) (hv := .move) (k := ?_))
      all_goals (first
        | refine TG.qLoadA 1 (ho := rfl) (k := ?_)
        | refine TG.qLoadEpA 1 (ho := rfl) (h := ?_)
        | refine TG.lv 1 (ho := rfl) (hv := .loadA) (k := ?_)
        | refine TG.lv 1 (ho := rfl) (hv := .loadEpA) (k := ?_))
      all_goals (first
        | refine TG.q0 4 (ho := rfl) (hv := .yes (h := .fieldAddr)) (k := ?_)
        | refine TG.qFieldEp 4 (ho := rfl) (h := ?_)
        | refine TG.lv 4 (ho := rfl) (hv := .fieldAddr) (k := ?_)
        | refine TG.lv 4 (ho := rfl) (hv := .fieldEp) (k := ?_))
      all_goals (first
        | refine TG.qLoad 5 (ho := rfl) (k := ?_)
        | refine TG.qLoadEp 5 (ho := rfl) (h := ?_)
        | refine TG.lv 5 (ho := rfl) (hv := .load) (k := ?_)
        | refine TG.lv 5 (ho := rfl) (hv := .loadEp) (k := ?_))
      all_goals (first
        | (refine TG.ld 2 (ho := rfl) (hK := .callF (h := ref_Shows _)) (k := ?_); rintro _ _ ⟨_, rfl, rfl, rfl⟩; refine ⟨by (repeat (first | exact Held.nil | apply Held.zero | (apply Held.one; (repeat (first | exact Pick.here | apply Pick.there))))), ?_⟩))
      all_goals (first
        | (refine TG.ld 3 (ho := rfl) (hK := .callF (h := ref_Byte _ _ _ _ (by first | assumption | rfl | omega | (simp at *; omega)))) (k := ?_); rintro _ _ ⟨_, rfl, _, rfl, rfl⟩; refine ⟨by (repeat (first | exact Held.nil | apply Held.zero | (apply Held.one; (repeat (first | exact Pick.here | apply Pick.there))))), ?_⟩))
      all_goals (first
        | (refine TG.ld 6 (ho := rfl) (hK := .callF (h := ref_Int _ _ _ _ (by first | assumption | rfl | omega | (simp at *; omega)))) (k := ?_); rintro _ _ ⟨_, rfl, _, rfl, rfl⟩; refine ⟨by (repeat (first | exact Held.nil | apply Held.zero | (apply Held.one; (repeat (first | exact Pick.here | apply Pick.there))))), ?_⟩))
      all_goals (first
        | refine TG.q0 7 (ho := rfl) (hv := .yes (h := .assign)) (k := ?_)
        | refine TG.lv 7 (ho := rfl) (hv := .assign) (k := ?_))
      all_goals apply TG.fin rfl
      repeat (first
        | with_reducible apply T.seq
        | with_reducible apply T.region
        | with_reducible apply TL.nil
        | with_reducible apply Thn.normal
        | with_reducible apply Thn.ret
        | with_reducible apply Thn.exit
        | with_reducible apply Blk.normal
        | with_reducible apply Blk.ret
        | ((with_reducible refine Blk.exitE ?_ ?_); · rfl)
        | ((with_reducible refine Blk.exitN ?_ ?_); · rfl)
        | with_reducible apply Rnd.ret
        | with_reducible apply Rnd.exit
        | with_reducible apply RndI.ret
        | with_reducible apply RndI.exit
        | with_reducible apply ThnI.ret
        | with_reducible apply ThnI.exit
        | with_reducible apply T.skip
        | with_reducible apply T.block
        | with_reducible apply T.ret
        | with_reducible apply T.exit
        | refine T.condT (h := ?_)
        | refine T.condF (h := ?_)
        | refine TL.pass (k := ?_)
        | refine TL.passN (k := ?_)
        | refine TL.take (k := ?_)
        | refine TL.q (h := .assign) (k := ?_)
        | refine TL.q (h := .move) (k := ?_)
        | (refine TL.callF (h := ref_Seen _ _ _ (by first | assumption | rfl | omega | (simp at *; omega))) (k := ?_); rintro _ _ ⟨_, rfl, rfl⟩)
        | refine TL.q (h := .lenR) (k := ?_)
        | refine TL.q (h := .lenS) (k := ?_)
        | refine TL.q (h := .indexR) (k := ?_)
        | refine TL.q (h := .loadA) (k := ?_)
        | refine TL.q (h := .loadEpA) (k := ?_)
        | (refine TL.e (h := .al) (k := ?_); rintro _ _ ⟨_, rfl, rfl⟩)
        | refine TL.u (h := .stA0) (k := ?_)
        | refine TL.u (h := .st) (k := ?_)
        | refine TL.u (h := .stA) (k := ?_)
        | refine TL.u (h := .stEp) (k := ?_)
        | refine TL.u (h := .stEpA) (k := ?_)
        | refine TL.q (h := .add) (k := ?_)
        | refine TL.q (h := .catS) (k := ?_)
        | refine TL.q (h := .binI) (k := ?_)
        | refine TL.q (h := .binS) (k := ?_))
      rename_i q1 q2 q3 q4
      refine RndI.next (m' := K.length - (i + 1)) (by omega) ⟨i + 1, q4, rfl, by omega, rfl, by rw [ht, e]⟩ (by (repeat (first | exact AllIs.nil | refine AllIs.cons (by (simp only [St.ev, slk, Nat.reduceBEq, cond_true, cond_false]; first | done | rfl)) ?_))) (by (repeat (first | exact Picks.nil | (apply Picks.cons; (repeat (first | exact Pick.here | apply Pick.there))))))
    · have e : K.take i = K := List.take_of_length_le (by omega)
      rw [e]
      repeat (first
        | with_reducible apply T.seq
        | with_reducible apply T.region
        | with_reducible apply TL.nil
        | with_reducible apply Thn.normal
        | with_reducible apply Thn.ret
        | with_reducible apply Thn.exit
        | with_reducible apply Blk.normal
        | with_reducible apply Blk.ret
        | ((with_reducible refine Blk.exitE ?_ ?_); · rfl)
        | ((with_reducible refine Blk.exitN ?_ ?_); · rfl)
        | with_reducible apply Rnd.ret
        | with_reducible apply Rnd.exit
        | with_reducible apply RndI.ret
        | with_reducible apply RndI.exit
        | with_reducible apply ThnI.ret
        | with_reducible apply ThnI.exit
        | with_reducible apply T.skip
        | with_reducible apply T.block
        | with_reducible apply T.ret
        | with_reducible apply T.exit
        | refine T.condT (h := ?_)
        | refine T.condF (h := ?_)
        | refine TL.pass (k := ?_)
        | refine TL.passN (k := ?_)
        | refine TL.take (k := ?_)
        | refine TL.q (h := .assign) (k := ?_)
        | refine TL.q (h := .move) (k := ?_)
        | (refine TL.callF (h := ref_Seen _ _ _ (by first | assumption | rfl | omega | (simp at *; omega))) (k := ?_); rintro _ _ ⟨_, rfl, rfl⟩)
        | refine TL.q (h := .lenR) (k := ?_)
        | refine TL.q (h := .lenS) (k := ?_)
        | refine TL.q (h := .indexR) (k := ?_)
        | refine TL.q (h := .loadA) (k := ?_)
        | refine TL.q (h := .loadEpA) (k := ?_)
        | (refine TL.e (h := .al) (k := ?_); rintro _ _ ⟨_, rfl, rfl⟩)
        | refine TL.u (h := .stA0) (k := ?_)
        | refine TL.u (h := .st) (k := ?_)
        | refine TL.u (h := .stA) (k := ?_)
        | refine TL.u (h := .stEp) (k := ?_)
        | refine TL.u (h := .stEpA) (k := ?_)
        | refine TL.q (h := .add) (k := ?_)
        | refine TL.q (h := .catS) (k := ?_)
        | refine TL.q (h := .binI) (k := ?_)
        | refine TL.q (h := .binS) (k := ?_))
      refine ThnI.done ⟨q, rfl, rfl⟩ (by (repeat (first | exact AllIs.nil | refine AllIs.cons (by (simp only [St.ev, slk, Nat.reduceBEq, cond_true, cond_false]; first | done | rfl)) ?_))) (by (repeat (first | exact Picks.nil | (apply Picks.cons; (repeat (first | exact Pick.here | apply Pick.there))))))
  · rintro l' A j ⟨q, rfl, rfl⟩
    have hB : sealB l = bytesL K := by rw [sealB, hK]
    rw [hB]
    repeat (first
      | with_reducible apply T.seq
      | with_reducible apply T.region
      | with_reducible apply TL.nil
      | with_reducible apply Thn.normal
      | with_reducible apply Thn.ret
      | with_reducible apply Thn.exit
      | with_reducible apply Blk.normal
      | with_reducible apply Blk.ret
      | ((with_reducible refine Blk.exitE ?_ ?_); · rfl)
      | ((with_reducible refine Blk.exitN ?_ ?_); · rfl)
      | with_reducible apply Rnd.ret
      | with_reducible apply Rnd.exit
      | with_reducible apply RndI.ret
      | with_reducible apply RndI.exit
      | with_reducible apply ThnI.ret
      | with_reducible apply ThnI.exit
      | with_reducible apply T.skip
      | with_reducible apply T.block
      | with_reducible apply T.ret
      | with_reducible apply T.exit
      | refine T.condT (h := ?_)
      | refine T.condF (h := ?_)
      | refine TL.pass (k := ?_)
      | refine TL.passN (k := ?_)
      | refine TL.take (k := ?_)
      | refine TL.q (h := .assign) (k := ?_)
      | refine TL.q (h := .move) (k := ?_)
      | (refine TL.callF (h := ref_Seen _ _ _ (by first | assumption | rfl | omega | (simp at *; omega))) (k := ?_); rintro _ _ ⟨_, rfl, rfl⟩)
      | refine TL.q (h := .lenR) (k := ?_)
      | refine TL.q (h := .lenS) (k := ?_)
      | refine TL.q (h := .indexR) (k := ?_)
      | refine TL.q (h := .loadA) (k := ?_)
      | refine TL.q (h := .loadEpA) (k := ?_)
      | (refine TL.e (h := .al) (k := ?_); rintro _ _ ⟨_, rfl, rfl⟩)
      | refine TL.u (h := .stA0) (k := ?_)
      | refine TL.u (h := .st) (k := ?_)
      | refine TL.u (h := .stA) (k := ?_)
      | refine TL.u (h := .stEp) (k := ?_)
      | refine TL.u (h := .stEpA) (k := ?_)
      | refine TL.q (h := .add) (k := ?_)
      | refine TL.q (h := .catS) (k := ?_)
      | refine TL.q (h := .binI) (k := ?_)
      | refine TL.q (h := .binS) (k := ?_))
    (first | refine RetQ.retI (L := [row m 58 9 x.v (l.map MCard.C), row true 5 1 q.v ((bytesL K).map byC)]) (ResIs.r1 Try.results60 (RV.tmp)) (by (repeat (first | exact Picks.nil | (apply Picks.cons; (repeat (first | exact Pick.here | apply Pick.there)))))) ?_ | refine RetQ.norI (L := [row m 58 9 x.v (l.map MCard.C), row true 5 1 q.v ((bytesL K).map byC)]) (ResIs.r1 Try.results60 (RV.tmp)) (by (repeat (first | exact Picks.nil | (apply Picks.cons; (repeat (first | exact Pick.here | apply Pick.there)))))) ?_)
    exact ⟨q, rfl, rfl⟩
theorem ref_Seal (m : Bool) (x : Sl) (l : List MCard) (hl : l.length ≤ 90) (hs : Short l) : Ctr Try.prog 21 #[x.v] [row m 58 9 x.v (l.map MCard.C)]
    fun v L => v = .int .u32 (sumB (sealB l)) ∧ L = [row m 58 9 x.v (l.map MCard.C)] := by
  have hb := bytesL_len (seenK l) hs.seen
  have hsl := seenK_len l
  have hbb : (sealB l).length ≤ 100000 := by unfold sealB; omega
  refine Ctr.of (n := 6) (args := [_]) Try.func21 rfl rfl rfl fun F => ?_
  simp only [List.zipIdx_cons, List.zipIdx_nil, List.map_cons, List.map_nil, Nat.zero_add, Nat.reduceAdd, List.cons_append, List.nil_append]
  repeat (first
    | with_reducible apply T.seq
    | with_reducible apply T.region
    | with_reducible apply TL.nil
    | with_reducible apply Thn.normal
    | with_reducible apply Thn.ret
    | with_reducible apply Thn.exit
    | with_reducible apply Blk.normal
    | with_reducible apply Blk.ret
    | ((with_reducible refine Blk.exitE ?_ ?_); · rfl)
    | ((with_reducible refine Blk.exitN ?_ ?_); · rfl)
    | with_reducible apply Rnd.ret
    | with_reducible apply Rnd.exit
    | with_reducible apply RndI.ret
    | with_reducible apply RndI.exit
    | with_reducible apply ThnI.ret
    | with_reducible apply ThnI.exit
    | with_reducible apply T.skip
    | with_reducible apply T.block
    | with_reducible apply T.ret
    | with_reducible apply T.exit
    | refine T.condT (h := ?_)
    | refine T.condF (h := ?_)
    | refine TL.pass (k := ?_)
    | refine TL.passN (k := ?_)
    | refine TL.take (k := ?_)
    | refine TL.q (h := .assign) (k := ?_)
    | refine TL.q (h := .move) (k := ?_)
    | (refine TL.callF (h := ref_Bytes _ _ _ (by first | assumption | rfl | omega | (simp at *; omega)) (by first | assumption | rfl | omega | (simp at *; omega))) (k := ?_); rintro _ _ ⟨_, rfl, rfl⟩)
    | (refine TL.callF (h := ref_Sum _ _ _ (by first | assumption | rfl | omega | (simp at *; omega))) (k := ?_); rintro _ _ ⟨rfl, rfl⟩))
  (first | refine RetQ.retI (L := [row m 58 9 x.v (l.map MCard.C)]) (ResIs.r1 Try.results21 (RV.tmp)) (by (repeat (first | exact Picks.nil | (apply Picks.cons; (repeat (first | exact Pick.here | apply Pick.there)))))) ?_ | refine RetQ.norI (L := [row m 58 9 x.v (l.map MCard.C)]) (ResIs.r1 Try.results21 (RV.tmp)) (by (repeat (first | exact Picks.nil | (apply Picks.cons; (repeat (first | exact Pick.here | apply Pick.there)))))) ?_)
  exact ⟨rfl, rfl⟩
end Go.Proofs.Ytpbomaelkpjbbaa

