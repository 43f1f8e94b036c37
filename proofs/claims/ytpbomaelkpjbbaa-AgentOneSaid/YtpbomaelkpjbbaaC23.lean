import Derived.Test.YtpbomaelkpjbbaaC22
import Derived.Test.YtpbomaelkpjbbaaB1
namespace Go.Proofs.Ytpbomaelkpjbbaa
open Go.Fw K22
attribute [local irreducible] T TL TG Thn ThnI Blk Rnd RndI RetQ OpV OpE OpU OpK Ctr row cel ep
def startOne : MAgent := (MAgent.new kA kB [0, 1]).want 1 30 1
theorem startOne_j : J0 0 0 [0, 1] startOne := ⟨⟨by decide, ⟨by decide, by decide⟩, ⟨by decide, by decide⟩, by decide, by decide, by decide, by decide, by decide⟩, rfl, rfl, rfl, rfl, rfl⟩
/-- What stands between the rounds. -/
structure OneI (i : Nat) (asked tag : Int) (opn : Bool) (st : MAgent) : Prop where
  j : J0 i tag [0, 1] st
  ar : -100 ≤ asked ∧ asked ≤ i
  tr : 0 ≤ tag ∧ tag ≤ i
  shut : opn = false → st.waits = false
  opened : opn = true → (st.waits = true → st.asked = asked) ∧ (st.waits = false → (i : Int) - asked ≥ 8)
theorem one_none {i : Nat} {asked tag : Int} {opn : Bool} {st st' : MAgent} (h : OneI i asked tag opn st) (hj : J0 ((i : Int) + 1) tag [0, 1] st')
    (hc : (st.waits = true ∧ st'.waits = true ∧ st'.asked = st.asked) ∨ (st'.waits = false ∧ (st.waits = true → (i : Int) + 1 - st.asked ≥ 8))) : OneI (i + 1) asked tag opn st' := by
  obtain ⟨_, ar, tr, hs, ho⟩ := h
  refine ⟨by simpa using hj, ⟨ar.1, by omega⟩, ⟨tr.1, by omega⟩, fun e => ?_, fun e => ⟨fun hw => ?_, fun hw => ?_⟩⟩
  · rcases hc with ⟨h1, h2, h3⟩ | ⟨h1, _⟩
    · rw [hs e] at h1; cases h1
    · exact h1
  · rcases hc with ⟨h1, h2, h3⟩ | ⟨h1, _⟩
    · rw [h3]; exact (ho e).1 h1
    · rw [hw] at h1; cases h1
  · rcases hc with ⟨h1, h2, h3⟩ | ⟨h1, h2⟩
    · rw [hw] at h2; cases h2
    · cases hw2 : st.waits with
      | true => have := h2 hw2; have := (ho e).1 hw2; omega
      | false => have := (ho e).2 hw2; omega
set_option maxRecDepth 10000 in
set_option maxHeartbeats 4000000 in
theorem law_AgentOne (m : Bool) (x : Sl) (xs : List Int) (hx : TOk xs) :
    Ctr Try.prog 9 #[x.v] [row m 3 1 x.v (xs.map intC)] fun v L => v = .bool true ∧ L = [row m 3 1 x.v (xs.map intC)] := by
  refine Ctr.of (n := 96) (args := [_]) Try.func9 rfl rfl rfl fun F => ?_
  simp only [List.zipIdx_cons, List.zipIdx_nil, List.map_cons, List.map_nil, Nat.zero_add, Nat.reduceAdd, List.cons_append, List.nil_append]
  repeat (first
    | with_reducible apply T.seq
    | with_reducible apply T.region
    | with_reducible apply TL.nil
    | with_reducible apply Thn.normal
    | with_reducible apply Thn.ret
    | with_reducible apply Thn.exit
    | with_reducible apply Blk.normal
    | with_reducible apply Blk.ret
    | ((with_reducible refine Blk.exitE ?_ ?_); · rfl)
    | ((with_reducible refine Blk.exitN ?_ ?_); · rfl)
    | with_reducible apply Rnd.ret
    | with_reducible apply Rnd.exit
    | with_reducible apply RndI.ret
    | with_reducible apply RndI.exit
    | with_reducible apply ThnI.ret
    | with_reducible apply ThnI.exit
    | with_reducible apply T.skip
    | with_reducible apply T.block
    | with_reducible apply T.ret
    | with_reducible apply T.exit
    | refine T.condT (h := ?_)
    | refine T.condF (h := ?_)
    | refine TL.pass (k := ?_)
    | refine TL.passN (k := ?_)
    | refine TL.take (k := ?_)
    | refine TL.q (h := .assign) (k := ?_)
    | refine TL.q (h := .build) (k := ?_)
    | (refine TL.e (h := .bs) (k := ?_); rintro _ _ ⟨_, rfl, rfl⟩)
    | refine TL.q (h := .move) (k := ?_)
    | refine TL.q (h := .eqNil) (k := ?_)
    | (refine TL.e (h := .bx) (k := ?_); rintro _ _ ⟨_, rfl, rfl⟩)
    | refine TL.q (h := .add) (k := ?_)
    | refine TL.q (h := .catS) (k := ?_)
    | refine TL.q (h := .lenR) (k := ?_)
    | refine TL.q (h := .lenS) (k := ?_)
    | refine TL.q (h := .sub) (k := ?_)
    | refine TL.q (h := .pickT) (k := ?_)
    | refine TL.q (h := .pickF) (k := ?_)
    | refine TL.q (h := .indexR) (k := ?_)
    | refine TL.q (h := .fieldAddr) (k := ?_)
    | refine TL.q (h := .fieldEp) (k := ?_)
    | refine TL.q (h := .load) (k := ?_)
    | refine TL.q (h := .loadEp) (k := ?_)
    | (refine TL.callF (h := tape_Next _ _ _ _ _ _ (by first | assumption | rfl | omega | (simp at *; omega))) (k := ?_); rintro _ _ ⟨rfl, rfl⟩)
    | refine TL.u (h := .st) (k := ?_)
    | refine TL.u (h := .stA) (k := ?_)
    | refine TL.u (h := .stEp) (k := ?_)
    | refine TL.u (h := .stEpA) (k := ?_)
    | (refine TL.callF (h := known22) (k := ?_); rintro _ _ ⟨rfl, rfl⟩)
    | refine TL.q (h := .binI) (k := ?_)
    | refine TL.q (h := .binS) (k := ?_)
    | refine TL.q (h := .pickB) (k := ?_))
  rename_i q
  refine TL.callF (h := agent_New kA kB true q [0, 1]) (k := ?_)
  rintro _ _ (⟨_, b, cb, sv, rfl, rfl⟩ | ⟨h, _, _⟩)
  rotate_left
  · exact absurd h (by decide)
  repeat (first
    | with_reducible apply T.seq
    | with_reducible apply T.region
    | with_reducible apply TL.nil
    | with_reducible apply Thn.normal
    | with_reducible apply Thn.ret
    | with_reducible apply Thn.exit
    | with_reducible apply Blk.normal
    | with_reducible apply Blk.ret
    | ((with_reducible refine Blk.exitE ?_ ?_); · rfl)
    | ((with_reducible refine Blk.exitN ?_ ?_); · rfl)
    | with_reducible apply Rnd.ret
    | with_reducible apply Rnd.exit
    | with_reducible apply RndI.ret
    | with_reducible apply RndI.exit
    | with_reducible apply ThnI.ret
    | with_reducible apply ThnI.exit
    | with_reducible apply T.skip
    | with_reducible apply T.block
    | with_reducible apply T.ret
    | with_reducible apply T.exit
    | refine T.condT (h := ?_)
    | refine T.condF (h := ?_)
    | refine TL.pass (k := ?_)
    | refine TL.passN (k := ?_)
    | refine TL.take (k := ?_)
    | refine TL.q (h := .assign) (k := ?_)
    | refine TL.q (h := .build) (k := ?_)
    | (refine TL.e (h := .bs) (k := ?_); rintro _ _ ⟨_, rfl, rfl⟩)
    | refine TL.q (h := .move) (k := ?_)
    | refine TL.q (h := .eqNil) (k := ?_)
    | (refine TL.e (h := .bx) (k := ?_); rintro _ _ ⟨_, rfl, rfl⟩)
    | refine TL.q (h := .add) (k := ?_)
    | refine TL.q (h := .catS) (k := ?_)
    | refine TL.q (h := .lenR) (k := ?_)
    | refine TL.q (h := .lenS) (k := ?_)
    | refine TL.q (h := .sub) (k := ?_)
    | refine TL.q (h := .pickT) (k := ?_)
    | refine TL.q (h := .pickF) (k := ?_)
    | refine TL.q (h := .indexR) (k := ?_)
    | refine TL.q (h := .fieldAddr) (k := ?_)
    | refine TL.q (h := .fieldEp) (k := ?_)
    | refine TL.q (h := .load) (k := ?_)
    | refine TL.q (h := .loadEp) (k := ?_)
    | (refine TL.callF (h := tape_Next _ _ _ _ _ _ (by first | assumption | rfl | omega | (simp at *; omega))) (k := ?_); rintro _ _ ⟨rfl, rfl⟩)
    | refine TL.u (h := .st) (k := ?_)
    | refine TL.u (h := .stA) (k := ?_)
    | refine TL.u (h := .stEp) (k := ?_)
    | refine TL.u (h := .stEpA) (k := ?_)
    | (refine TL.callF (h := known22) (k := ?_); rintro _ _ ⟨rfl, rfl⟩)
    | refine TL.q (h := .binI) (k := ?_)
    | refine TL.q (h := .binS) (k := ?_)
    | refine TL.q (h := .pickB) (k := ?_))
  rename_i bt
  refine TL.callF (h := agent_Want b (MAgent.new kA kB [0, 1]) sv cb Sl.nil true 1 30 1) (k := ?_)
  rintro _ _ ⟨rfl, wv1, rfl⟩
  rw [show (MAgent.new kA kB [0, 1]).want 1 30 1 = startOne from rfl]
  repeat (first
    | with_reducible apply T.seq
    | with_reducible apply T.region
    | with_reducible apply TL.nil
    | with_reducible apply Thn.normal
    | with_reducible apply Thn.ret
    | with_reducible apply Thn.exit
    | with_reducible apply Blk.normal
    | with_reducible apply Blk.ret
    | ((with_reducible refine Blk.exitE ?_ ?_); · rfl)
    | ((with_reducible refine Blk.exitN ?_ ?_); · rfl)
    | with_reducible apply Rnd.ret
    | with_reducible apply Rnd.exit
    | with_reducible apply RndI.ret
    | with_reducible apply RndI.exit
    | with_reducible apply ThnI.ret
    | with_reducible apply ThnI.exit
    | with_reducible apply T.skip
    | with_reducible apply T.block
    | with_reducible apply T.ret
    | with_reducible apply T.exit
    | refine T.condT (h := ?_)
    | refine T.condF (h := ?_)
    | refine TL.pass (k := ?_)
    | refine TL.passN (k := ?_)
    | refine TL.take (k := ?_)
    | refine TL.q (h := .assign) (k := ?_)
    | refine TL.q (h := .build) (k := ?_)
    | (refine TL.e (h := .bs) (k := ?_); rintro _ _ ⟨_, rfl, rfl⟩)
    | refine TL.q (h := .move) (k := ?_)
    | refine TL.q (h := .eqNil) (k := ?_)
    | (refine TL.e (h := .bx) (k := ?_); rintro _ _ ⟨_, rfl, rfl⟩)
    | refine TL.q (h := .add) (k := ?_)
    | refine TL.q (h := .catS) (k := ?_)
    | refine TL.q (h := .lenR) (k := ?_)
    | refine TL.q (h := .lenS) (k := ?_)
    | refine TL.q (h := .sub) (k := ?_)
    | refine TL.q (h := .pickT) (k := ?_)
    | refine TL.q (h := .pickF) (k := ?_)
    | refine TL.q (h := .indexR) (k := ?_)
    | refine TL.q (h := .fieldAddr) (k := ?_)
    | refine TL.q (h := .fieldEp) (k := ?_)
    | refine TL.q (h := .load) (k := ?_)
    | refine TL.q (h := .loadEp) (k := ?_)
    | (refine TL.callF (h := tape_Next _ _ _ _ _ _ (by first | assumption | rfl | omega | (simp at *; omega))) (k := ?_); rintro _ _ ⟨rfl, rfl⟩)
    | refine TL.u (h := .st) (k := ?_)
    | refine TL.u (h := .stA) (k := ?_)
    | refine TL.u (h := .stEp) (k := ?_)
    | refine TL.u (h := .stEpA) (k := ?_)
    | (refine TL.callF (h := known22) (k := ?_); rintro _ _ ⟨rfl, rfl⟩)
    | refine TL.q (h := .binI) (k := ?_)
    | refine TL.q (h := .binS) (k := ?_)
    | refine TL.q (h := .pickB) (k := ?_))
  refine T.blkW (fun l A => l = [(2, .bool false)] ∧ A = [row m 3 1 x.v (xs.map intC), F]) ?_ ?_
  · refine T.loopI (fun q' l A => ∃ (i : Nat) (asked tag : Int) (opn : Bool) (st : MAgent) (wv : Sl) (at_ : Nat), q' = 150 - i ∧ i ≤ 150 ∧ OneI i asked tag opn st ∧
      l = [(9, .int .i64 (i : Int)), (5, .int .i64 (i : Int)), (6, .int .i64 asked), (7, .int .i64 tag), (8, .bool opn), (3, .pointer (some ⟨b, 0, none⟩)), (4, .pointer (some ⟨bt, 0, none⟩)), (2, .bool false)] ∧
      A = agL b st sv cb wv true ++ [cel true bt 29 [x.v, .int .i64 at_], row m 3 1 x.v (xs.map intC), F]) ⟨0, -100, 0, false, startOne, wv1, 0, rfl, by omega, ⟨startOne_j, by decide, by decide, fun _ => rfl, fun h => by cases h⟩, rfl, rfl⟩ (by (repeat (first | exact AllIs.nil | refine AllIs.cons (by (simp only [St.ev, slk, Nat.reduceBEq, cond_true, cond_false]; first | done | rfl)) ?_))) (by (repeat (first | exact Picks.nil | (apply Picks.cons; (repeat (first | exact Pick.here | apply Pick.there)))))) ?_
    rintro q' l A j ⟨i, asked, tag, opn, st, wv, at_, rfl, hi, hI, rfl, rfl⟩
    simp only [agL, List.cons_append, List.nil_append]
    repeat (first
      | with_reducible apply T.seq
      | with_reducible apply T.region
      | with_reducible apply TL.nil
      | with_reducible apply Thn.normal
      | with_reducible apply Thn.ret
      | with_reducible apply Thn.exit
      | with_reducible apply Blk.normal
      | with_reducible apply Blk.ret
      | ((with_reducible refine Blk.exitE ?_ ?_); · rfl)
      | ((with_reducible refine Blk.exitN ?_ ?_); · rfl)
      | with_reducible apply Rnd.ret
      | with_reducible apply Rnd.exit
      | with_reducible apply RndI.ret
      | with_reducible apply RndI.exit
      | with_reducible apply ThnI.ret
      | with_reducible apply ThnI.exit
      | with_reducible apply T.skip
      | with_reducible apply T.block
      | with_reducible apply T.ret
      | with_reducible apply T.exit
      | refine T.condT (h := ?_)
      | refine T.condF (h := ?_)
      | refine TL.pass (k := ?_)
      | refine TL.passN (k := ?_)
      | refine TL.take (k := ?_)
      | refine TL.q (h := .assign) (k := ?_)
      | refine TL.q (h := .build) (k := ?_)
      | (refine TL.e (h := .bs) (k := ?_); rintro _ _ ⟨_, rfl, rfl⟩)
      | refine TL.q (h := .move) (k := ?_)
      | refine TL.q (h := .eqNil) (k := ?_)
      | (refine TL.e (h := .bx) (k := ?_); rintro _ _ ⟨_, rfl, rfl⟩)
      | refine TL.q (h := .add) (k := ?_)
      | refine TL.q (h := .catS) (k := ?_)
      | refine TL.q (h := .lenR) (k := ?_)
      | refine TL.q (h := .lenS) (k := ?_)
      | refine TL.q (h := .sub) (k := ?_)
      | refine TL.q (h := .pickT) (k := ?_)
      | refine TL.q (h := .pickF) (k := ?_)
      | refine TL.q (h := .indexR) (k := ?_)
      | refine TL.q (h := .fieldAddr) (k := ?_)
      | refine TL.q (h := .fieldEp) (k := ?_)
      | refine TL.q (h := .load) (k := ?_)
      | refine TL.q (h := .loadEp) (k := ?_)
      | (refine TL.callF (h := tape_Next _ _ _ _ _ _ (by first | assumption | rfl | omega | (simp at *; omega))) (k := ?_); rintro _ _ ⟨rfl, rfl⟩)
      | refine TL.u (h := .st) (k := ?_)
      | refine TL.u (h := .stA) (k := ?_)
      | refine TL.u (h := .stEp) (k := ?_)
      | refine TL.u (h := .stEpA) (k := ?_)
      | (refine TL.callF (h := known22) (k := ?_); rintro _ _ ⟨rfl, rfl⟩)
      | refine TL.q (h := .binI) (k := ?_)
      | refine TL.q (h := .binS) (k := ?_)
      | refine TL.q (h := .pickB) (k := ?_))
    refine T.condD (ht := fun hlt => ?_) (hf := fun hlt => ?_)
    · have hlt' : i < 150 := by omega
      have hnow := hI.j.now
      have hadd : (i : Int) + 1 = ((i + 1 : Nat) : Int) := rfl
      repeat (first
        | with_reducible apply T.seq
        | with_reducible apply T.region
        | with_reducible apply TL.nil
        | with_reducible apply Thn.normal
        | with_reducible apply Thn.ret
        | with_reducible apply Thn.exit
        | with_reducible apply Blk.normal
        | with_reducible apply Blk.ret
        | ((with_reducible refine Blk.exitE ?_ ?_); · rfl)
        | ((with_reducible refine Blk.exitN ?_ ?_); · rfl)
        | with_reducible apply Rnd.ret
        | with_reducible apply Rnd.exit
        | with_reducible apply RndI.ret
        | with_reducible apply RndI.exit
        | with_reducible apply ThnI.ret
        | with_reducible apply ThnI.exit
        | with_reducible apply T.skip
        | with_reducible apply T.block
        | with_reducible apply T.ret
        | with_reducible apply T.exit
        | refine T.condT (h := ?_)
        | refine T.condF (h := ?_)
        | refine TL.pass (k := ?_)
        | refine TL.passN (k := ?_)
        | refine TL.take (k := ?_)
        | refine TL.q (h := .assign) (k := ?_)
        | refine TL.q (h := .build) (k := ?_)
        | (refine TL.e (h := .bs) (k := ?_); rintro _ _ ⟨_, rfl, rfl⟩)
        | refine TL.q (h := .move) (k := ?_)
        | refine TL.q (h := .eqNil) (k := ?_)
        | (refine TL.e (h := .bx) (k := ?_); rintro _ _ ⟨_, rfl, rfl⟩)
        | refine TL.q (h := .add) (k := ?_)
        | refine TL.q (h := .catS) (k := ?_)
        | refine TL.q (h := .lenR) (k := ?_)
        | refine TL.q (h := .lenS) (k := ?_)
        | refine TL.q (h := .sub) (k := ?_)
        | refine TL.q (h := .pickT) (k := ?_)
        | refine TL.q (h := .pickF) (k := ?_)
        | refine TL.q (h := .indexR) (k := ?_)
        | refine TL.q (h := .fieldAddr) (k := ?_)
        | refine TL.q (h := .fieldEp) (k := ?_)
        | refine TL.q (h := .load) (k := ?_)
        | refine TL.q (h := .loadEp) (k := ?_)
        | (refine TL.callF (h := tape_Next _ _ _ _ _ _ (by first | assumption | rfl | omega | (simp at *; omega))) (k := ?_); rintro _ _ ⟨rfl, rfl⟩)
        | refine TL.u (h := .st) (k := ?_)
        | refine TL.u (h := .stA) (k := ?_)
        | refine TL.u (h := .stEp) (k := ?_)
        | refine TL.u (h := .stEpA) (k := ?_)
        | (refine TL.callF (h := known22) (k := ?_); rintro _ _ ⟨rfl, rfl⟩)
        | refine TL.q (h := .binI) (k := ?_)
        | refine TL.q (h := .binS) (k := ?_)
        | refine TL.q (h := .pickB) (k := ?_))
      refine TL.callF (h := agent_Tick b st sv cb wv true 1 1 rfl hI.j.ok (by omega)) (k := ?_)
      rintro _ _ ⟨ov, wv3, rfl, rfl⟩
      rcases one_step hI.j (by omega) with ⟨st', ht, hj, hc⟩ | ⟨mm, xx, st', ht, hS, hw⟩
      · rw [ht]
        simp only [List.map_nil, agL, List.cons_append, List.nil_append]
        have hn := one_none hI hj hc
        repeat (first
          | with_reducible apply T.seq
          | with_reducible apply T.region
          | with_reducible apply TL.nil
          | with_reducible apply Thn.normal
          | with_reducible apply Thn.ret
          | with_reducible apply Thn.exit
          | with_reducible apply Blk.normal
          | with_reducible apply Blk.ret
          | ((with_reducible refine Blk.exitE ?_ ?_); · rfl)
          | ((with_reducible refine Blk.exitN ?_ ?_); · rfl)
          | with_reducible apply Rnd.ret
          | with_reducible apply Rnd.exit
          | with_reducible apply RndI.ret
          | with_reducible apply RndI.exit
          | with_reducible apply ThnI.ret
          | with_reducible apply ThnI.exit
          | with_reducible apply T.skip
          | with_reducible apply T.block
          | with_reducible apply T.ret
          | with_reducible apply T.exit
          | refine T.condT (h := ?_)
          | refine T.condF (h := ?_)
          | refine TL.pass (k := ?_)
          | refine TL.passN (k := ?_)
          | refine TL.take (k := ?_)
          | refine TL.q (h := .assign) (k := ?_)
          | refine TL.q (h := .build) (k := ?_)
          | (refine TL.e (h := .bs) (k := ?_); rintro _ _ ⟨_, rfl, rfl⟩)
          | refine TL.q (h := .move) (k := ?_)
          | refine TL.q (h := .eqNil) (k := ?_)
          | (refine TL.e (h := .bx) (k := ?_); rintro _ _ ⟨_, rfl, rfl⟩)
          | refine TL.q (h := .add) (k := ?_)
          | refine TL.q (h := .catS) (k := ?_)
          | refine TL.q (h := .lenR) (k := ?_)
          | refine TL.q (h := .lenS) (k := ?_)
          | refine TL.q (h := .sub) (k := ?_)
          | refine TL.q (h := .pickT) (k := ?_)
          | refine TL.q (h := .pickF) (k := ?_)
          | refine TL.q (h := .indexR) (k := ?_)
          | refine TL.q (h := .fieldAddr) (k := ?_)
          | refine TL.q (h := .fieldEp) (k := ?_)
          | refine TL.q (h := .load) (k := ?_)
          | refine TL.q (h := .loadEp) (k := ?_)
          | (refine TL.callF (h := tape_Next _ _ _ _ _ _ (by first | assumption | rfl | omega | (simp at *; omega))) (k := ?_); rintro _ _ ⟨rfl, rfl⟩)
          | refine TL.u (h := .st) (k := ?_)
          | refine TL.u (h := .stA) (k := ?_)
          | refine TL.u (h := .stEp) (k := ?_)
          | refine TL.u (h := .stEpA) (k := ?_)
          | (refine TL.callF (h := known22) (k := ?_); rintro _ _ ⟨rfl, rfl⟩)
          | refine TL.q (h := .binI) (k := ?_)
          | refine TL.q (h := .binS) (k := ?_)
          | refine TL.q (h := .pickB) (k := ?_))
        refine RndI.next (m' := 150 - (i + 1)) (by omega) ⟨i + 1, asked, tag, opn, st', wv3, at_, rfl, by omega, hn, rfl, rfl⟩ (by (repeat (first | exact AllIs.nil | refine AllIs.cons (by (simp only [St.ev, slk, Nat.reduceBEq, cond_true, cond_false]; first | done | rfl)) ?_))) (by (repeat (first | exact Picks.nil | (apply Picks.cons; (repeat (first | exact Pick.here | apply Pick.there))))))
      · rw [ht]
        simp only [List.map_cons, List.map_nil, agL, List.cons_append, List.nil_append]
        have hc0 : [sentC (mm, xx)][0]? = some (sentC (mm, xx)) := rfl
        have f2 : (mm.tag != tag + 1) = false := by rw [hS.tg]; simp
        have htr := hI.tr
        have har := hI.ar
        have f3 : opn = true → decide ((i : Int) + 1 - asked < 8) = false := fun ho => decide_eq_false (by
          have h := hI.opened ho
          cases hw2 : st.waits with
          | true => have := hw hw2; have := h.1 hw2; omega
          | false => have := h.2 hw2; omega)
        have hg1 : decide ((([sentC (mm, xx)].length : Nat) : Int) > 1) = false := rfl
        have hg2 : ((([sentC (mm, xx)].length : Nat) : Int) == 1) = true := rfl
        have hg3 : ((([sentC (mm, xx)].length : Nat) : Int) == 0) = false := rfl
        have hend : ∀ st2 : MAgent, J0 ((i : Int) + 1) (tag + 1) [0, 1] st2 → st2.waits = false → OneI (i + 1) ((i : Int) + 1) (tag + 1) false st2 := fun st2 h1 h2 =>
          ⟨by simpa using h1, ⟨by omega, by omega⟩, ⟨by omega, by omega⟩, fun _ => h2, fun h => by cases h⟩
        have hend2 : OneI (i + 1) ((i : Int) + 1) (tag + 1) true st' :=
          ⟨by simpa using hS.j, ⟨by omega, by omega⟩, ⟨by omega, by omega⟩, fun h => (by cases h), fun _ => ⟨fun _ => hS.asked, fun h => by rw [hS.waits] at h; cases h⟩⟩
        by_cases h5 : mm.op = 5
        · obtain ⟨ha, hid, hrok⟩ := hS.fetch h5
          have hrc := (agent_ReceiveF b st' sv cb wv3 true xx (tag + 1) xx hS.srv).mono (post' := fun v L => v = .int .i64 0 ∧ L = agL b st'.fed sv cb wv3 true) (fun v L h => by
            rcases h with ⟨_, h⟩ | ⟨h, _⟩
            · exact h
            · rw [hrok] at h; cases h)
          have hwt := agent_Waits b st'.fed sv cb wv3 true
          have hfw : st'.fed.waits = false := rfl
          have hj2 := hend st'.fed hS.j.fed hfw
          have hso : (mm.op == 5) = true := by rw [h5]; rfl
          have htg := hS.tg
          obtain ⟨k0, op0, s0, c0, t0, n0, q0, app0, id0, u0, z0⟩ := mm
          simp only at h5 ha hid htg
          subst h5 ha hid htg
          simp only [MMsg.V, MMsg.C, feedM, agL, agC] at hrc hwt
          simp only [sentC, MMsg.S] at hc0 hg1 hg2 hg3 ⊢
          have f4 : opn = false ∨ opn = true ∧ decide ((i : Int) + 1 - asked < 8) = false := by
            cases opn with
            | true => exact .inr ⟨rfl, f3 rfl⟩
            | false => exact .inl rfl
          rcases f4 with rfl | ⟨rfl, f5⟩
          all_goals skip
          all_goals (repeat' (first
            | with_reducible apply T.seq
            | with_reducible apply T.region
            | with_reducible apply TL.nil
            | with_reducible apply Thn.normal
            | with_reducible apply Thn.ret
            | with_reducible apply Thn.exit
            | with_reducible apply Blk.normal
            | with_reducible apply Blk.ret
            | ((with_reducible refine Blk.exitE ?_ ?_); · rfl)
            | ((with_reducible refine Blk.exitN ?_ ?_); · rfl)
            | with_reducible apply Rnd.ret
            | with_reducible apply Rnd.exit
            | with_reducible apply RndI.ret
            | with_reducible apply RndI.exit
            | with_reducible apply ThnI.ret
            | with_reducible apply ThnI.exit
            | with_reducible apply T.skip
            | with_reducible apply T.block
            | with_reducible apply T.ret
            | with_reducible apply T.exit
            | refine T.condT (h := ?_)
            | refine T.condF (h := ?_)
            | refine TL.pass (k := ?_)
            | refine TL.passN (k := ?_)
            | refine TL.take (k := ?_)
            | refine TL.q (h := .assign) (k := ?_)
            | refine TL.q (h := .build) (k := ?_)
            | (refine TL.e (h := .bs) (k := ?_); rintro _ _ ⟨_, rfl, rfl⟩)
            | refine TL.q (h := .move) (k := ?_)
            | refine TL.q (h := .eqNil) (k := ?_)
            | (refine TL.e (h := .bx) (k := ?_); rintro _ _ ⟨_, rfl, rfl⟩)
            | refine TL.q (h := .add) (k := ?_)
            | refine TL.q (h := .catS) (k := ?_)
            | refine TL.q (h := .lenR) (k := ?_)
            | refine TL.q (h := .lenS) (k := ?_)
            | refine TL.q (h := .sub) (k := ?_)
            | refine TL.q (h := .pickT) (k := ?_)
            | refine TL.q (h := .pickF) (k := ?_)
            | refine TL.q (h := .indexR) (k := ?_)
            | refine TL.q (h := .fieldAddr) (k := ?_)
            | refine TL.q (h := .fieldEp) (k := ?_)
            | refine TL.q (h := .load) (k := ?_)
            | refine TL.q (h := .loadEp) (k := ?_)
            | (refine TL.callF (h := tape_Next _ _ _ _ _ _ (by first | assumption | rfl | omega | (simp at *; omega))) (k := ?_); rintro _ _ ⟨rfl, rfl⟩)
            | refine TL.u (h := .st) (k := ?_)
            | refine TL.u (h := .stA) (k := ?_)
            | refine TL.u (h := .stEp) (k := ?_)
            | refine TL.u (h := .stEpA) (k := ?_)
            | (refine TL.callF (h := known22) (k := ?_); rintro _ _ ⟨rfl, rfl⟩)
            | refine TL.q (h := .binI) (k := ?_)
            | refine TL.q (h := .binS) (k := ?_)
            | refine TL.q (h := .pickB) (k := ?_)
            | (skip
               all_goals refine TG.start (i := 18) mixed rfl ?_
               all_goals (first
                 | refine TG.q0 0 (ho := rfl) (hv := .yes (h := .move)) (k := ?_)
                 | refine TG.lv 0 (ho := rfl) (hv := .move) (k := ?_))
               all_goals (first
                 | refine TG.qIndexR 1 (ho := rfl) (h := ?_)
                 | refine TG.lv 1 (ho := rfl) (hv := .indexR) (k := ?_))
               all_goals (first
                 | refine TG.q0 2 (ho := rfl) (hv := .yes (h := .fieldAddr)) (k := ?_)
                 | refine TG.qFieldEp 2 (ho := rfl) (h := ?_)
                 | refine TG.lv 2 (ho := rfl) (hv := .fieldAddr) (k := ?_)
                 | refine TG.lv 2 (ho := rfl) (hv := .fieldEp) (k := ?_))
               all_goals (first
                 | refine TG.q0 3 (ho := rfl) (hv := .yes (h := .fieldAddr)) (k := ?_)
                 | refine TG.qFieldEp 3 (ho := rfl) (h := ?_)
                 | refine TG.lv 3 (ho := rfl) (hv := .fieldAddr) (k := ?_)
                 | refine TG.lv 3 (ho := rfl) (hv := .fieldEp) (k := ?_))
               all_goals (first
                 | refine TG.qLoad 4 (ho := rfl) (k := ?_)
                 | refine TG.qLoadEp 4 (ho := rfl) (h := ?_)
                 | refine TG.lv 4 (ho := rfl) (hv := .load) (k := ?_)
                 | refine TG.lv 4 (ho := rfl) (hv := .loadEp) (k := ?_))
               all_goals (first
                 | refine TG.q0 5 (ho := rfl) (hv := .yes (h := .move)) (k := ?_)
                 | refine TG.lv 5 (ho := rfl) (hv := .move) (k := ?_))
               all_goals (first
                 | refine TG.qIndexR 6 (ho := rfl) (h := ?_)
                 | refine TG.lv 6 (ho := rfl) (hv := .indexR) (k := ?_))
               all_goals (first
                 | refine TG.q0 7 (ho := rfl) (hv := .yes (h := .fieldAddr)) (k := ?_)
                 | refine TG.qFieldEp 7 (ho := rfl) (h := ?_)
                 | refine TG.lv 7 (ho := rfl) (hv := .fieldAddr) (k := ?_)
                 | refine TG.lv 7 (ho := rfl) (hv := .fieldEp) (k := ?_))
               all_goals (first
                 | refine TG.q0 8 (ho := rfl) (hv := .yes (h := .fieldAddr)) (k := ?_)
                 | refine TG.qFieldEp 8 (ho := rfl) (h := ?_)
                 | refine TG.lv 8 (ho := rfl) (hv := .fieldAddr) (k := ?_)
                 | refine TG.lv 8 (ho := rfl) (hv := .fieldEp) (k := ?_))
               all_goals (first
                 | refine TG.qLoadA 9 (ho := rfl) (k := ?_)
                 | refine TG.qLoadEpA 9 (ho := rfl) (h := ?_)
                 | refine TG.lv 9 (ho := rfl) (hv := .loadA) (k := ?_)
                 | refine TG.lv 9 (ho := rfl) (hv := .loadEpA) (k := ?_))
               all_goals (first
                 | refine TG.q0 10 (ho := rfl) (hv := .yes (h := .move)) (k := ?_)
                 | refine TG.lv 10 (ho := rfl) (hv := .move) (k := ?_))
               all_goals (first
                 | refine TG.q0 11 (ho := rfl) (hv := .yes (h := .build)) (k := ?_)
                 | refine TG.lv 11 (ho := rfl) (hv := .build) (k := ?_))
               all_goals (first
                 | (refine TG.ld 12 (ho := rfl) (hK := .ofE (h := .al)) (k := ?_); rintro _ _ ⟨_, rfl, rfl⟩; refine ⟨by (repeat (first | exact Held.nil | apply Held.zero | (apply Held.one; (repeat (first | exact Pick.here | apply Pick.there))))), ?_⟩))
               all_goals (first
                 | refine TG.lu 13 (ho := rfl) (hK := .st) (k := ?_)
                 | refine TG.lu 13 (ho := rfl) (hK := .stA) (k := ?_)
                 | refine TG.lu 13 (ho := rfl) (hK := .stEp) (k := ?_)
                 | refine TG.lu 13 (ho := rfl) (hK := .stEpA) (k := ?_))
               all_goals apply TG.fin rfl)
            | (skip
               all_goals refine TG.start (i := 21) mixed rfl ?_
               all_goals (first
                 | refine TG.q0 0 (ho := rfl) (hv := .yes (h := .move)) (k := ?_)
                 | refine TG.lv 0 (ho := rfl) (hv := .move) (k := ?_))
               all_goals (first
                 | refine TG.q0 1 (ho := rfl) (hv := .yes (h := .move)) (k := ?_)
                 | refine TG.lv 1 (ho := rfl) (hv := .move) (k := ?_))
               all_goals (first
                 | refine TG.qIndexR 2 (ho := rfl) (h := ?_)
                 | refine TG.lv 2 (ho := rfl) (hv := .indexR) (k := ?_))
               all_goals (first
                 | refine TG.q0 3 (ho := rfl) (hv := .yes (h := .fieldAddr)) (k := ?_)
                 | refine TG.qFieldEp 3 (ho := rfl) (h := ?_)
                 | refine TG.lv 3 (ho := rfl) (hv := .fieldAddr) (k := ?_)
                 | refine TG.lv 3 (ho := rfl) (hv := .fieldEp) (k := ?_))
               all_goals (first
                 | refine TG.qLoad 4 (ho := rfl) (k := ?_)
                 | refine TG.qLoadEp 4 (ho := rfl) (h := ?_)
                 | refine TG.lv 4 (ho := rfl) (hv := .load) (k := ?_)
                 | refine TG.lv 4 (ho := rfl) (hv := .loadEp) (k := ?_))
               all_goals (first
                 | refine TG.qLoadA 5 (ho := rfl) (k := ?_)
                 | refine TG.qLoadEpA 5 (ho := rfl) (h := ?_)
                 | refine TG.lv 5 (ho := rfl) (hv := .loadA) (k := ?_)
                 | refine TG.lv 5 (ho := rfl) (hv := .loadEpA) (k := ?_))
               all_goals (first
                 | (refine TG.ld 6 (ho := rfl) (hK := .callF (h := hrc)) (k := ?_); rintro _ _ ⟨_, rfl, rfl, rfl⟩; refine ⟨by (repeat (first | exact Held.nil | apply Held.zero | (apply Held.one; (repeat (first | exact Pick.here | apply Pick.there))))), ?_⟩)
                 | (refine TG.ld 6 (ho := rfl) (hK := .callF (h := hrc)) (k := ?_); rintro _ _ ⟨_, rfl, rfl, rfl⟩; refine ⟨by (repeat (first | exact Held.nil | apply Held.zero | (apply Held.one; (repeat (first | exact Pick.here | apply Pick.there))))), ?_⟩))
               all_goals (first
                 | refine TG.q0 7 (ho := rfl) (hv := .yes (h := .binI)) (k := ?_)
                 | refine TG.lv 7 (ho := rfl) (hv := .binI) (k := ?_))
               all_goals (first
                 | refine TG.q0 8 (ho := rfl) (hv := .yes (h := .move)) (k := ?_)
                 | refine TG.lv 8 (ho := rfl) (hv := .move) (k := ?_))
               all_goals try (first | refine TG.litT 91 (k := ?_) | refine TG.litF 91 (k := ?_) | refine TG.lit 91 (fun _ => ?_) (fun _ => ?_))
               all_goals (first
                 | refine TG.q0 9 (ho := rfl) (hv := .no) (k := ?_)
                 | refine TG.q0 9 (ho := rfl) (hv := .yes (h := .move)) (k := ?_)
                 | refine TG.lv 9 (ho := rfl) (hv := .move) (k := ?_))
               all_goals (first
                 | refine TG.q0 10 (ho := rfl) (hv := .no) (k := ?_)
                 | (refine TG.ld 10 (ho := rfl) (hK := .callF (h := hwt)) (k := ?_); rintro _ _ ⟨_, rfl, rfl, rfl⟩; refine ⟨by (repeat (first | exact Held.nil | apply Held.zero | (apply Held.one; (repeat (first | exact Pick.here | apply Pick.there))))), ?_⟩)
                 | (refine TG.ld 10 (ho := rfl) (hK := .callF (h := agent_Waits _ st' _ _ _ _)) (k := ?_); rintro _ _ ⟨_, rfl, rfl, rfl⟩; refine ⟨by (repeat (first | exact Held.nil | apply Held.zero | (apply Held.one; (repeat (first | exact Pick.here | apply Pick.there))))), ?_⟩))
               all_goals (first
                 | refine TG.q0 11 (ho := rfl) (hv := .yes (h := .pickT)) (k := ?_)
                 | refine TG.q0 11 (ho := rfl) (hv := .yes (h := .pickF)) (k := ?_)
                 | refine TG.q0 11 (ho := rfl) (hv := .yes (h := .pickB)) (k := ?_)
                 | refine TG.lv 11 (ho := rfl) (hv := .pickT) (k := ?_)
                 | refine TG.lv 11 (ho := rfl) (hv := .pickF) (k := ?_)
                 | refine TG.lv 11 (ho := rfl) (hv := .pickB) (k := ?_))
               all_goals apply TG.fin rfl)
            | refine TL.gT (k := ?_)
            | refine TL.gF (k := ?_)
            | refine T.cT (h := ?_)
            | refine T.cF (h := ?_)
            | (refine TL.gcase (ht := fun _ => ?_) (hf := fun _ => ?_))
            | refine T.cond (by (simp only [St.ev, slk, Nat.reduceBEq, cond_true, cond_false]; first | done | rfl)) (fun _ => ?_) (fun _ => ?_)))
          all_goals first
            | (refine RndI.next (m' := 150 - (i + 1)) (by omega) ⟨i + 1, (i : Int) + 1, tag + 1, false, st'.fed, wv3, (tNext xs at_ 3).2, rfl, by omega, hj2, rfl, rfl⟩ (by (repeat (first | exact AllIs.nil | refine AllIs.cons (by (simp only [St.ev, slk, Nat.reduceBEq, cond_true, cond_false]; first | done | rfl)) ?_))) (by (repeat (first | exact Picks.nil | (apply Picks.cons; (repeat (first | exact Pick.here | apply Pick.there)))))))
            | (refine RndI.next (m' := 150 - (i + 1)) (by omega) ⟨i + 1, (i : Int) + 1, tag + 1, true, st', wv3, (tNext xs at_ 3).2, rfl, by omega, hend2, rfl, rfl⟩ (by (repeat (first | exact AllIs.nil | refine AllIs.cons (by (simp only [St.ev, slk, Nat.reduceBEq, cond_true, cond_false]; first | done | rfl)) ?_))) (by (repeat (first | exact Picks.nil | (apply Picks.cons; (repeat (first | exact Pick.here | apply Pick.there)))))))
        · obtain ⟨ha, hid, hrok⟩ := hS.other h5
          have h5f : ((ansW mm.op (tag + 1)).op == 5) = false := by show (mm.op == 5) = false; simpa using h5
          have hrc := (agent_Receive b st' sv cb wv3 true xx (ansW mm.op (tag + 1)) xx hS.srv rfl h5f).mono (post' := fun v L => v = .int .i64 0 ∧ L = agL b (st'.recv (ansW mm.op (tag + 1))) sv cb wv3 true) (fun v L h => by
            rcases h with ⟨_, h⟩ | ⟨h, _⟩
            · exact h
            · rw [hrok] at h; cases h)
          have hfw : (st'.recv (ansW mm.op (tag + 1))).waits = false := (recv_rest _ _).2.2.2.2.2.2.2.2.2.2
          have hj2 := hend _ (hS.j.recv (ansW mm.op (tag + 1))) hfw
          have hso : (mm.op == 5) = false := by simpa using h5
          have htg := hS.tg
          generalize hst2 : st'.recv (ansW mm.op (tag + 1)) = st2 at hrc hfw hj2
          have hwt := agent_Waits b st2 sv cb wv3 true
          obtain ⟨k0, op0, s0, c0, t0, n0, q0, app0, id0, u0, z0⟩ := mm
          simp only at h5 ha hid htg
          subst ha hid htg
          simp only [MMsg.V, MMsg.C, ansW, agL, agC] at hrc hwt
          simp only [sentC, MMsg.S] at hc0 hg1 hg2 hg3 ⊢
          have f4 : opn = false ∨ opn = true ∧ decide ((i : Int) + 1 - asked < 8) = false := by
            cases opn with
            | true => exact .inr ⟨rfl, f3 rfl⟩
            | false => exact .inl rfl
          rcases f4 with rfl | ⟨rfl, f5⟩
          all_goals skip
          all_goals (repeat' (first
            | with_reducible apply T.seq
            | with_reducible apply T.region
            | with_reducible apply TL.nil
            | with_reducible apply Thn.normal
            | with_reducible apply Thn.ret
            | with_reducible apply Thn.exit
            | with_reducible apply Blk.normal
            | with_reducible apply Blk.ret
            | ((with_reducible refine Blk.exitE ?_ ?_); · rfl)
            | ((with_reducible refine Blk.exitN ?_ ?_); · rfl)
            | with_reducible apply Rnd.ret
            | with_reducible apply Rnd.exit
            | with_reducible apply RndI.ret
            | with_reducible apply RndI.exit
            | with_reducible apply ThnI.ret
            | with_reducible apply ThnI.exit
            | with_reducible apply T.skip
            | with_reducible apply T.block
            | with_reducible apply T.ret
            | with_reducible apply T.exit
            | refine T.condT (h := ?_)
            | refine T.condF (h := ?_)
            | refine TL.pass (k := ?_)
            | refine TL.passN (k := ?_)
            | refine TL.take (k := ?_)
            | refine TL.q (h := .assign) (k := ?_)
            | refine TL.q (h := .build) (k := ?_)
            | (refine TL.e (h := .bs) (k := ?_); rintro _ _ ⟨_, rfl, rfl⟩)
            | refine TL.q (h := .move) (k := ?_)
            | refine TL.q (h := .eqNil) (k := ?_)
            | (refine TL.e (h := .bx) (k := ?_); rintro _ _ ⟨_, rfl, rfl⟩)
            | refine TL.q (h := .add) (k := ?_)
            | refine TL.q (h := .catS) (k := ?_)
            | refine TL.q (h := .lenR) (k := ?_)
            | refine TL.q (h := .lenS) (k := ?_)
            | refine TL.q (h := .sub) (k := ?_)
            | refine TL.q (h := .pickT) (k := ?_)
            | refine TL.q (h := .pickF) (k := ?_)
            | refine TL.q (h := .indexR) (k := ?_)
            | refine TL.q (h := .fieldAddr) (k := ?_)
            | refine TL.q (h := .fieldEp) (k := ?_)
            | refine TL.q (h := .load) (k := ?_)
            | refine TL.q (h := .loadEp) (k := ?_)
            | (refine TL.callF (h := tape_Next _ _ _ _ _ _ (by first | assumption | rfl | omega | (simp at *; omega))) (k := ?_); rintro _ _ ⟨rfl, rfl⟩)
            | refine TL.u (h := .st) (k := ?_)
            | refine TL.u (h := .stA) (k := ?_)
            | refine TL.u (h := .stEp) (k := ?_)
            | refine TL.u (h := .stEpA) (k := ?_)
            | (refine TL.callF (h := known22) (k := ?_); rintro _ _ ⟨rfl, rfl⟩)
            | refine TL.q (h := .binI) (k := ?_)
            | refine TL.q (h := .binS) (k := ?_)
            | refine TL.q (h := .pickB) (k := ?_)
            | (skip
               all_goals refine TG.start (i := 18) mixed rfl ?_
               all_goals (first
                 | refine TG.q0 0 (ho := rfl) (hv := .yes (h := .move)) (k := ?_)
                 | refine TG.lv 0 (ho := rfl) (hv := .move) (k := ?_))
               all_goals (first
                 | refine TG.qIndexR 1 (ho := rfl) (h := ?_)
                 | refine TG.lv 1 (ho := rfl) (hv := .indexR) (k := ?_))
               all_goals (first
                 | refine TG.q0 2 (ho := rfl) (hv := .yes (h := .fieldAddr)) (k := ?_)
                 | refine TG.qFieldEp 2 (ho := rfl) (h := ?_)
                 | refine TG.lv 2 (ho := rfl) (hv := .fieldAddr) (k := ?_)
                 | refine TG.lv 2 (ho := rfl) (hv := .fieldEp) (k := ?_))
               all_goals (first
                 | refine TG.q0 3 (ho := rfl) (hv := .yes (h := .fieldAddr)) (k := ?_)
                 | refine TG.qFieldEp 3 (ho := rfl) (h := ?_)
                 | refine TG.lv 3 (ho := rfl) (hv := .fieldAddr) (k := ?_)
                 | refine TG.lv 3 (ho := rfl) (hv := .fieldEp) (k := ?_))
               all_goals (first
                 | refine TG.qLoad 4 (ho := rfl) (k := ?_)
                 | refine TG.qLoadEp 4 (ho := rfl) (h := ?_)
                 | refine TG.lv 4 (ho := rfl) (hv := .load) (k := ?_)
                 | refine TG.lv 4 (ho := rfl) (hv := .loadEp) (k := ?_))
               all_goals (first
                 | refine TG.q0 5 (ho := rfl) (hv := .yes (h := .move)) (k := ?_)
                 | refine TG.lv 5 (ho := rfl) (hv := .move) (k := ?_))
               all_goals (first
                 | refine TG.qIndexR 6 (ho := rfl) (h := ?_)
                 | refine TG.lv 6 (ho := rfl) (hv := .indexR) (k := ?_))
               all_goals (first
                 | refine TG.q0 7 (ho := rfl) (hv := .yes (h := .fieldAddr)) (k := ?_)
                 | refine TG.qFieldEp 7 (ho := rfl) (h := ?_)
                 | refine TG.lv 7 (ho := rfl) (hv := .fieldAddr) (k := ?_)
                 | refine TG.lv 7 (ho := rfl) (hv := .fieldEp) (k := ?_))
               all_goals (first
                 | refine TG.q0 8 (ho := rfl) (hv := .yes (h := .fieldAddr)) (k := ?_)
                 | refine TG.qFieldEp 8 (ho := rfl) (h := ?_)
                 | refine TG.lv 8 (ho := rfl) (hv := .fieldAddr) (k := ?_)
                 | refine TG.lv 8 (ho := rfl) (hv := .fieldEp) (k := ?_))
               all_goals (first
                 | refine TG.qLoadA 9 (ho := rfl) (k := ?_)
                 | refine TG.qLoadEpA 9 (ho := rfl) (h := ?_)
                 | refine TG.lv 9 (ho := rfl) (hv := .loadA) (k := ?_)
                 | refine TG.lv 9 (ho := rfl) (hv := .loadEpA) (k := ?_))
               all_goals (first
                 | refine TG.q0 10 (ho := rfl) (hv := .yes (h := .move)) (k := ?_)
                 | refine TG.lv 10 (ho := rfl) (hv := .move) (k := ?_))
               all_goals (first
                 | refine TG.q0 11 (ho := rfl) (hv := .yes (h := .build)) (k := ?_)
                 | refine TG.lv 11 (ho := rfl) (hv := .build) (k := ?_))
               all_goals (first
                 | (refine TG.ld 12 (ho := rfl) (hK := .ofE (h := .al)) (k := ?_); rintro _ _ ⟨_, rfl, rfl⟩; refine ⟨by (repeat (first | exact Held.nil | apply Held.zero | (apply Held.one; (repeat (first | exact Pick.here | apply Pick.there))))), ?_⟩))
               all_goals (first
                 | refine TG.lu 13 (ho := rfl) (hK := .st) (k := ?_)
                 | refine TG.lu 13 (ho := rfl) (hK := .stA) (k := ?_)
                 | refine TG.lu 13 (ho := rfl) (hK := .stEp) (k := ?_)
                 | refine TG.lu 13 (ho := rfl) (hK := .stEpA) (k := ?_))
               all_goals apply TG.fin rfl)
            | (skip
               all_goals refine TG.start (i := 21) mixed rfl ?_
               all_goals (first
                 | refine TG.q0 0 (ho := rfl) (hv := .yes (h := .move)) (k := ?_)
                 | refine TG.lv 0 (ho := rfl) (hv := .move) (k := ?_))
               all_goals (first
                 | refine TG.q0 1 (ho := rfl) (hv := .yes (h := .move)) (k := ?_)
                 | refine TG.lv 1 (ho := rfl) (hv := .move) (k := ?_))
               all_goals (first
                 | refine TG.qIndexR 2 (ho := rfl) (h := ?_)
                 | refine TG.lv 2 (ho := rfl) (hv := .indexR) (k := ?_))
               all_goals (first
                 | refine TG.q0 3 (ho := rfl) (hv := .yes (h := .fieldAddr)) (k := ?_)
                 | refine TG.qFieldEp 3 (ho := rfl) (h := ?_)
                 | refine TG.lv 3 (ho := rfl) (hv := .fieldAddr) (k := ?_)
                 | refine TG.lv 3 (ho := rfl) (hv := .fieldEp) (k := ?_))
               all_goals (first
                 | refine TG.qLoad 4 (ho := rfl) (k := ?_)
                 | refine TG.qLoadEp 4 (ho := rfl) (h := ?_)
                 | refine TG.lv 4 (ho := rfl) (hv := .load) (k := ?_)
                 | refine TG.lv 4 (ho := rfl) (hv := .loadEp) (k := ?_))
               all_goals (first
                 | refine TG.qLoadA 5 (ho := rfl) (k := ?_)
                 | refine TG.qLoadEpA 5 (ho := rfl) (h := ?_)
                 | refine TG.lv 5 (ho := rfl) (hv := .loadA) (k := ?_)
                 | refine TG.lv 5 (ho := rfl) (hv := .loadEpA) (k := ?_))
               all_goals (first
                 | (refine TG.ld 6 (ho := rfl) (hK := .callF (h := hrc)) (k := ?_); rintro _ _ ⟨_, rfl, rfl, rfl⟩; refine ⟨by (repeat (first | exact Held.nil | apply Held.zero | (apply Held.one; (repeat (first | exact Pick.here | apply Pick.there))))), ?_⟩)
                 | (refine TG.ld 6 (ho := rfl) (hK := .callF (h := hrc)) (k := ?_); rintro _ _ ⟨_, rfl, rfl, rfl⟩; refine ⟨by (repeat (first | exact Held.nil | apply Held.zero | (apply Held.one; (repeat (first | exact Pick.here | apply Pick.there))))), ?_⟩))
               all_goals (first
                 | refine TG.q0 7 (ho := rfl) (hv := .yes (h := .binI)) (k := ?_)
                 | refine TG.lv 7 (ho := rfl) (hv := .binI) (k := ?_))
               all_goals (first
                 | refine TG.q0 8 (ho := rfl) (hv := .yes (h := .move)) (k := ?_)
                 | refine TG.lv 8 (ho := rfl) (hv := .move) (k := ?_))
               all_goals try (first | refine TG.litT 91 (k := ?_) | refine TG.litF 91 (k := ?_) | refine TG.lit 91 (fun _ => ?_) (fun _ => ?_))
               all_goals (first
                 | refine TG.q0 9 (ho := rfl) (hv := .no) (k := ?_)
                 | refine TG.q0 9 (ho := rfl) (hv := .yes (h := .move)) (k := ?_)
                 | refine TG.lv 9 (ho := rfl) (hv := .move) (k := ?_))
               all_goals (first
                 | refine TG.q0 10 (ho := rfl) (hv := .no) (k := ?_)
                 | (refine TG.ld 10 (ho := rfl) (hK := .callF (h := hwt)) (k := ?_); rintro _ _ ⟨_, rfl, rfl, rfl⟩; refine ⟨by (repeat (first | exact Held.nil | apply Held.zero | (apply Held.one; (repeat (first | exact Pick.here | apply Pick.there))))), ?_⟩)
                 | (refine TG.ld 10 (ho := rfl) (hK := .callF (h := agent_Waits _ st' _ _ _ _)) (k := ?_); rintro _ _ ⟨_, rfl, rfl, rfl⟩; refine ⟨by (repeat (first | exact Held.nil | apply Held.zero | (apply Held.one; (repeat (first | exact Pick.here | apply Pick.there))))), ?_⟩))
               all_goals (first
                 | refine TG.q0 11 (ho := rfl) (hv := .yes (h := .pickT)) (k := ?_)
                 | refine TG.q0 11 (ho := rfl) (hv := .yes (h := .pickF)) (k := ?_)
                 | refine TG.q0 11 (ho := rfl) (hv := .yes (h := .pickB)) (k := ?_)
                 | refine TG.lv 11 (ho := rfl) (hv := .pickT) (k := ?_)
                 | refine TG.lv 11 (ho := rfl) (hv := .pickF) (k := ?_)
                 | refine TG.lv 11 (ho := rfl) (hv := .pickB) (k := ?_))
               all_goals apply TG.fin rfl)
            | refine TL.gT (k := ?_)
            | refine TL.gF (k := ?_)
            | refine T.cT (h := ?_)
            | refine T.cF (h := ?_)
            | (refine TL.gcase (ht := fun _ => ?_) (hf := fun _ => ?_))
            | refine T.cond (by (simp only [St.ev, slk, Nat.reduceBEq, cond_true, cond_false]; first | done | rfl)) (fun _ => ?_) (fun _ => ?_)))
          all_goals first
            | (refine RndI.next (m' := 150 - (i + 1)) (by omega) ⟨i + 1, (i : Int) + 1, tag + 1, false, st2, wv3, (tNext xs at_ 3).2, rfl, by omega, hj2, rfl, rfl⟩ (by (repeat (first | exact AllIs.nil | refine AllIs.cons (by (simp only [St.ev, slk, Nat.reduceBEq, cond_true, cond_false]; first | done | rfl)) ?_))) (by (repeat (first | exact Picks.nil | (apply Picks.cons; (repeat (first | exact Pick.here | apply Pick.there)))))))
            | (refine RndI.next (m' := 150 - (i + 1)) (by omega) ⟨i + 1, (i : Int) + 1, tag + 1, true, st', wv3, (tNext xs at_ 3).2, rfl, by omega, hend2, rfl, rfl⟩ (by (repeat (first | exact AllIs.nil | refine AllIs.cons (by (simp only [St.ev, slk, Nat.reduceBEq, cond_true, cond_false]; first | done | rfl)) ?_))) (by (repeat (first | exact Picks.nil | (apply Picks.cons; (repeat (first | exact Pick.here | apply Pick.there)))))))
    · skip
      repeat (first
        | with_reducible apply T.seq
        | with_reducible apply T.region
        | with_reducible apply TL.nil
        | with_reducible apply Thn.normal
        | with_reducible apply Thn.ret
        | with_reducible apply Thn.exit
        | with_reducible apply Blk.normal
        | with_reducible apply Blk.ret
        | ((with_reducible refine Blk.exitE ?_ ?_); · rfl)
        | ((with_reducible refine Blk.exitN ?_ ?_); · rfl)
        | with_reducible apply Rnd.ret
        | with_reducible apply Rnd.exit
        | with_reducible apply RndI.ret
        | with_reducible apply RndI.exit
        | with_reducible apply ThnI.ret
        | with_reducible apply ThnI.exit
        | with_reducible apply T.skip
        | with_reducible apply T.block
        | with_reducible apply T.ret
        | with_reducible apply T.exit
        | refine T.condT (h := ?_)
        | refine T.condF (h := ?_)
        | refine TL.pass (k := ?_)
        | refine TL.passN (k := ?_)
        | refine TL.take (k := ?_)
        | refine TL.q (h := .assign) (k := ?_)
        | refine TL.q (h := .build) (k := ?_)
        | (refine TL.e (h := .bs) (k := ?_); rintro _ _ ⟨_, rfl, rfl⟩)
        | refine TL.q (h := .move) (k := ?_)
        | refine TL.q (h := .eqNil) (k := ?_)
        | (refine TL.e (h := .bx) (k := ?_); rintro _ _ ⟨_, rfl, rfl⟩)
        | refine TL.q (h := .add) (k := ?_)
        | refine TL.q (h := .catS) (k := ?_)
        | refine TL.q (h := .lenR) (k := ?_)
        | refine TL.q (h := .lenS) (k := ?_)
        | refine TL.q (h := .sub) (k := ?_)
        | refine TL.q (h := .pickT) (k := ?_)
        | refine TL.q (h := .pickF) (k := ?_)
        | refine TL.q (h := .indexR) (k := ?_)
        | refine TL.q (h := .fieldAddr) (k := ?_)
        | refine TL.q (h := .fieldEp) (k := ?_)
        | refine TL.q (h := .load) (k := ?_)
        | refine TL.q (h := .loadEp) (k := ?_)
        | (refine TL.callF (h := tape_Next _ _ _ _ _ _ (by first | assumption | rfl | omega | (simp at *; omega))) (k := ?_); rintro _ _ ⟨rfl, rfl⟩)
        | refine TL.u (h := .st) (k := ?_)
        | refine TL.u (h := .stA) (k := ?_)
        | refine TL.u (h := .stEp) (k := ?_)
        | refine TL.u (h := .stEpA) (k := ?_)
        | (refine TL.callF (h := known22) (k := ?_); rintro _ _ ⟨rfl, rfl⟩)
        | refine TL.q (h := .binI) (k := ?_)
        | refine TL.q (h := .binS) (k := ?_)
        | refine TL.q (h := .pickB) (k := ?_))
      refine ThnI.done ⟨rfl, rfl⟩ (by (repeat (first | exact AllIs.nil | refine AllIs.cons (by (simp only [St.ev, slk, Nat.reduceBEq, cond_true, cond_false]; first | done | rfl)) ?_))) (by (repeat (first | exact Picks.nil | (apply Picks.cons; (repeat (first | exact Pick.here | apply Pick.there))))))
  · rintro l A j ⟨rfl, rfl⟩
    repeat (first
      | with_reducible apply T.seq
      | with_reducible apply T.region
      | with_reducible apply TL.nil
      | with_reducible apply Thn.normal
      | with_reducible apply Thn.ret
      | with_reducible apply Thn.exit
      | with_reducible apply Blk.normal
      | with_reducible apply Blk.ret
      | ((with_reducible refine Blk.exitE ?_ ?_); · rfl)
      | ((with_reducible refine Blk.exitN ?_ ?_); · rfl)
      | with_reducible apply Rnd.ret
      | with_reducible apply Rnd.exit
      | with_reducible apply RndI.ret
      | with_reducible apply RndI.exit
      | with_reducible apply ThnI.ret
      | with_reducible apply ThnI.exit
      | with_reducible apply T.skip
      | with_reducible apply T.block
      | with_reducible apply T.ret
      | with_reducible apply T.exit
      | refine T.condT (h := ?_)
      | refine T.condF (h := ?_)
      | refine TL.pass (k := ?_)
      | refine TL.passN (k := ?_)
      | refine TL.take (k := ?_)
      | refine TL.q (h := .assign) (k := ?_)
      | refine TL.q (h := .build) (k := ?_)
      | (refine TL.e (h := .bs) (k := ?_); rintro _ _ ⟨_, rfl, rfl⟩)
      | refine TL.q (h := .move) (k := ?_)
      | refine TL.q (h := .eqNil) (k := ?_)
      | (refine TL.e (h := .bx) (k := ?_); rintro _ _ ⟨_, rfl, rfl⟩)
      | refine TL.q (h := .add) (k := ?_)
      | refine TL.q (h := .catS) (k := ?_)
      | refine TL.q (h := .lenR) (k := ?_)
      | refine TL.q (h := .lenS) (k := ?_)
      | refine TL.q (h := .sub) (k := ?_)
      | refine TL.q (h := .pickT) (k := ?_)
      | refine TL.q (h := .pickF) (k := ?_)
      | refine TL.q (h := .indexR) (k := ?_)
      | refine TL.q (h := .fieldAddr) (k := ?_)
      | refine TL.q (h := .fieldEp) (k := ?_)
      | refine TL.q (h := .load) (k := ?_)
      | refine TL.q (h := .loadEp) (k := ?_)
      | (refine TL.callF (h := tape_Next _ _ _ _ _ _ (by first | assumption | rfl | omega | (simp at *; omega))) (k := ?_); rintro _ _ ⟨rfl, rfl⟩)
      | refine TL.u (h := .st) (k := ?_)
      | refine TL.u (h := .stA) (k := ?_)
      | refine TL.u (h := .stEp) (k := ?_)
      | refine TL.u (h := .stEpA) (k := ?_)
      | (refine TL.callF (h := known22) (k := ?_); rintro _ _ ⟨rfl, rfl⟩)
      | refine TL.q (h := .binI) (k := ?_)
      | refine TL.q (h := .binS) (k := ?_)
      | refine TL.q (h := .pickB) (k := ?_))
    (first | refine RetQ.retI (L := [row m 3 1 x.v (xs.map intC)]) (ResIs.r1 Try.results9 (RV.tmp)) (by (repeat (first | exact Picks.nil | (apply Picks.cons; (repeat (first | exact Pick.here | apply Pick.there)))))) ?_ | refine RetQ.norI (L := [row m 3 1 x.v (xs.map intC)]) (ResIs.r1 Try.results9 (RV.tmp)) (by (repeat (first | exact Picks.nil | (apply Picks.cons; (repeat (first | exact Pick.here | apply Pick.there)))))) ?_)
    exact ⟨rfl, rfl⟩
end Go.Proofs.Ytpbomaelkpjbbaa

