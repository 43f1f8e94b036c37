import Derived.Test.YtpbomaelkpjbbaaC22
namespace Go.Proofs.Ytpbomaelkpjbbaa
open Go.Fw K22
attribute [local irreducible] T TL TG Thn ThnI Blk Rnd RndI RetQ OpV OpE OpU OpK Ctr row cel ep
structure BeatI (i : Nat) (last tag : Int) (st : MAgent) : Prop where
  j : J0 i tag [0] st
  idle : st.waits = false
  lr : 0 ≤ last ∧ last ≤ i
  tr : 0 ≤ tag ∧ tag ≤ i
  first : i = 0 → ∃ n, st.wants = [⟨1, n, 1⟩]
  rest : 1 ≤ i → st.wants = [] ∧ st.wishes = true ∧ st.known = true ∧ st.beat = ⟨true, last⟩ ∧ (i : Int) - last ≤ 9
theorem srv0 {st : MAgent} (h : st.ok) (hs : st.servers = [0]) {x : Int} (hx : st.servers[st.server]? = some x) : x = 0 := by
  have := h.srvl
  rw [hs] at this hx
  simp only [List.length_cons, List.length_nil] at this
  have e : st.server = 0 := by omega
  rw [e] at hx
  simpa using hx.symm
theorem beat_step {i : Nat} {last tag : Int} {st : MAgent} (h : BeatI i last tag st) (hi : i ≤ 1000) :
    (∃ st', st.ticks 1 = ([], st') ∧ BeatI (i + 1) last tag st') ∨
    (∃ m st', st.ticks 1 = ([(m, 0)], st') ∧ Sent1 ((i : Int) + 1) (tag + 1) [0] m 0 st' ∧ (m.op = 5 → BeatI (i + 1) last (tag + 1) st'.fed) ∧ (m.op ≠ 5 → BeatI (i + 1) ((i : Int) + 1) (tag + 1) (st'.recv (ansW m.op (tag + 1))))) := by
  obtain ⟨hj, hw, hl, ht, hf, hr⟩ := h
  have hinc := hj.inc (by omega)
  have htag : st.ask.tag + 1 ≤ st.now + 1 := by have := hj.ok.tag0; omega
  have hiw : st.inc.waits = false := hw
  rcases go_step (p := st.inc) hinc htag hw with ⟨hn, hj2, hw2⟩ | ⟨m, x, hn, hx, hs⟩
  · refine .inl ⟨_, ticks1_none (preF hw) hw hn, ⟨by simpa using hj2, hw2, ⟨hl.1, by omega⟩, ⟨ht.1, by omega⟩, fun h => by omega, fun _ => ?_⟩⟩
    by_cases h0 : i = 0
    · obtain ⟨n, hwn⟩ := hf h0
      unfold MAgent.next at hn
      rw [if_pos (by show st.wants ≠ []; rw [hwn]; simp)] at hn
      cases hn
    · obtain ⟨r1, r2, r3, r4, r5⟩ := hr (by omega)
      have q1 : st.inc.wants = [] := r1
      have q2 : st.inc.wishes = true := r2
      have q3 : st.inc.known = true := r3
      have q4 : st.inc.beat = ⟨true, last⟩ := r4
      have q5 : st.inc.now = (i : Int) + 1 := hinc.now
      have hnx : st.inc.next.2 = st.inc := next2 q1
      rw [hnx]
      refine ⟨q1, q2, q3, q4, ?_⟩
      unfold MAgent.next at hn
      simp only [q1, q2, q3, q4, ne_eq, not_true_eq_false, if_false, true_and, and_true] at hn
      split at hn
      · cases hn
      · rename_i hb
        simp only [MMark.due, q5, Bool.not_true, Bool.false_or, decide_eq_true_eq] at hb
        omega
  · have hxe : x = 0 := srv0 (next_ok hinc.ok) (by rw [(next_rest st.inc).2.2.1]; exact hinc.srvs) hx
    subst hxe
    have hsend := ticks1_some (preF hw) hw hn hx
    refine .inr ⟨_, _, hsend, hs, fun h5 => ?_, fun h5 => ?_⟩
    · obtain ⟨_, _, s3, _⟩ := ask_shape hn
      have hm5 : m.op = 5 := by rw [← s3]; exact h5
      refine ⟨by simpa using hs.j.fed, rfl, ⟨hl.1, by omega⟩, ⟨by omega, by omega⟩, fun h => by omega, fun _ => ?_⟩
      by_cases h0 : i = 0
      · obtain ⟨n, hwn⟩ := hf h0
        unfold MAgent.next at hn
        rw [if_pos (by show st.wants ≠ []; rw [hwn]; simp)] at hn
        simp only [Option.some.injEq] at hn
        have := wanted_op st.inc (by show st.wants ≠ []; rw [hwn]; simp)
        rw [hn, hm5] at this
        omega
      · obtain ⟨r1, r2, r3, r4, r5⟩ := hr (by omega)
        have q1 : st.inc.wants = [] := r1
        have q2 : st.inc.wishes = true := r2
        have q3 : st.inc.known = true := r3
        have q4 : st.inc.beat = ⟨true, last⟩ := r4
        have q5 : st.inc.now = (i : Int) + 1 := hinc.now
        have hnx : st.inc.next.2 = st.inc := next2 q1
        rw [hnx]
        have e5 : (m.op == 5) = true := by simpa using hm5
        have es : (st.inc.send m).2 = st.inc.s5 m := by rw [send5 e5]
        rw [es]
        refine ⟨q1, q2, q3, q4, ?_⟩
        unfold MAgent.next at hn
        simp only [q1, q2, q3, q4, ne_eq, not_true_eq_false, if_false, true_and, and_true] at hn
        split at hn
        · simp only [Option.some.injEq] at hn
          rw [← hn] at hm5
          cases hm5
        · rename_i hb
          simp only [MMark.due, q5, Bool.not_true, Bool.false_or, decide_eq_true_eq] at hb
          omega
    · have hm5 : m.op ≠ 5 := by obtain ⟨_, _, s3, _⟩ := ask_shape hn; rw [← s3]; exact h5
      obtain ⟨_, _, s3, _⟩ := ask_shape hn
      obtain ⟨r1, r2, r3, r4, r5, r6, r7, r8, r9, r10, r11⟩ := recv_rest (st.inc.next.2.send m).2 (ansW (st.inc.next.2.send m).1.op (tag + 1))
      refine ⟨by simpa using hs.j.recv _, r11, ⟨by omega, by omega⟩, ⟨by omega, by omega⟩, fun h => by omega, fun _ => ?_⟩
      have e5 : (m.op == 5) = false := by simpa using hm5
      by_cases h0 : i = 0
      · obtain ⟨n, hwn⟩ := hf h0
        have hwn2 : st.inc.wants = [⟨1, n, 1⟩] := hwn
        have hwd : st.inc.wanted = ({ op := 1, n := n, status := 1 }, { st.inc with wants := [], card := ⟨1, n, 1⟩, wishes := true }) := by simp [MAgent.wanted, hwn2]
        have hnx : st.inc.next = (some st.inc.wanted.1, st.inc.wanted.2) := by
          unfold MAgent.next
          rw [if_pos (by rw [hwn2]; simp)]
        rw [hnx, hwd] at hn
        simp only [Option.some.injEq] at hn
        rw [s3, ← hn, hnx, hwd]
        have hnow : st.now = 0 := by rw [hj.now, h0]; rfl
        refine ⟨rfl, rfl, rfl, ?_, by omega⟩
        show (⟨true, st.now + 1⟩ : MMark) = ⟨true, (i : Int) + 1⟩
        rw [hnow, h0]; rfl
      · obtain ⟨q1', q2', q3', q4', q5'⟩ := hr (by omega)
        have q1 : st.inc.wants = [] := q1'
        have q2 : st.inc.wishes = true := q2'
        have q3 : st.inc.known = true := q3'
        have q4 : st.inc.beat = ⟨true, last⟩ := q4'
        have q5 : st.inc.now = (i : Int) + 1 := hinc.now
        have hnx : st.inc.next.2 = st.inc := next2 q1
        have hm : m = { op := 2 } := by
          unfold MAgent.next at hn
          simp only [q1, q2, q3, q4, ne_eq, not_true_eq_false, if_false, true_and, and_true] at hn
          split at hn
          · simp only [Option.some.injEq] at hn
            exact hn.symm
          · split at hn
            · simp only [Option.some.injEq] at hn
              rw [← hn] at hm5
              exact absurd rfl hm5
            · cases hn
        rw [s3, hnx, hm]
        refine ⟨q1, q2, q3, ?_, by omega⟩
        show (⟨true, st.inc.now⟩ : MMark) = ⟨true, (i : Int) + 1⟩
        rw [q5]
theorem beat_start (n : Int) : BeatI 0 0 0 { MAgent.new kA kB [0] with wants := [⟨1, n, 1⟩] } :=
  ⟨⟨⟨(by decide : (0 : Int) ≤ 0 ∧ (0 : Int) ≤ 1000000000000), (by decide : (0 : Int) ≤ 0 ∧ (0 : Int) ≤ 0), (by decide : (0 : Int) ≤ 0 ∧ (0 : Int) ≤ 0), (by decide : 1 ≤ 1000), (by decide : 0 < 1), (by decide : 1 ≤ 100), (by decide : (0 : Int) ≤ 0 ∧ (0 : Int) ≤ 0), (by decide : (0 : Int) ≤ 0 ∧ (0 : Int) ≤ 0)⟩, rfl, rfl, rfl, rfl, rfl⟩,
    rfl, by decide, by decide, fun _ => ⟨n, rfl⟩, fun h => by omega⟩
theorem agent_Cache (b : Nat) (st : MAgent) (sv : Sl) (cb : Nat) (wv : Sl) (m : Bool) :
    Ctr Try.prog 56 #[.pointer (some ⟨b, 0, none⟩)] [cel m b 160 (agC st sv cb wv)] fun v L => v = .pointer (some ⟨cb, 0, none⟩) ∧ L = [cel m b 160 (agC st sv cb wv)] := by
  simp only [agC]
  refine Ctr.of (n := 7) (args := [_]) Try.func56 rfl rfl rfl fun F => ?_
  simp only [List.zipIdx_cons, List.zipIdx_nil, List.map_cons, List.map_nil, Nat.zero_add, Nat.reduceAdd, List.cons_append, List.nil_append]
  repeat' (first
    | with_reducible apply T.seq
    | with_reducible apply T.region
    | with_reducible apply TL.nil
    | with_reducible apply Thn.normal
    | with_reducible apply Thn.ret
    | with_reducible apply Thn.exit
    | with_reducible apply Blk.normal
    | with_reducible apply Blk.ret
    | ((with_reducible refine Blk.exitE ?_ ?_); · rfl)
    | ((with_reducible refine Blk.exitN ?_ ?_); · rfl)
    | with_reducible apply Rnd.ret
    | with_reducible apply Rnd.exit
    | with_reducible apply RndI.ret
    | with_reducible apply RndI.exit
    | with_reducible apply ThnI.ret
    | with_reducible apply ThnI.exit
    | with_reducible apply T.skip
    | with_reducible apply T.block
    | with_reducible apply T.ret
    | with_reducible apply T.exit
    | refine T.condT (h := ?_)
    | refine T.condF (h := ?_)
    | refine TL.pass (k := ?_)
    | refine TL.passN (k := ?_)
    | refine TL.take (k := ?_)
    | refine TL.q (h := .assign) (k := ?_)
    | refine TL.q (h := .move) (k := ?_)
    | refine TL.q (h := .nilCheck) (k := ?_)
    | refine TL.q (h := .fieldAddr) (k := ?_)
    | refine TL.q (h := .fieldEp) (k := ?_)
    | refine TL.q (h := .load) (k := ?_)
    | refine TL.q (h := .loadEp) (k := ?_)
    | refine TL.gT (k := ?_)
    | refine TL.gF (k := ?_)
    | refine T.cT (h := ?_)
    | refine T.cF (h := ?_)
    | (refine TL.gcase (ht := fun _ => ?_) (hf := fun _ => ?_))
    | refine T.cond (by (simp only [St.ev, slk, Nat.reduceBEq, cond_true, cond_false]; first | done | rfl)) (fun _ => ?_) (fun _ => ?_))
  first | refine RetQ.retI (L := [_]) (ResIs.r1 Try.results56 (RV.tmp)) (by (repeat (first | exact Picks.nil | (apply Picks.cons; (repeat (first | exact Pick.here | apply Pick.there)))))) ⟨rfl, rfl⟩ | refine RetQ.norI (L := [_]) (ResIs.r1 Try.results56 (RV.tmp)) (by (repeat (first | exact Picks.nil | (apply Picks.cons; (repeat (first | exact Pick.here | apply Pick.there)))))) ⟨rfl, rfl⟩
theorem within_le {v lo hi : Int} (h : lo ≤ hi) : within v lo hi ≤ hi := by
  have h2 : v.tmod (hi - lo + 1) < hi - lo + 1 := Int.tmod_lt_of_pos v (by omega)
  have h1 : -(hi - lo + 1) < v.tmod (hi - lo + 1) := by have := Int.lt_tmod_of_pos v (show 0 < hi - lo + 1 by omega); omega
  unfold within
  generalize v.tmod (hi - lo + 1) = r at *
  split <;> (try split) <;> omega
set_option maxRecDepth 10000 in
set_option maxHeartbeats 4000000 in
theorem law_AgentBeats (n ticks : Int) (ht : -9223372036854775808 ≤ ticks ∧ ticks ≤ 9223372036854775807) :
    Ctr Try.prog 11 #[.int .i64 n, .int .i64 ticks] [] fun v L => v = .bool true ∧ L = [] := by
  have hm : 0 ≤ andV .i64 n 255 ∧ andV .i64 n 255 ≤ 255 := andV_mask n 8 (by decide)
  have hw1 := within_ge (v := ticks) (show (0 : Int) ≤ 200 by decide)
  have hw2 := within_le (v := ticks) (show (0 : Int) ≤ 200 by decide)
  refine Ctr.of (n := 92) (args := [_, _]) Try.func11 rfl rfl rfl fun F => ?_
  simp only [List.zipIdx_cons, List.zipIdx_nil, List.map_cons, List.map_nil, Nat.zero_add, Nat.reduceAdd, List.cons_append, List.nil_append]
  repeat (first
    | with_reducible apply T.seq
    | with_reducible apply T.region
    | with_reducible apply TL.nil
    | with_reducible apply Thn.normal
    | with_reducible apply Thn.ret
    | with_reducible apply Thn.exit
    | with_reducible apply Blk.normal
    | with_reducible apply Blk.ret
    | ((with_reducible refine Blk.exitE ?_ ?_); · rfl)
    | ((with_reducible refine Blk.exitN ?_ ?_); · rfl)
    | with_reducible apply Rnd.ret
    | with_reducible apply Rnd.exit
    | with_reducible apply RndI.ret
    | with_reducible apply RndI.exit
    | with_reducible apply ThnI.ret
    | with_reducible apply ThnI.exit
    | with_reducible apply T.skip
    | with_reducible apply T.block
    | with_reducible apply T.ret
    | with_reducible apply T.exit
    | refine T.condT (h := ?_)
    | refine T.condF (h := ?_)
    | refine TL.pass (k := ?_)
    | refine TL.passN (k := ?_)
    | refine TL.take (k := ?_)
    | refine TL.q (h := .assign) (k := ?_)
    | refine TL.q (h := .build) (k := ?_)
    | (refine TL.e (h := .al) (k := ?_); rintro _ _ ⟨_, rfl, rfl⟩)
    | refine TL.u (h := .st) (k := ?_)
    | refine TL.u (h := .stA) (k := ?_)
    | refine TL.u (h := .stEp) (k := ?_)
    | refine TL.u (h := .stEpA) (k := ?_)
    | refine TL.q (h := .loadA) (k := ?_)
    | refine TL.q (h := .loadEpA) (k := ?_)
    | (refine TL.e (h := .bs) (k := ?_); rintro _ _ ⟨_, rfl, rfl⟩)
    | refine TL.q (h := .move) (k := ?_)
    | refine TL.q (h := .eqNil) (k := ?_)
    | (refine TL.callF (h := hca) (k := ?_); rintro _ _ ⟨rfl, rfl⟩)
    | refine TL.q (h := .pickT) (k := ?_)
    | refine TL.q (h := .pickF) (k := ?_)
    | refine TL.q (h := .and) (k := ?_)
    | refine TL.q (h := .add) (k := ?_)
    | refine TL.q (h := .catS) (k := ?_)
    | (refine TL.callF (h := hwa) (k := ?_); rintro _ _ ⟨rfl, wv1, rfl⟩)
    | (refine TL.callF (h := book_Within _ _ _ (by omega) (by first | assumption | rfl | omega | (simp at *; omega))) (k := ?_); rintro _ _ ⟨rfl, rfl⟩)
    | refine TL.q (h := .lenR) (k := ?_)
    | refine TL.q (h := .lenS) (k := ?_)
    | refine TL.q (h := .indexR) (k := ?_)
    | refine TL.q (h := .fieldAddr) (k := ?_)
    | refine TL.q (h := .fieldEp) (k := ?_)
    | refine TL.q (h := .load) (k := ?_)
    | refine TL.q (h := .loadEp) (k := ?_)
    | (refine TL.callF (h := hrc) (k := ?_); rintro _ _ ⟨rfl, rfl⟩)
    | (refine TL.callF (h := hwt) (k := ?_); rintro _ _ ⟨rfl, rfl⟩)
    | (refine TL.callF (h := agent_Waits _ st' _ _ _ _) (k := ?_); rintro _ _ ⟨rfl, rfl⟩)
    | refine TL.q (h := .sub) (k := ?_)
    | (refine TL.callF (h := hkn) (k := ?_); rintro _ _ ⟨rfl, rfl⟩)
    | refine TL.q (h := .not) (k := ?_)
    | (refine TL.callF (h := known22) (k := ?_); rintro _ _ ⟨rfl, rfl⟩)
    | refine TL.q (h := .pickB) (k := ?_)
    | refine TL.q (h := .binI) (k := ?_)
    | refine TL.q (h := .binS) (k := ?_))
  rename_i bk q
  refine TL.callF (h := agent_New kA kB true q [0]) (k := ?_)
  rintro _ _ (⟨_, b, cb, sv, rfl, rfl⟩ | ⟨h, _, _⟩)
  rotate_left
  · exact absurd h (by decide)
  have hca := agent_Cache b (MAgent.new kA kB [0]) sv cb Sl.nil true
  have hwa := agent_Want b (MAgent.new kA kB [0]) sv cb Sl.nil true 1 (1 + andV .i64 n 255) 1
  have hE : wantE (MAgent.new kA kB [0]) 1 (1 + andV .i64 n 255) 1 = 0 := by
    have h1 : mayW 1 (1 + andV .i64 n 255) 1 = true := by
      simp only [mayW]
      simp
      omega
    simp only [wantE, h1]
    rfl
  have hS : (MAgent.new kA kB [0]).want 1 (1 + andV .i64 n 255) 1 = { MAgent.new kA kB [0] with wants := [⟨1, 1 + andV .i64 n 255, 1⟩] } := by simp only [MAgent.want, hE]; rfl
  rw [hE, hS] at hwa
  generalize hst0 : ({ MAgent.new kA kB [0] with wants := [⟨1, 1 + andV .i64 n 255, 1⟩] } : MAgent) = st0 at hwa
  have hI0 : BeatI 0 0 0 st0 := by rw [← hst0]; exact beat_start _
  simp only [agL] at hwa
  repeat (first
    | with_reducible apply T.seq
    | with_reducible apply T.region
    | with_reducible apply TL.nil
    | with_reducible apply Thn.normal
    | with_reducible apply Thn.ret
    | with_reducible apply Thn.exit
    | with_reducible apply Blk.normal
    | with_reducible apply Blk.ret
    | ((with_reducible refine Blk.exitE ?_ ?_); · rfl)
    | ((with_reducible refine Blk.exitN ?_ ?_); · rfl)
    | with_reducible apply Rnd.ret
    | with_reducible apply Rnd.exit
    | with_reducible apply RndI.ret
    | with_reducible apply RndI.exit
    | with_reducible apply ThnI.ret
    | with_reducible apply ThnI.exit
    | with_reducible apply T.skip
    | with_reducible apply T.block
    | with_reducible apply T.ret
    | with_reducible apply T.exit
    | refine T.condT (h := ?_)
    | refine T.condF (h := ?_)
    | refine TL.pass (k := ?_)
    | refine TL.passN (k := ?_)
    | refine TL.take (k := ?_)
    | refine TL.q (h := .assign) (k := ?_)
    | refine TL.q (h := .build) (k := ?_)
    | (refine TL.e (h := .al) (k := ?_); rintro _ _ ⟨_, rfl, rfl⟩)
    | refine TL.u (h := .st) (k := ?_)
    | refine TL.u (h := .stA) (k := ?_)
    | refine TL.u (h := .stEp) (k := ?_)
    | refine TL.u (h := .stEpA) (k := ?_)
    | refine TL.q (h := .loadA) (k := ?_)
    | refine TL.q (h := .loadEpA) (k := ?_)
    | (refine TL.e (h := .bs) (k := ?_); rintro _ _ ⟨_, rfl, rfl⟩)
    | refine TL.q (h := .move) (k := ?_)
    | refine TL.q (h := .eqNil) (k := ?_)
    | (refine TL.callF (h := hca) (k := ?_); rintro _ _ ⟨rfl, rfl⟩)
    | refine TL.q (h := .pickT) (k := ?_)
    | refine TL.q (h := .pickF) (k := ?_)
    | refine TL.q (h := .and) (k := ?_)
    | refine TL.q (h := .add) (k := ?_)
    | refine TL.q (h := .catS) (k := ?_)
    | (refine TL.callF (h := hwa) (k := ?_); rintro _ _ ⟨rfl, wv1, rfl⟩)
    | (refine TL.callF (h := book_Within _ _ _ (by omega) (by first | assumption | rfl | omega | (simp at *; omega))) (k := ?_); rintro _ _ ⟨rfl, rfl⟩)
    | refine TL.q (h := .lenR) (k := ?_)
    | refine TL.q (h := .lenS) (k := ?_)
    | refine TL.q (h := .indexR) (k := ?_)
    | refine TL.q (h := .fieldAddr) (k := ?_)
    | refine TL.q (h := .fieldEp) (k := ?_)
    | refine TL.q (h := .load) (k := ?_)
    | refine TL.q (h := .loadEp) (k := ?_)
    | (refine TL.callF (h := hrc) (k := ?_); rintro _ _ ⟨rfl, rfl⟩)
    | (refine TL.callF (h := hwt) (k := ?_); rintro _ _ ⟨rfl, rfl⟩)
    | (refine TL.callF (h := agent_Waits _ st' _ _ _ _) (k := ?_); rintro _ _ ⟨rfl, rfl⟩)
    | refine TL.q (h := .sub) (k := ?_)
    | (refine TL.callF (h := hkn) (k := ?_); rintro _ _ ⟨rfl, rfl⟩)
    | refine TL.q (h := .not) (k := ?_)
    | (refine TL.callF (h := known22) (k := ?_); rintro _ _ ⟨rfl, rfl⟩)
    | refine TL.q (h := .pickB) (k := ?_)
    | refine TL.q (h := .binI) (k := ?_)
    | refine TL.q (h := .binS) (k := ?_))
  refine T.blkW (fun l A => l = [(4, .bool false)] ∧ A = [F]) ?_ ?_
  · refine T.loopI (fun q' l A => ∃ (i : Nat) (last tag : Int) (st : MAgent) (wv : Sl), q' = 201 - i ∧ i ≤ 200 ∧ BeatI i last tag st ∧
      l = [(9, .int .i64 ((i + 1 : Nat) : Int)), (6, .pointer (some ⟨b, 0, none⟩)), (4, .bool false), (1, .int .i64 ticks), (7, .int .i64 last), (8, .int .i64 tag)] ∧ A = agL b st sv cb wv true ++ [F]) ⟨0, 0, 0, st0, wv1, rfl, by omega, hI0, rfl, rfl⟩ (by (repeat (first | exact AllIs.nil | refine AllIs.cons (by (simp only [St.ev, slk, Nat.reduceBEq, cond_true, cond_false]; first | done | rfl)) ?_))) (by (repeat (first | exact Picks.nil | (apply Picks.cons; (repeat (first | exact Pick.here | apply Pick.there)))))) ?_
    rintro q' l A jf ⟨i, last, tag, st, wv, rfl, hi, hI, rfl, rfl⟩
    simp only [agL, List.cons_append, List.nil_append]
    repeat (first
      | with_reducible apply T.seq
      | with_reducible apply T.region
      | with_reducible apply TL.nil
      | with_reducible apply Thn.normal
      | with_reducible apply Thn.ret
      | with_reducible apply Thn.exit
      | with_reducible apply Blk.normal
      | with_reducible apply Blk.ret
      | ((with_reducible refine Blk.exitE ?_ ?_); · rfl)
      | ((with_reducible refine Blk.exitN ?_ ?_); · rfl)
      | with_reducible apply Rnd.ret
      | with_reducible apply Rnd.exit
      | with_reducible apply RndI.ret
      | with_reducible apply RndI.exit
      | with_reducible apply ThnI.ret
      | with_reducible apply ThnI.exit
      | with_reducible apply T.skip
      | with_reducible apply T.block
      | with_reducible apply T.ret
      | with_reducible apply T.exit
      | refine T.condT (h := ?_)
      | refine T.condF (h := ?_)
      | refine TL.pass (k := ?_)
      | refine TL.passN (k := ?_)
      | refine TL.take (k := ?_)
      | refine TL.q (h := .assign) (k := ?_)
      | refine TL.q (h := .build) (k := ?_)
      | (refine TL.e (h := .al) (k := ?_); rintro _ _ ⟨_, rfl, rfl⟩)
      | refine TL.u (h := .st) (k := ?_)
      | refine TL.u (h := .stA) (k := ?_)
      | refine TL.u (h := .stEp) (k := ?_)
      | refine TL.u (h := .stEpA) (k := ?_)
      | refine TL.q (h := .loadA) (k := ?_)
      | refine TL.q (h := .loadEpA) (k := ?_)
      | (refine TL.e (h := .bs) (k := ?_); rintro _ _ ⟨_, rfl, rfl⟩)
      | refine TL.q (h := .move) (k := ?_)
      | refine TL.q (h := .eqNil) (k := ?_)
      | (refine TL.callF (h := hca) (k := ?_); rintro _ _ ⟨rfl, rfl⟩)
      | refine TL.q (h := .pickT) (k := ?_)
      | refine TL.q (h := .pickF) (k := ?_)
      | refine TL.q (h := .and) (k := ?_)
      | refine TL.q (h := .add) (k := ?_)
      | refine TL.q (h := .catS) (k := ?_)
      | (refine TL.callF (h := hwa) (k := ?_); rintro _ _ ⟨rfl, wv1, rfl⟩)
      | (refine TL.callF (h := book_Within _ _ _ (by omega) (by first | assumption | rfl | omega | (simp at *; omega))) (k := ?_); rintro _ _ ⟨rfl, rfl⟩)
      | refine TL.q (h := .lenR) (k := ?_)
      | refine TL.q (h := .lenS) (k := ?_)
      | refine TL.q (h := .indexR) (k := ?_)
      | refine TL.q (h := .fieldAddr) (k := ?_)
      | refine TL.q (h := .fieldEp) (k := ?_)
      | refine TL.q (h := .load) (k := ?_)
      | refine TL.q (h := .loadEp) (k := ?_)
      | (refine TL.callF (h := hrc) (k := ?_); rintro _ _ ⟨rfl, rfl⟩)
      | (refine TL.callF (h := hwt) (k := ?_); rintro _ _ ⟨rfl, rfl⟩)
      | (refine TL.callF (h := agent_Waits _ st' _ _ _ _) (k := ?_); rintro _ _ ⟨rfl, rfl⟩)
      | refine TL.q (h := .sub) (k := ?_)
      | (refine TL.callF (h := hkn) (k := ?_); rintro _ _ ⟨rfl, rfl⟩)
      | refine TL.q (h := .not) (k := ?_)
      | (refine TL.callF (h := known22) (k := ?_); rintro _ _ ⟨rfl, rfl⟩)
      | refine TL.q (h := .pickB) (k := ?_)
      | refine TL.q (h := .binI) (k := ?_)
      | refine TL.q (h := .binS) (k := ?_))
    refine T.condD (ht := fun hle => ?_) (hf := fun hle => ?_)
    · have hlt : i < 200 := by omega
      have hnow := hI.j.now
      have htr0 := hI.tr
      repeat (first
        | with_reducible apply T.seq
        | with_reducible apply T.region
        | with_reducible apply TL.nil
        | with_reducible apply Thn.normal
        | with_reducible apply Thn.ret
        | with_reducible apply Thn.exit
        | with_reducible apply Blk.normal
        | with_reducible apply Blk.ret
        | ((with_reducible refine Blk.exitE ?_ ?_); · rfl)
        | ((with_reducible refine Blk.exitN ?_ ?_); · rfl)
        | with_reducible apply Rnd.ret
        | with_reducible apply Rnd.exit
        | with_reducible apply RndI.ret
        | with_reducible apply RndI.exit
        | with_reducible apply ThnI.ret
        | with_reducible apply ThnI.exit
        | with_reducible apply T.skip
        | with_reducible apply T.block
        | with_reducible apply T.ret
        | with_reducible apply T.exit
        | refine T.condT (h := ?_)
        | refine T.condF (h := ?_)
        | refine TL.pass (k := ?_)
        | refine TL.passN (k := ?_)
        | refine TL.take (k := ?_)
        | refine TL.q (h := .assign) (k := ?_)
        | refine TL.q (h := .build) (k := ?_)
        | (refine TL.e (h := .al) (k := ?_); rintro _ _ ⟨_, rfl, rfl⟩)
        | refine TL.u (h := .st) (k := ?_)
        | refine TL.u (h := .stA) (k := ?_)
        | refine TL.u (h := .stEp) (k := ?_)
        | refine TL.u (h := .stEpA) (k := ?_)
        | refine TL.q (h := .loadA) (k := ?_)
        | refine TL.q (h := .loadEpA) (k := ?_)
        | (refine TL.e (h := .bs) (k := ?_); rintro _ _ ⟨_, rfl, rfl⟩)
        | refine TL.q (h := .move) (k := ?_)
        | refine TL.q (h := .eqNil) (k := ?_)
        | (refine TL.callF (h := hca) (k := ?_); rintro _ _ ⟨rfl, rfl⟩)
        | refine TL.q (h := .pickT) (k := ?_)
        | refine TL.q (h := .pickF) (k := ?_)
        | refine TL.q (h := .and) (k := ?_)
        | refine TL.q (h := .add) (k := ?_)
        | refine TL.q (h := .catS) (k := ?_)
        | (refine TL.callF (h := hwa) (k := ?_); rintro _ _ ⟨rfl, wv1, rfl⟩)
        | (refine TL.callF (h := book_Within _ _ _ (by omega) (by first | assumption | rfl | omega | (simp at *; omega))) (k := ?_); rintro _ _ ⟨rfl, rfl⟩)
        | refine TL.q (h := .lenR) (k := ?_)
        | refine TL.q (h := .lenS) (k := ?_)
        | refine TL.q (h := .indexR) (k := ?_)
        | refine TL.q (h := .fieldAddr) (k := ?_)
        | refine TL.q (h := .fieldEp) (k := ?_)
        | refine TL.q (h := .load) (k := ?_)
        | refine TL.q (h := .loadEp) (k := ?_)
        | (refine TL.callF (h := hrc) (k := ?_); rintro _ _ ⟨rfl, rfl⟩)
        | (refine TL.callF (h := hwt) (k := ?_); rintro _ _ ⟨rfl, rfl⟩)
        | (refine TL.callF (h := agent_Waits _ st' _ _ _ _) (k := ?_); rintro _ _ ⟨rfl, rfl⟩)
        | refine TL.q (h := .sub) (k := ?_)
        | (refine TL.callF (h := hkn) (k := ?_); rintro _ _ ⟨rfl, rfl⟩)
        | refine TL.q (h := .not) (k := ?_)
        | (refine TL.callF (h := known22) (k := ?_); rintro _ _ ⟨rfl, rfl⟩)
        | refine TL.q (h := .pickB) (k := ?_)
        | refine TL.q (h := .binI) (k := ?_)
        | refine TL.q (h := .binS) (k := ?_))
      refine TL.callF (h := agent_Tick b st sv cb wv true 1 1 rfl hI.j.ok (by omega)) (k := ?_)
      rintro _ _ ⟨ov, wv3, rfl, rfl⟩
      rcases beat_step hI (by omega) with ⟨st', hts, hb⟩ | ⟨mm, st', hts, hSn, hF, hG⟩
      · rw [hts]
        simp only [List.map_nil, agL, List.cons_append, List.nil_append]
        repeat (first
          | with_reducible apply T.seq
          | with_reducible apply T.region
          | with_reducible apply TL.nil
          | with_reducible apply Thn.normal
          | with_reducible apply Thn.ret
          | with_reducible apply Thn.exit
          | with_reducible apply Blk.normal
          | with_reducible apply Blk.ret
          | ((with_reducible refine Blk.exitE ?_ ?_); · rfl)
          | ((with_reducible refine Blk.exitN ?_ ?_); · rfl)
          | with_reducible apply Rnd.ret
          | with_reducible apply Rnd.exit
          | with_reducible apply RndI.ret
          | with_reducible apply RndI.exit
          | with_reducible apply ThnI.ret
          | with_reducible apply ThnI.exit
          | with_reducible apply T.skip
          | with_reducible apply T.block
          | with_reducible apply T.ret
          | with_reducible apply T.exit
          | refine T.condT (h := ?_)
          | refine T.condF (h := ?_)
          | refine TL.pass (k := ?_)
          | refine TL.passN (k := ?_)
          | refine TL.take (k := ?_)
          | refine TL.q (h := .assign) (k := ?_)
          | refine TL.q (h := .build) (k := ?_)
          | (refine TL.e (h := .al) (k := ?_); rintro _ _ ⟨_, rfl, rfl⟩)
          | refine TL.u (h := .st) (k := ?_)
          | refine TL.u (h := .stA) (k := ?_)
          | refine TL.u (h := .stEp) (k := ?_)
          | refine TL.u (h := .stEpA) (k := ?_)
          | refine TL.q (h := .loadA) (k := ?_)
          | refine TL.q (h := .loadEpA) (k := ?_)
          | (refine TL.e (h := .bs) (k := ?_); rintro _ _ ⟨_, rfl, rfl⟩)
          | refine TL.q (h := .move) (k := ?_)
          | refine TL.q (h := .eqNil) (k := ?_)
          | (refine TL.callF (h := hca) (k := ?_); rintro _ _ ⟨rfl, rfl⟩)
          | refine TL.q (h := .pickT) (k := ?_)
          | refine TL.q (h := .pickF) (k := ?_)
          | refine TL.q (h := .and) (k := ?_)
          | refine TL.q (h := .add) (k := ?_)
          | refine TL.q (h := .catS) (k := ?_)
          | (refine TL.callF (h := hwa) (k := ?_); rintro _ _ ⟨rfl, wv1, rfl⟩)
          | (refine TL.callF (h := book_Within _ _ _ (by omega) (by first | assumption | rfl | omega | (simp at *; omega))) (k := ?_); rintro _ _ ⟨rfl, rfl⟩)
          | refine TL.q (h := .lenR) (k := ?_)
          | refine TL.q (h := .lenS) (k := ?_)
          | refine TL.q (h := .indexR) (k := ?_)
          | refine TL.q (h := .fieldAddr) (k := ?_)
          | refine TL.q (h := .fieldEp) (k := ?_)
          | refine TL.q (h := .load) (k := ?_)
          | refine TL.q (h := .loadEp) (k := ?_)
          | (refine TL.callF (h := hrc) (k := ?_); rintro _ _ ⟨rfl, rfl⟩)
          | (refine TL.callF (h := hwt) (k := ?_); rintro _ _ ⟨rfl, rfl⟩)
          | (refine TL.callF (h := agent_Waits _ st' _ _ _ _) (k := ?_); rintro _ _ ⟨rfl, rfl⟩)
          | refine TL.q (h := .sub) (k := ?_)
          | (refine TL.callF (h := hkn) (k := ?_); rintro _ _ ⟨rfl, rfl⟩)
          | refine TL.q (h := .not) (k := ?_)
          | (refine TL.callF (h := known22) (k := ?_); rintro _ _ ⟨rfl, rfl⟩)
          | refine TL.q (h := .pickB) (k := ?_)
          | refine TL.q (h := .binI) (k := ?_)
          | refine TL.q (h := .binS) (k := ?_))
        refine T.blkW (fun l A => ∃ (last2 tag2 : Int) (st2 : MAgent), BeatI (i + 1) last2 tag2 st2 ∧ l = [(9, .int .i64 ((i + 1 : Nat) : Int)), (6, .pointer (some ⟨b, 0, none⟩)), (4, .bool false), (1, .int .i64 ticks), (7, .int .i64 last2), (8, .int .i64 tag2)] ∧ A = agL b st2 sv cb wv3 true ++ [F]) ?_ ?_
        · refine T.loopI (fun q' l A => l = [(41, .int .i64 0), (40, .int .i64 0), (9, .int .i64 ((i + 1 : Nat) : Int)), (6, .pointer (some ⟨b, 0, none⟩)), (4, .bool false), (1, .int .i64 ticks), (7, .int .i64 last), (8, .int .i64 tag)] ∧ A = agL b st' sv cb wv3 true ++ [F]) (m := 0) ⟨rfl, rfl⟩ (by (repeat (first | exact AllIs.nil | refine AllIs.cons (by (simp only [St.ev, slk, Nat.reduceBEq, cond_true, cond_false]; first | done | rfl)) ?_))) (by (repeat (first | exact Picks.nil | (apply Picks.cons; (repeat (first | exact Pick.here | apply Pick.there)))))) ?_
          rintro q' l A jg ⟨rfl, rfl⟩
          repeat (first
            | with_reducible apply T.seq
            | with_reducible apply T.region
            | with_reducible apply TL.nil
            | with_reducible apply Thn.normal
            | with_reducible apply Thn.ret
            | with_reducible apply Thn.exit
            | with_reducible apply Blk.normal
            | with_reducible apply Blk.ret
            | ((with_reducible refine Blk.exitE ?_ ?_); · rfl)
            | ((with_reducible refine Blk.exitN ?_ ?_); · rfl)
            | with_reducible apply Rnd.ret
            | with_reducible apply Rnd.exit
            | with_reducible apply RndI.ret
            | with_reducible apply RndI.exit
            | with_reducible apply ThnI.ret
            | with_reducible apply ThnI.exit
            | with_reducible apply T.skip
            | with_reducible apply T.block
            | with_reducible apply T.ret
            | with_reducible apply T.exit
            | refine T.condT (h := ?_)
            | refine T.condF (h := ?_)
            | refine TL.pass (k := ?_)
            | refine TL.passN (k := ?_)
            | refine TL.take (k := ?_)
            | refine TL.q (h := .assign) (k := ?_)
            | refine TL.q (h := .build) (k := ?_)
            | (refine TL.e (h := .al) (k := ?_); rintro _ _ ⟨_, rfl, rfl⟩)
            | refine TL.u (h := .st) (k := ?_)
            | refine TL.u (h := .stA) (k := ?_)
            | refine TL.u (h := .stEp) (k := ?_)
            | refine TL.u (h := .stEpA) (k := ?_)
            | refine TL.q (h := .loadA) (k := ?_)
            | refine TL.q (h := .loadEpA) (k := ?_)
            | (refine TL.e (h := .bs) (k := ?_); rintro _ _ ⟨_, rfl, rfl⟩)
            | refine TL.q (h := .move) (k := ?_)
            | refine TL.q (h := .eqNil) (k := ?_)
            | (refine TL.callF (h := hca) (k := ?_); rintro _ _ ⟨rfl, rfl⟩)
            | refine TL.q (h := .pickT) (k := ?_)
            | refine TL.q (h := .pickF) (k := ?_)
            | refine TL.q (h := .and) (k := ?_)
            | refine TL.q (h := .add) (k := ?_)
            | refine TL.q (h := .catS) (k := ?_)
            | (refine TL.callF (h := hwa) (k := ?_); rintro _ _ ⟨rfl, wv1, rfl⟩)
            | (refine TL.callF (h := book_Within _ _ _ (by omega) (by first | assumption | rfl | omega | (simp at *; omega))) (k := ?_); rintro _ _ ⟨rfl, rfl⟩)
            | refine TL.q (h := .lenR) (k := ?_)
            | refine TL.q (h := .lenS) (k := ?_)
            | refine TL.q (h := .indexR) (k := ?_)
            | refine TL.q (h := .fieldAddr) (k := ?_)
            | refine TL.q (h := .fieldEp) (k := ?_)
            | refine TL.q (h := .load) (k := ?_)
            | refine TL.q (h := .loadEp) (k := ?_)
            | (refine TL.callF (h := hrc) (k := ?_); rintro _ _ ⟨rfl, rfl⟩)
            | (refine TL.callF (h := hwt) (k := ?_); rintro _ _ ⟨rfl, rfl⟩)
            | (refine TL.callF (h := agent_Waits _ st' _ _ _ _) (k := ?_); rintro _ _ ⟨rfl, rfl⟩)
            | refine TL.q (h := .sub) (k := ?_)
            | (refine TL.callF (h := hkn) (k := ?_); rintro _ _ ⟨rfl, rfl⟩)
            | refine TL.q (h := .not) (k := ?_)
            | (refine TL.callF (h := known22) (k := ?_); rintro _ _ ⟨rfl, rfl⟩)
            | refine TL.q (h := .pickB) (k := ?_)
            | refine TL.q (h := .binI) (k := ?_)
            | refine TL.q (h := .binS) (k := ?_))
          refine ThnI.done ⟨last, tag, st', hb, rfl, rfl⟩ (by (repeat (first | exact AllIs.nil | refine AllIs.cons (by (simp only [St.ev, slk, Nat.reduceBEq, cond_true, cond_false]; first | done | rfl)) ?_))) (by (repeat (first | exact Picks.nil | (apply Picks.cons; (repeat (first | exact Pick.here | apply Pick.there))))))
        · rintro l A jg ⟨last2, tag2, st2, hb, rfl, rfl⟩
          simp only [agL, agC, List.cons_append, List.nil_append]
          repeat (first
            | with_reducible apply T.seq
            | with_reducible apply T.region
            | with_reducible apply TL.nil
            | with_reducible apply Thn.normal
            | with_reducible apply Thn.ret
            | with_reducible apply Thn.exit
            | with_reducible apply Blk.normal
            | with_reducible apply Blk.ret
            | ((with_reducible refine Blk.exitE ?_ ?_); · rfl)
            | ((with_reducible refine Blk.exitN ?_ ?_); · rfl)
            | with_reducible apply Rnd.ret
            | with_reducible apply Rnd.exit
            | with_reducible apply RndI.ret
            | with_reducible apply RndI.exit
            | with_reducible apply ThnI.ret
            | with_reducible apply ThnI.exit
            | with_reducible apply T.skip
            | with_reducible apply T.block
            | with_reducible apply T.ret
            | with_reducible apply T.exit
            | refine T.condT (h := ?_)
            | refine T.condF (h := ?_)
            | refine TL.pass (k := ?_)
            | refine TL.passN (k := ?_)
            | refine TL.take (k := ?_)
            | refine TL.q (h := .assign) (k := ?_)
            | refine TL.q (h := .build) (k := ?_)
            | (refine TL.e (h := .al) (k := ?_); rintro _ _ ⟨_, rfl, rfl⟩)
            | refine TL.u (h := .st) (k := ?_)
            | refine TL.u (h := .stA) (k := ?_)
            | refine TL.u (h := .stEp) (k := ?_)
            | refine TL.u (h := .stEpA) (k := ?_)
            | refine TL.q (h := .loadA) (k := ?_)
            | refine TL.q (h := .loadEpA) (k := ?_)
            | (refine TL.e (h := .bs) (k := ?_); rintro _ _ ⟨_, rfl, rfl⟩)
            | refine TL.q (h := .move) (k := ?_)
            | refine TL.q (h := .eqNil) (k := ?_)
            | (refine TL.callF (h := hca) (k := ?_); rintro _ _ ⟨rfl, rfl⟩)
            | refine TL.q (h := .pickT) (k := ?_)
            | refine TL.q (h := .pickF) (k := ?_)
            | refine TL.q (h := .and) (k := ?_)
            | refine TL.q (h := .add) (k := ?_)
            | refine TL.q (h := .catS) (k := ?_)
            | (refine TL.callF (h := hwa) (k := ?_); rintro _ _ ⟨rfl, wv1, rfl⟩)
            | (refine TL.callF (h := book_Within _ _ _ (by omega) (by first | assumption | rfl | omega | (simp at *; omega))) (k := ?_); rintro _ _ ⟨rfl, rfl⟩)
            | refine TL.q (h := .lenR) (k := ?_)
            | refine TL.q (h := .lenS) (k := ?_)
            | refine TL.q (h := .indexR) (k := ?_)
            | refine TL.q (h := .fieldAddr) (k := ?_)
            | refine TL.q (h := .fieldEp) (k := ?_)
            | refine TL.q (h := .load) (k := ?_)
            | refine TL.q (h := .loadEp) (k := ?_)
            | (refine TL.callF (h := hrc) (k := ?_); rintro _ _ ⟨rfl, rfl⟩)
            | (refine TL.callF (h := hwt) (k := ?_); rintro _ _ ⟨rfl, rfl⟩)
            | (refine TL.callF (h := agent_Waits _ st' _ _ _ _) (k := ?_); rintro _ _ ⟨rfl, rfl⟩)
            | refine TL.q (h := .sub) (k := ?_)
            | (refine TL.callF (h := hkn) (k := ?_); rintro _ _ ⟨rfl, rfl⟩)
            | refine TL.q (h := .not) (k := ?_)
            | (refine TL.callF (h := known22) (k := ?_); rintro _ _ ⟨rfl, rfl⟩)
            | refine TL.q (h := .pickB) (k := ?_)
            | refine TL.q (h := .binI) (k := ?_)
            | refine TL.q (h := .binS) (k := ?_))
          have hk2 := hb.rest (by omega)
          have hwt := agent_Waits b st2 sv cb wv3 true
          have hkn := agent_Known b st2 sv cb wv3 true
          simp only [agC] at hwt hkn
          have g1 := hb.idle
          have g2 : (!st2.known) = false := by rw [hk2.2.2.1]; rfl
          have g3 : decide (((i + 1 : Nat) : Int) - last2 > 11) = false := decide_eq_false (by have := hk2.2.2.2.2; omega)
          have hlr := hb.lr
          have htr := hb.tr
          repeat' (first
            | with_reducible apply T.seq
            | with_reducible apply T.region
            | with_reducible apply TL.nil
            | with_reducible apply Thn.normal
            | with_reducible apply Thn.ret
            | with_reducible apply Thn.exit
            | with_reducible apply Blk.normal
            | with_reducible apply Blk.ret
            | ((with_reducible refine Blk.exitE ?_ ?_); · rfl)
            | ((with_reducible refine Blk.exitN ?_ ?_); · rfl)
            | with_reducible apply Rnd.ret
            | with_reducible apply Rnd.exit
            | with_reducible apply RndI.ret
            | with_reducible apply RndI.exit
            | with_reducible apply ThnI.ret
            | with_reducible apply ThnI.exit
            | with_reducible apply T.skip
            | with_reducible apply T.block
            | with_reducible apply T.ret
            | with_reducible apply T.exit
            | refine T.condT (h := ?_)
            | refine T.condF (h := ?_)
            | refine TL.pass (k := ?_)
            | refine TL.passN (k := ?_)
            | refine TL.take (k := ?_)
            | refine TL.q (h := .assign) (k := ?_)
            | refine TL.q (h := .build) (k := ?_)
            | (refine TL.e (h := .al) (k := ?_); rintro _ _ ⟨_, rfl, rfl⟩)
            | refine TL.u (h := .st) (k := ?_)
            | refine TL.u (h := .stA) (k := ?_)
            | refine TL.u (h := .stEp) (k := ?_)
            | refine TL.u (h := .stEpA) (k := ?_)
            | refine TL.q (h := .loadA) (k := ?_)
            | refine TL.q (h := .loadEpA) (k := ?_)
            | (refine TL.e (h := .bs) (k := ?_); rintro _ _ ⟨_, rfl, rfl⟩)
            | refine TL.q (h := .move) (k := ?_)
            | refine TL.q (h := .eqNil) (k := ?_)
            | (refine TL.callF (h := hca) (k := ?_); rintro _ _ ⟨rfl, rfl⟩)
            | refine TL.q (h := .pickT) (k := ?_)
            | refine TL.q (h := .pickF) (k := ?_)
            | refine TL.q (h := .and) (k := ?_)
            | refine TL.q (h := .add) (k := ?_)
            | refine TL.q (h := .catS) (k := ?_)
            | (refine TL.callF (h := hwa) (k := ?_); rintro _ _ ⟨rfl, wv1, rfl⟩)
            | (refine TL.callF (h := book_Within _ _ _ (by omega) (by first | assumption | rfl | omega | (simp at *; omega))) (k := ?_); rintro _ _ ⟨rfl, rfl⟩)
            | refine TL.q (h := .lenR) (k := ?_)
            | refine TL.q (h := .lenS) (k := ?_)
            | refine TL.q (h := .indexR) (k := ?_)
            | refine TL.q (h := .fieldAddr) (k := ?_)
            | refine TL.q (h := .fieldEp) (k := ?_)
            | refine TL.q (h := .load) (k := ?_)
            | refine TL.q (h := .loadEp) (k := ?_)
            | (refine TL.callF (h := hrc) (k := ?_); rintro _ _ ⟨rfl, rfl⟩)
            | (refine TL.callF (h := hwt) (k := ?_); rintro _ _ ⟨rfl, rfl⟩)
            | (refine TL.callF (h := agent_Waits _ st' _ _ _ _) (k := ?_); rintro _ _ ⟨rfl, rfl⟩)
            | refine TL.q (h := .sub) (k := ?_)
            | (refine TL.callF (h := hkn) (k := ?_); rintro _ _ ⟨rfl, rfl⟩)
            | refine TL.q (h := .not) (k := ?_)
            | (refine TL.callF (h := known22) (k := ?_); rintro _ _ ⟨rfl, rfl⟩)
            | refine TL.q (h := .pickB) (k := ?_)
            | refine TL.q (h := .binI) (k := ?_)
            | refine TL.q (h := .binS) (k := ?_)
            | refine TL.gT (k := ?_)
            | refine TL.gF (k := ?_)
            | refine T.cT (h := ?_)
            | refine T.cF (h := ?_)
            | (refine TL.gcase (ht := fun _ => ?_) (hf := fun _ => ?_))
            | refine T.cond (by (simp only [St.ev, slk, Nat.reduceBEq, cond_true, cond_false]; first | done | rfl)) (fun _ => ?_) (fun _ => ?_))
          all_goals (refine RndI.next (m' := 201 - (i + 1)) (by omega) ⟨i + 1, last2, tag2, st2, wv3, rfl, by omega, hb, rfl, rfl⟩ (by (repeat (first | exact AllIs.nil | refine AllIs.cons (by (simp only [St.ev, slk, Nat.reduceBEq, cond_true, cond_false]; first | done | rfl)) ?_))) (by (repeat (first | exact Picks.nil | (apply Picks.cons; (repeat (first | exact Pick.here | apply Pick.there)))))))
      · rw [hts]
        simp only [List.map_cons, List.map_nil, agL, List.cons_append, List.nil_append]
        have hc0 : [sentC (mm, 0)][0]? = some (sentC (mm, 0)) := rfl
        have f2 : (mm.tag != tag + 1) = false := by rw [hSn.tg]; simp
        repeat (first
          | with_reducible apply T.seq
          | with_reducible apply T.region
          | with_reducible apply TL.nil
          | with_reducible apply Thn.normal
          | with_reducible apply Thn.ret
          | with_reducible apply Thn.exit
          | with_reducible apply Blk.normal
          | with_reducible apply Blk.ret
          | ((with_reducible refine Blk.exitE ?_ ?_); · rfl)
          | ((with_reducible refine Blk.exitN ?_ ?_); · rfl)
          | with_reducible apply Rnd.ret
          | with_reducible apply Rnd.exit
          | with_reducible apply RndI.ret
          | with_reducible apply RndI.exit
          | with_reducible apply ThnI.ret
          | with_reducible apply ThnI.exit
          | with_reducible apply T.skip
          | with_reducible apply T.block
          | with_reducible apply T.ret
          | with_reducible apply T.exit
          | refine T.condT (h := ?_)
          | refine T.condF (h := ?_)
          | refine TL.pass (k := ?_)
          | refine TL.passN (k := ?_)
          | refine TL.take (k := ?_)
          | refine TL.q (h := .assign) (k := ?_)
          | refine TL.q (h := .build) (k := ?_)
          | (refine TL.e (h := .al) (k := ?_); rintro _ _ ⟨_, rfl, rfl⟩)
          | refine TL.u (h := .st) (k := ?_)
          | refine TL.u (h := .stA) (k := ?_)
          | refine TL.u (h := .stEp) (k := ?_)
          | refine TL.u (h := .stEpA) (k := ?_)
          | refine TL.q (h := .loadA) (k := ?_)
          | refine TL.q (h := .loadEpA) (k := ?_)
          | (refine TL.e (h := .bs) (k := ?_); rintro _ _ ⟨_, rfl, rfl⟩)
          | refine TL.q (h := .move) (k := ?_)
          | refine TL.q (h := .eqNil) (k := ?_)
          | (refine TL.callF (h := hca) (k := ?_); rintro _ _ ⟨rfl, rfl⟩)
          | refine TL.q (h := .pickT) (k := ?_)
          | refine TL.q (h := .pickF) (k := ?_)
          | refine TL.q (h := .and) (k := ?_)
          | refine TL.q (h := .add) (k := ?_)
          | refine TL.q (h := .catS) (k := ?_)
          | (refine TL.callF (h := hwa) (k := ?_); rintro _ _ ⟨rfl, wv1, rfl⟩)
          | (refine TL.callF (h := book_Within _ _ _ (by omega) (by first | assumption | rfl | omega | (simp at *; omega))) (k := ?_); rintro _ _ ⟨rfl, rfl⟩)
          | refine TL.q (h := .lenR) (k := ?_)
          | refine TL.q (h := .lenS) (k := ?_)
          | refine TL.q (h := .indexR) (k := ?_)
          | refine TL.q (h := .fieldAddr) (k := ?_)
          | refine TL.q (h := .fieldEp) (k := ?_)
          | refine TL.q (h := .load) (k := ?_)
          | refine TL.q (h := .loadEp) (k := ?_)
          | (refine TL.callF (h := hrc) (k := ?_); rintro _ _ ⟨rfl, rfl⟩)
          | (refine TL.callF (h := hwt) (k := ?_); rintro _ _ ⟨rfl, rfl⟩)
          | (refine TL.callF (h := agent_Waits _ st' _ _ _ _) (k := ?_); rintro _ _ ⟨rfl, rfl⟩)
          | refine TL.q (h := .sub) (k := ?_)
          | (refine TL.callF (h := hkn) (k := ?_); rintro _ _ ⟨rfl, rfl⟩)
          | refine TL.q (h := .not) (k := ?_)
          | (refine TL.callF (h := known22) (k := ?_); rintro _ _ ⟨rfl, rfl⟩)
          | refine TL.q (h := .pickB) (k := ?_)
          | refine TL.q (h := .binI) (k := ?_)
          | refine TL.q (h := .binS) (k := ?_))
        refine T.blkW (fun l A => ∃ (last2 tag2 : Int) (st2 : MAgent), BeatI (i + 1) last2 tag2 st2 ∧ l = [(9, .int .i64 ((i + 1 : Nat) : Int)), (6, .pointer (some ⟨b, 0, none⟩)), (4, .bool false), (1, .int .i64 ticks), (7, .int .i64 last2), (8, .int .i64 tag2)] ∧ A = agL b st2 sv cb wv3 true ++ [F]) ?_ ?_
        · refine T.loopI (fun q' l A => (q' = 1 ∧ l = [(41, .int .i64 0), (40, .int .i64 1), (39, ov.v), (9, .int .i64 ((i + 1 : Nat) : Int)), (6, .pointer (some ⟨b, 0, none⟩)), (4, .bool false), (1, .int .i64 ticks), (7, .int .i64 last), (8, .int .i64 tag)] ∧ A = agL b st' sv cb wv3 true ++ [row true 94 14 ov.v [sentC (mm, 0)], F]) ∨
              (q' = 0 ∧ ∃ (last2 : Int) (st2 : MAgent), BeatI (i + 1) last2 (tag + 1) st2 ∧ l = [(41, .int .i64 1), (40, .int .i64 1), (39, ov.v), (9, .int .i64 ((i + 1 : Nat) : Int)), (6, .pointer (some ⟨b, 0, none⟩)), (4, .bool false), (1, .int .i64 ticks), (7, .int .i64 last2), (8, .int .i64 (tag + 1))] ∧ A = agL b st2 sv cb wv3 true ++ [F])) (m := 1) (.inl ⟨rfl, rfl, rfl⟩) (by (repeat (first | exact AllIs.nil | refine AllIs.cons (by (simp only [St.ev, slk, Nat.reduceBEq, cond_true, cond_false]; first | done | rfl)) ?_))) (by (repeat (first | exact Picks.nil | (apply Picks.cons; (repeat (first | exact Pick.here | apply Pick.there)))))) ?_
          rintro q' l A jg (⟨rfl, rfl, rfl⟩ | ⟨rfl, last2, st2, hb, rfl, rfl⟩)
          rotate_left
          · skip
            repeat (first
              | with_reducible apply T.seq
              | with_reducible apply T.region
              | with_reducible apply TL.nil
              | with_reducible apply Thn.normal
              | with_reducible apply Thn.ret
              | with_reducible apply Thn.exit
              | with_reducible apply Blk.normal
              | with_reducible apply Blk.ret
              | ((with_reducible refine Blk.exitE ?_ ?_); · rfl)
              | ((with_reducible refine Blk.exitN ?_ ?_); · rfl)
              | with_reducible apply Rnd.ret
              | with_reducible apply Rnd.exit
              | with_reducible apply RndI.ret
              | with_reducible apply RndI.exit
              | with_reducible apply ThnI.ret
              | with_reducible apply ThnI.exit
              | with_reducible apply T.skip
              | with_reducible apply T.block
              | with_reducible apply T.ret
              | with_reducible apply T.exit
              | refine T.condT (h := ?_)
              | refine T.condF (h := ?_)
              | refine TL.pass (k := ?_)
              | refine TL.passN (k := ?_)
              | refine TL.take (k := ?_)
              | refine TL.q (h := .assign) (k := ?_)
              | refine TL.q (h := .build) (k := ?_)
              | (refine TL.e (h := .al) (k := ?_); rintro _ _ ⟨_, rfl, rfl⟩)
              | refine TL.u (h := .st) (k := ?_)
              | refine TL.u (h := .stA) (k := ?_)
              | refine TL.u (h := .stEp) (k := ?_)
              | refine TL.u (h := .stEpA) (k := ?_)
              | refine TL.q (h := .loadA) (k := ?_)
              | refine TL.q (h := .loadEpA) (k := ?_)
              | (refine TL.e (h := .bs) (k := ?_); rintro _ _ ⟨_, rfl, rfl⟩)
              | refine TL.q (h := .move) (k := ?_)
              | refine TL.q (h := .eqNil) (k := ?_)
              | (refine TL.callF (h := hca) (k := ?_); rintro _ _ ⟨rfl, rfl⟩)
              | refine TL.q (h := .pickT) (k := ?_)
              | refine TL.q (h := .pickF) (k := ?_)
              | refine TL.q (h := .and) (k := ?_)
              | refine TL.q (h := .add) (k := ?_)
              | refine TL.q (h := .catS) (k := ?_)
              | (refine TL.callF (h := hwa) (k := ?_); rintro _ _ ⟨rfl, wv1, rfl⟩)
              | (refine TL.callF (h := book_Within _ _ _ (by omega) (by first | assumption | rfl | omega | (simp at *; omega))) (k := ?_); rintro _ _ ⟨rfl, rfl⟩)
              | refine TL.q (h := .lenR) (k := ?_)
              | refine TL.q (h := .lenS) (k := ?_)
              | refine TL.q (h := .indexR) (k := ?_)
              | refine TL.q (h := .fieldAddr) (k := ?_)
              | refine TL.q (h := .fieldEp) (k := ?_)
              | refine TL.q (h := .load) (k := ?_)
              | refine TL.q (h := .loadEp) (k := ?_)
              | (refine TL.callF (h := hrc) (k := ?_); rintro _ _ ⟨rfl, rfl⟩)
              | (refine TL.callF (h := hwt) (k := ?_); rintro _ _ ⟨rfl, rfl⟩)
              | (refine TL.callF (h := agent_Waits _ st' _ _ _ _) (k := ?_); rintro _ _ ⟨rfl, rfl⟩)
              | refine TL.q (h := .sub) (k := ?_)
              | (refine TL.callF (h := hkn) (k := ?_); rintro _ _ ⟨rfl, rfl⟩)
              | refine TL.q (h := .not) (k := ?_)
              | (refine TL.callF (h := known22) (k := ?_); rintro _ _ ⟨rfl, rfl⟩)
              | refine TL.q (h := .pickB) (k := ?_)
              | refine TL.q (h := .binI) (k := ?_)
              | refine TL.q (h := .binS) (k := ?_))
            refine ThnI.done ⟨last2, tag + 1, st2, hb, rfl, rfl⟩ (by (repeat (first | exact AllIs.nil | refine AllIs.cons (by (simp only [St.ev, slk, Nat.reduceBEq, cond_true, cond_false]; first | done | rfl)) ?_))) (by (repeat (first | exact Picks.nil | (apply Picks.cons; (repeat (first | exact Pick.here | apply Pick.there))))))
          simp only [agL, List.cons_append, List.nil_append]
          by_cases h5 : mm.op = 5
          · obtain ⟨ha, hid, hrok⟩ := hSn.fetch h5
            have hb := hF h5
            have hrc := (agent_ReceiveF b st' sv cb wv3 true 0 (tag + 1) 0 hSn.srv).mono (post' := fun v L => v = .int .i64 0 ∧ L = agL b st'.fed sv cb wv3 true) (fun v L h => by
              rcases h with ⟨_, h⟩ | ⟨h, _⟩
              · exact h
              · rw [hrok] at h; cases h)
            generalize hst2 : st'.fed = st2 at hrc hb
            have hso : (mm.op == 5) = true := by rw [h5]; rfl
            have htg := hSn.tg
            obtain ⟨k0, op0, s0, c0, t0, n0, q0, app0, id0, u0, z0⟩ := mm
            simp only at h5 ha hid htg
            subst h5 ha hid htg
            simp only [MMsg.V, MMsg.C, feedM, agL, agC] at hrc
            simp only [sentC, MMsg.S] at hc0 ⊢
            repeat' (first
              | with_reducible apply T.seq
              | with_reducible apply T.region
              | with_reducible apply TL.nil
              | with_reducible apply Thn.normal
              | with_reducible apply Thn.ret
              | with_reducible apply Thn.exit
              | with_reducible apply Blk.normal
              | with_reducible apply Blk.ret
              | ((with_reducible refine Blk.exitE ?_ ?_); · rfl)
              | ((with_reducible refine Blk.exitN ?_ ?_); · rfl)
              | with_reducible apply Rnd.ret
              | with_reducible apply Rnd.exit
              | with_reducible apply RndI.ret
              | with_reducible apply RndI.exit
              | with_reducible apply ThnI.ret
              | with_reducible apply ThnI.exit
              | with_reducible apply T.skip
              | with_reducible apply T.block
              | with_reducible apply T.ret
              | with_reducible apply T.exit
              | refine T.condT (h := ?_)
              | refine T.condF (h := ?_)
              | refine TL.pass (k := ?_)
              | refine TL.passN (k := ?_)
              | refine TL.take (k := ?_)
              | refine TL.q (h := .assign) (k := ?_)
              | refine TL.q (h := .build) (k := ?_)
              | (refine TL.e (h := .al) (k := ?_); rintro _ _ ⟨_, rfl, rfl⟩)
              | refine TL.u (h := .st) (k := ?_)
              | refine TL.u (h := .stA) (k := ?_)
              | refine TL.u (h := .stEp) (k := ?_)
              | refine TL.u (h := .stEpA) (k := ?_)
              | refine TL.q (h := .loadA) (k := ?_)
              | refine TL.q (h := .loadEpA) (k := ?_)
              | (refine TL.e (h := .bs) (k := ?_); rintro _ _ ⟨_, rfl, rfl⟩)
              | refine TL.q (h := .move) (k := ?_)
              | refine TL.q (h := .eqNil) (k := ?_)
              | (refine TL.callF (h := hca) (k := ?_); rintro _ _ ⟨rfl, rfl⟩)
              | refine TL.q (h := .pickT) (k := ?_)
              | refine TL.q (h := .pickF) (k := ?_)
              | refine TL.q (h := .and) (k := ?_)
              | refine TL.q (h := .add) (k := ?_)
              | refine TL.q (h := .catS) (k := ?_)
              | (refine TL.callF (h := hwa) (k := ?_); rintro _ _ ⟨rfl, wv1, rfl⟩)
              | (refine TL.callF (h := book_Within _ _ _ (by omega) (by first | assumption | rfl | omega | (simp at *; omega))) (k := ?_); rintro _ _ ⟨rfl, rfl⟩)
              | refine TL.q (h := .lenR) (k := ?_)
              | refine TL.q (h := .lenS) (k := ?_)
              | refine TL.q (h := .indexR) (k := ?_)
              | refine TL.q (h := .fieldAddr) (k := ?_)
              | refine TL.q (h := .fieldEp) (k := ?_)
              | refine TL.q (h := .load) (k := ?_)
              | refine TL.q (h := .loadEp) (k := ?_)
              | (refine TL.callF (h := hrc) (k := ?_); rintro _ _ ⟨rfl, rfl⟩)
              | (refine TL.callF (h := hwt) (k := ?_); rintro _ _ ⟨rfl, rfl⟩)
              | (refine TL.callF (h := agent_Waits _ st' _ _ _ _) (k := ?_); rintro _ _ ⟨rfl, rfl⟩)
              | refine TL.q (h := .sub) (k := ?_)
              | (refine TL.callF (h := hkn) (k := ?_); rintro _ _ ⟨rfl, rfl⟩)
              | refine TL.q (h := .not) (k := ?_)
              | (refine TL.callF (h := known22) (k := ?_); rintro _ _ ⟨rfl, rfl⟩)
              | refine TL.q (h := .pickB) (k := ?_)
              | refine TL.q (h := .binI) (k := ?_)
              | refine TL.q (h := .binS) (k := ?_)
              | refine TL.gT (k := ?_)
              | refine TL.gF (k := ?_)
              | refine T.cT (h := ?_)
              | refine T.cF (h := ?_)
              | (refine TL.gcase (ht := fun _ => ?_) (hf := fun _ => ?_))
              | refine T.cond (by (simp only [St.ev, slk, Nat.reduceBEq, cond_true, cond_false]; first | done | rfl)) (fun _ => ?_) (fun _ => ?_))
            all_goals (refine RndI.next (m' := 0) (by omega) (.inr ⟨rfl, last, st2, hb, rfl, rfl⟩) (by (repeat (first | exact AllIs.nil | refine AllIs.cons (by (simp only [St.ev, slk, Nat.reduceBEq, cond_true, cond_false]; first | done | rfl)) ?_))) (by (repeat (first | exact Picks.nil | (apply Picks.cons; (repeat (first | exact Pick.here | apply Pick.there)))))))
          · obtain ⟨ha, hid, hrok⟩ := hSn.other h5
            have hb := hG h5
            have h5f : ((ansW mm.op (tag + 1)).op == 5) = false := by show (mm.op == 5) = false; simpa using h5
            have hrc := (agent_Receive b st' sv cb wv3 true 0 (ansW mm.op (tag + 1)) 0 hSn.srv rfl h5f).mono (post' := fun v L => v = .int .i64 0 ∧ L = agL b (st'.recv (ansW mm.op (tag + 1))) sv cb wv3 true) (fun v L h => by
              rcases h with ⟨_, h⟩ | ⟨h, _⟩
              · exact h
              · rw [hrok] at h; cases h)
            generalize hst2 : st'.recv (ansW mm.op (tag + 1)) = st2 at hrc hb
            have hso : (mm.op == 5) = false := by simpa using h5
            have htg := hSn.tg
            obtain ⟨k0, op0, s0, c0, t0, n0, q0, app0, id0, u0, z0⟩ := mm
            simp only at h5 ha hid htg
            subst ha hid htg
            simp only [MMsg.V, MMsg.C, ansW, agL, agC] at hrc
            simp only [sentC, MMsg.S] at hc0 ⊢
            repeat' (first
              | with_reducible apply T.seq
              | with_reducible apply T.region
              | with_reducible apply TL.nil
              | with_reducible apply Thn.normal
              | with_reducible apply Thn.ret
              | with_reducible apply Thn.exit
              | with_reducible apply Blk.normal
              | with_reducible apply Blk.ret
              | ((with_reducible refine Blk.exitE ?_ ?_); · rfl)
              | ((with_reducible refine Blk.exitN ?_ ?_); · rfl)
              | with_reducible apply Rnd.ret
              | with_reducible apply Rnd.exit
              | with_reducible apply RndI.ret
              | with_reducible apply RndI.exit
              | with_reducible apply ThnI.ret
              | with_reducible apply ThnI.exit
              | with_reducible apply T.skip
              | with_reducible apply T.block
              | with_reducible apply T.ret
              | with_reducible apply T.exit
              | refine T.condT (h := ?_)
              | refine T.condF (h := ?_)
              | refine TL.pass (k := ?_)
              | refine TL.passN (k := ?_)
              | refine TL.take (k := ?_)
              | refine TL.q (h := .assign) (k := ?_)
              | refine TL.q (h := .build) (k := ?_)
              | (refine TL.e (h := .al) (k := ?_); rintro _ _ ⟨_, rfl, rfl⟩)
              | refine TL.u (h := .st) (k := ?_)
              | refine TL.u (h := .stA) (k := ?_)
              | refine TL.u (h := .stEp) (k := ?_)
              | refine TL.u (h := .stEpA) (k := ?_)
              | refine TL.q (h := .loadA) (k := ?_)
              | refine TL.q (h := .loadEpA) (k := ?_)
              | (refine TL.e (h := .bs) (k := ?_); rintro _ _ ⟨_, rfl, rfl⟩)
              | refine TL.q (h := .move) (k := ?_)
              | refine TL.q (h := .eqNil) (k := ?_)
              | (refine TL.callF (h := hca) (k := ?_); rintro _ _ ⟨rfl, rfl⟩)
              | refine TL.q (h := .pickT) (k := ?_)
              | refine TL.q (h := .pickF) (k := ?_)
              | refine TL.q (h := .and) (k := ?_)
              | refine TL.q (h := .add) (k := ?_)
              | refine TL.q (h := .catS) (k := ?_)
              | (refine TL.callF (h := hwa) (k := ?_); rintro _ _ ⟨rfl, wv1, rfl⟩)
              | (refine TL.callF (h := book_Within _ _ _ (by omega) (by first | assumption | rfl | omega | (simp at *; omega))) (k := ?_); rintro _ _ ⟨rfl, rfl⟩)
              | refine TL.q (h := .lenR) (k := ?_)
              | refine TL.q (h := .lenS) (k := ?_)
              | refine TL.q (h := .indexR) (k := ?_)
              | refine TL.q (h := .fieldAddr) (k := ?_)
              | refine TL.q (h := .fieldEp) (k := ?_)
              | refine TL.q (h := .load) (k := ?_)
              | refine TL.q (h := .loadEp) (k := ?_)
              | (refine TL.callF (h := hrc) (k := ?_); rintro _ _ ⟨rfl, rfl⟩)
              | (refine TL.callF (h := hwt) (k := ?_); rintro _ _ ⟨rfl, rfl⟩)
              | (refine TL.callF (h := agent_Waits _ st' _ _ _ _) (k := ?_); rintro _ _ ⟨rfl, rfl⟩)
              | refine TL.q (h := .sub) (k := ?_)
              | (refine TL.callF (h := hkn) (k := ?_); rintro _ _ ⟨rfl, rfl⟩)
              | refine TL.q (h := .not) (k := ?_)
              | (refine TL.callF (h := known22) (k := ?_); rintro _ _ ⟨rfl, rfl⟩)
              | refine TL.q (h := .pickB) (k := ?_)
              | refine TL.q (h := .binI) (k := ?_)
              | refine TL.q (h := .binS) (k := ?_)
              | refine TL.gT (k := ?_)
              | refine TL.gF (k := ?_)
              | refine T.cT (h := ?_)
              | refine T.cF (h := ?_)
              | (refine TL.gcase (ht := fun _ => ?_) (hf := fun _ => ?_))
              | refine T.cond (by (simp only [St.ev, slk, Nat.reduceBEq, cond_true, cond_false]; first | done | rfl)) (fun _ => ?_) (fun _ => ?_))
            all_goals (refine RndI.next (m' := 0) (by omega) (.inr ⟨rfl, (i : Int) + 1, st2, hb, rfl, rfl⟩) (by (repeat (first | exact AllIs.nil | refine AllIs.cons (by (simp only [St.ev, slk, Nat.reduceBEq, cond_true, cond_false]; first | done | rfl)) ?_))) (by (repeat (first | exact Picks.nil | (apply Picks.cons; (repeat (first | exact Pick.here | apply Pick.there)))))))
        · rintro l A jg ⟨last2, tag2, st2, hb, rfl, rfl⟩
          simp only [agL, agC, List.cons_append, List.nil_append]
          repeat (first
            | with_reducible apply T.seq
            | with_reducible apply T.region
            | with_reducible apply TL.nil
            | with_reducible apply Thn.normal
            | with_reducible apply Thn.ret
            | with_reducible apply Thn.exit
            | with_reducible apply Blk.normal
            | with_reducible apply Blk.ret
            | ((with_reducible refine Blk.exitE ?_ ?_); · rfl)
            | ((with_reducible refine Blk.exitN ?_ ?_); · rfl)
            | with_reducible apply Rnd.ret
            | with_reducible apply Rnd.exit
            | with_reducible apply RndI.ret
            | with_reducible apply RndI.exit
            | with_reducible apply ThnI.ret
            | with_reducible apply ThnI.exit
            | with_reducible apply T.skip
            | with_reducible apply T.block
            | with_reducible apply T.ret
            | with_reducible apply T.exit
            | refine T.condT (h := ?_)
            | refine T.condF (h := ?_)
            | refine TL.pass (k := ?_)
            | refine TL.passN (k := ?_)
            | refine TL.take (k := ?_)
            | refine TL.q (h := .assign) (k := ?_)
            | refine TL.q (h := .build) (k := ?_)
            | (refine TL.e (h := .al) (k := ?_); rintro _ _ ⟨_, rfl, rfl⟩)
            | refine TL.u (h := .st) (k := ?_)
            | refine TL.u (h := .stA) (k := ?_)
            | refine TL.u (h := .stEp) (k := ?_)
            | refine TL.u (h := .stEpA) (k := ?_)
            | refine TL.q (h := .loadA) (k := ?_)
            | refine TL.q (h := .loadEpA) (k := ?_)
            | (refine TL.e (h := .bs) (k := ?_); rintro _ _ ⟨_, rfl, rfl⟩)
            | refine TL.q (h := .move) (k := ?_)
            | refine TL.q (h := .eqNil) (k := ?_)
            | (refine TL.callF (h := hca) (k := ?_); rintro _ _ ⟨rfl, rfl⟩)
            | refine TL.q (h := .pickT) (k := ?_)
            | refine TL.q (h := .pickF) (k := ?_)
            | refine TL.q (h := .and) (k := ?_)
            | refine TL.q (h := .add) (k := ?_)
            | refine TL.q (h := .catS) (k := ?_)
            | (refine TL.callF (h := hwa) (k := ?_); rintro _ _ ⟨rfl, wv1, rfl⟩)
            | (refine TL.callF (h := book_Within _ _ _ (by omega) (by first | assumption | rfl | omega | (simp at *; omega))) (k := ?_); rintro _ _ ⟨rfl, rfl⟩)
            | refine TL.q (h := .lenR) (k := ?_)
            | refine TL.q (h := .lenS) (k := ?_)
            | refine TL.q (h := .indexR) (k := ?_)
            | refine TL.q (h := .fieldAddr) (k := ?_)
            | refine TL.q (h := .fieldEp) (k := ?_)
            | refine TL.q (h := .load) (k := ?_)
            | refine TL.q (h := .loadEp) (k := ?_)
            | (refine TL.callF (h := hrc) (k := ?_); rintro _ _ ⟨rfl, rfl⟩)
            | (refine TL.callF (h := hwt) (k := ?_); rintro _ _ ⟨rfl, rfl⟩)
            | (refine TL.callF (h := agent_Waits _ st' _ _ _ _) (k := ?_); rintro _ _ ⟨rfl, rfl⟩)
            | refine TL.q (h := .sub) (k := ?_)
            | (refine TL.callF (h := hkn) (k := ?_); rintro _ _ ⟨rfl, rfl⟩)
            | refine TL.q (h := .not) (k := ?_)
            | (refine TL.callF (h := known22) (k := ?_); rintro _ _ ⟨rfl, rfl⟩)
            | refine TL.q (h := .pickB) (k := ?_)
            | refine TL.q (h := .binI) (k := ?_)
            | refine TL.q (h := .binS) (k := ?_))
          have hk2 := hb.rest (by omega)
          have hwt := agent_Waits b st2 sv cb wv3 true
          have hkn := agent_Known b st2 sv cb wv3 true
          simp only [agC] at hwt hkn
          have g1 := hb.idle
          have g2 : (!st2.known) = false := by rw [hk2.2.2.1]; rfl
          have g3 : decide (((i + 1 : Nat) : Int) - last2 > 11) = false := decide_eq_false (by have := hk2.2.2.2.2; omega)
          have hlr := hb.lr
          have htr := hb.tr
          repeat' (first
            | with_reducible apply T.seq
            | with_reducible apply T.region
            | with_reducible apply TL.nil
            | with_reducible apply Thn.normal
            | with_reducible apply Thn.ret
            | with_reducible apply Thn.exit
            | with_reducible apply Blk.normal
            | with_reducible apply Blk.ret
            | ((with_reducible refine Blk.exitE ?_ ?_); · rfl)
            | ((with_reducible refine Blk.exitN ?_ ?_); · rfl)
            | with_reducible apply Rnd.ret
            | with_reducible apply Rnd.exit
            | with_reducible apply RndI.ret
            | with_reducible apply RndI.exit
            | with_reducible apply ThnI.ret
            | with_reducible apply ThnI.exit
            | with_reducible apply T.skip
            | with_reducible apply T.block
            | with_reducible apply T.ret
            | with_reducible apply T.exit
            | refine T.condT (h := ?_)
            | refine T.condF (h := ?_)
            | refine TL.pass (k := ?_)
            | refine TL.passN (k := ?_)
            | refine TL.take (k := ?_)
            | refine TL.q (h := .assign) (k := ?_)
            | refine TL.q (h := .build) (k := ?_)
            | (refine TL.e (h := .al) (k := ?_); rintro _ _ ⟨_, rfl, rfl⟩)
            | refine TL.u (h := .st) (k := ?_)
            | refine TL.u (h := .stA) (k := ?_)
            | refine TL.u (h := .stEp) (k := ?_)
            | refine TL.u (h := .stEpA) (k := ?_)
            | refine TL.q (h := .loadA) (k := ?_)
            | refine TL.q (h := .loadEpA) (k := ?_)
            | (refine TL.e (h := .bs) (k := ?_); rintro _ _ ⟨_, rfl, rfl⟩)
            | refine TL.q (h := .move) (k := ?_)
            | refine TL.q (h := .eqNil) (k := ?_)
            | (refine TL.callF (h := hca) (k := ?_); rintro _ _ ⟨rfl, rfl⟩)
            | refine TL.q (h := .pickT) (k := ?_)
            | refine TL.q (h := .pickF) (k := ?_)
            | refine TL.q (h := .and) (k := ?_)
            | refine TL.q (h := .add) (k := ?_)
            | refine TL.q (h := .catS) (k := ?_)
            | (refine TL.callF (h := hwa) (k := ?_); rintro _ _ ⟨rfl, wv1, rfl⟩)
            | (refine TL.callF (h := book_Within _ _ _ (by omega) (by first | assumption | rfl | omega | (simp at *; omega))) (k := ?_); rintro _ _ ⟨rfl, rfl⟩)
            | refine TL.q (h := .lenR) (k := ?_)
            | refine TL.q (h := .lenS) (k := ?_)
            | refine TL.q (h := .indexR) (k := ?_)
            | refine TL.q (h := .fieldAddr) (k := ?_)
            | refine TL.q (h := .fieldEp) (k := ?_)
            | refine TL.q (h := .load) (k := ?_)
            | refine TL.q (h := .loadEp) (k := ?_)
            | (refine TL.callF (h := hrc) (k := ?_); rintro _ _ ⟨rfl, rfl⟩)
            | (refine TL.callF (h := hwt) (k := ?_); rintro _ _ ⟨rfl, rfl⟩)
            | (refine TL.callF (h := agent_Waits _ st' _ _ _ _) (k := ?_); rintro _ _ ⟨rfl, rfl⟩)
            | refine TL.q (h := .sub) (k := ?_)
            | (refine TL.callF (h := hkn) (k := ?_); rintro _ _ ⟨rfl, rfl⟩)
            | refine TL.q (h := .not) (k := ?_)
            | (refine TL.callF (h := known22) (k := ?_); rintro _ _ ⟨rfl, rfl⟩)
            | refine TL.q (h := .pickB) (k := ?_)
            | refine TL.q (h := .binI) (k := ?_)
            | refine TL.q (h := .binS) (k := ?_)
            | refine TL.gT (k := ?_)
            | refine TL.gF (k := ?_)
            | refine T.cT (h := ?_)
            | refine T.cF (h := ?_)
            | (refine TL.gcase (ht := fun _ => ?_) (hf := fun _ => ?_))
            | refine T.cond (by (simp only [St.ev, slk, Nat.reduceBEq, cond_true, cond_false]; first | done | rfl)) (fun _ => ?_) (fun _ => ?_))
          all_goals (refine RndI.next (m' := 201 - (i + 1)) (by omega) ⟨i + 1, last2, tag2, st2, wv3, rfl, by omega, hb, rfl, rfl⟩ (by (repeat (first | exact AllIs.nil | refine AllIs.cons (by (simp only [St.ev, slk, Nat.reduceBEq, cond_true, cond_false]; first | done | rfl)) ?_))) (by (repeat (first | exact Picks.nil | (apply Picks.cons; (repeat (first | exact Pick.here | apply Pick.there)))))))
    · skip
      repeat (first
        | with_reducible apply T.seq
        | with_reducible apply T.region
        | with_reducible apply TL.nil
        | with_reducible apply Thn.normal
        | with_reducible apply Thn.ret
        | with_reducible apply Thn.exit
        | with_reducible apply Blk.normal
        | with_reducible apply Blk.ret
        | ((with_reducible refine Blk.exitE ?_ ?_); · rfl)
        | ((with_reducible refine Blk.exitN ?_ ?_); · rfl)
        | with_reducible apply Rnd.ret
        | with_reducible apply Rnd.exit
        | with_reducible apply RndI.ret
        | with_reducible apply RndI.exit
        | with_reducible apply ThnI.ret
        | with_reducible apply ThnI.exit
        | with_reducible apply T.skip
        | with_reducible apply T.block
        | with_reducible apply T.ret
        | with_reducible apply T.exit
        | refine T.condT (h := ?_)
        | refine T.condF (h := ?_)
        | refine TL.pass (k := ?_)
        | refine TL.passN (k := ?_)
        | refine TL.take (k := ?_)
        | refine TL.q (h := .assign) (k := ?_)
        | refine TL.q (h := .build) (k := ?_)
        | (refine TL.e (h := .al) (k := ?_); rintro _ _ ⟨_, rfl, rfl⟩)
        | refine TL.u (h := .st) (k := ?_)
        | refine TL.u (h := .stA) (k := ?_)
        | refine TL.u (h := .stEp) (k := ?_)
        | refine TL.u (h := .stEpA) (k := ?_)
        | refine TL.q (h := .loadA) (k := ?_)
        | refine TL.q (h := .loadEpA) (k := ?_)
        | (refine TL.e (h := .bs) (k := ?_); rintro _ _ ⟨_, rfl, rfl⟩)
        | refine TL.q (h := .move) (k := ?_)
        | refine TL.q (h := .eqNil) (k := ?_)
        | (refine TL.callF (h := hca) (k := ?_); rintro _ _ ⟨rfl, rfl⟩)
        | refine TL.q (h := .pickT) (k := ?_)
        | refine TL.q (h := .pickF) (k := ?_)
        | refine TL.q (h := .and) (k := ?_)
        | refine TL.q (h := .add) (k := ?_)
        | refine TL.q (h := .catS) (k := ?_)
        | (refine TL.callF (h := hwa) (k := ?_); rintro _ _ ⟨rfl, wv1, rfl⟩)
        | (refine TL.callF (h := book_Within _ _ _ (by omega) (by first | assumption | rfl | omega | (simp at *; omega))) (k := ?_); rintro _ _ ⟨rfl, rfl⟩)
        | refine TL.q (h := .lenR) (k := ?_)
        | refine TL.q (h := .lenS) (k := ?_)
        | refine TL.q (h := .indexR) (k := ?_)
        | refine TL.q (h := .fieldAddr) (k := ?_)
        | refine TL.q (h := .fieldEp) (k := ?_)
        | refine TL.q (h := .load) (k := ?_)
        | refine TL.q (h := .loadEp) (k := ?_)
        | (refine TL.callF (h := hrc) (k := ?_); rintro _ _ ⟨rfl, rfl⟩)
        | (refine TL.callF (h := hwt) (k := ?_); rintro _ _ ⟨rfl, rfl⟩)
        | (refine TL.callF (h := agent_Waits _ st' _ _ _ _) (k := ?_); rintro _ _ ⟨rfl, rfl⟩)
        | refine TL.q (h := .sub) (k := ?_)
        | (refine TL.callF (h := hkn) (k := ?_); rintro _ _ ⟨rfl, rfl⟩)
        | refine TL.q (h := .not) (k := ?_)
        | (refine TL.callF (h := known22) (k := ?_); rintro _ _ ⟨rfl, rfl⟩)
        | refine TL.q (h := .pickB) (k := ?_)
        | refine TL.q (h := .binI) (k := ?_)
        | refine TL.q (h := .binS) (k := ?_))
      refine ThnI.done ⟨rfl, rfl⟩ (by (repeat (first | exact AllIs.nil | refine AllIs.cons (by (simp only [St.ev, slk, Nat.reduceBEq, cond_true, cond_false]; first | done | rfl)) ?_))) (by (repeat (first | exact Picks.nil | (apply Picks.cons; (repeat (first | exact Pick.here | apply Pick.there))))))
  · rintro l A j ⟨rfl, rfl⟩
    repeat (first
      | with_reducible apply T.seq
      | with_reducible apply T.region
      | with_reducible apply TL.nil
      | with_reducible apply Thn.normal
      | with_reducible apply Thn.ret
      | with_reducible apply Thn.exit
      | with_reducible apply Blk.normal
      | with_reducible apply Blk.ret
      | ((with_reducible refine Blk.exitE ?_ ?_); · rfl)
      | ((with_reducible refine Blk.exitN ?_ ?_); · rfl)
      | with_reducible apply Rnd.ret
      | with_reducible apply Rnd.exit
      | with_reducible apply RndI.ret
      | with_reducible apply RndI.exit
      | with_reducible apply ThnI.ret
      | with_reducible apply ThnI.exit
      | with_reducible apply T.skip
      | with_reducible apply T.block
      | with_reducible apply T.ret
      | with_reducible apply T.exit
      | refine T.condT (h := ?_)
      | refine T.condF (h := ?_)
      | refine TL.pass (k := ?_)
      | refine TL.passN (k := ?_)
      | refine TL.take (k := ?_)
      | refine TL.q (h := .assign) (k := ?_)
      | refine TL.q (h := .build) (k := ?_)
      | (refine TL.e (h := .al) (k := ?_); rintro _ _ ⟨_, rfl, rfl⟩)
      | refine TL.u (h := .st) (k := ?_)
      | refine TL.u (h := .stA) (k := ?_)
      | refine TL.u (h := .stEp) (k := ?_)
      | refine TL.u (h := .stEpA) (k := ?_)
      | refine TL.q (h := .loadA) (k := ?_)
      | refine TL.q (h := .loadEpA) (k := ?_)
      | (refine TL.e (h := .bs) (k := ?_); rintro _ _ ⟨_, rfl, rfl⟩)
      | refine TL.q (h := .move) (k := ?_)
      | refine TL.q (h := .eqNil) (k := ?_)
      | (refine TL.callF (h := hca) (k := ?_); rintro _ _ ⟨rfl, rfl⟩)
      | refine TL.q (h := .pickT) (k := ?_)
      | refine TL.q (h := .pickF) (k := ?_)
      | refine TL.q (h := .and) (k := ?_)
      | refine TL.q (h := .add) (k := ?_)
      | refine TL.q (h := .catS) (k := ?_)
      | (refine TL.callF (h := hwa) (k := ?_); rintro _ _ ⟨rfl, wv1, rfl⟩)
      | (refine TL.callF (h := book_Within _ _ _ (by omega) (by first | assumption | rfl | omega | (simp at *; omega))) (k := ?_); rintro _ _ ⟨rfl, rfl⟩)
      | refine TL.q (h := .lenR) (k := ?_)
      | refine TL.q (h := .lenS) (k := ?_)
      | refine TL.q (h := .indexR) (k := ?_)
      | refine TL.q (h := .fieldAddr) (k := ?_)
      | refine TL.q (h := .fieldEp) (k := ?_)
      | refine TL.q (h := .load) (k := ?_)
      | refine TL.q (h := .loadEp) (k := ?_)
      | (refine TL.callF (h := hrc) (k := ?_); rintro _ _ ⟨rfl, rfl⟩)
      | (refine TL.callF (h := hwt) (k := ?_); rintro _ _ ⟨rfl, rfl⟩)
      | (refine TL.callF (h := agent_Waits _ st' _ _ _ _) (k := ?_); rintro _ _ ⟨rfl, rfl⟩)
      | refine TL.q (h := .sub) (k := ?_)
      | (refine TL.callF (h := hkn) (k := ?_); rintro _ _ ⟨rfl, rfl⟩)
      | refine TL.q (h := .not) (k := ?_)
      | (refine TL.callF (h := known22) (k := ?_); rintro _ _ ⟨rfl, rfl⟩)
      | refine TL.q (h := .pickB) (k := ?_)
      | refine TL.q (h := .binI) (k := ?_)
      | refine TL.q (h := .binS) (k := ?_))
    (first | refine RetQ.retI (L := []) (ResIs.r1 Try.results11 (RV.tmp)) (by (repeat (first | exact Picks.nil | (apply Picks.cons; (repeat (first | exact Pick.here | apply Pick.there)))))) ?_ | refine RetQ.norI (L := []) (ResIs.r1 Try.results11 (RV.tmp)) (by (repeat (first | exact Picks.nil | (apply Picks.cons; (repeat (first | exact Pick.here | apply Pick.there)))))) ?_)
    exact ⟨rfl, rfl⟩
end Go.Proofs.Ytpbomaelkpjbbaa

