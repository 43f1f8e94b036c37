import Derived.Test.YtpbomaelkpjbbaaC5
namespace Go.Proofs.Ytpbomaelkpjbbaa
open Go.Fw
attribute [local irreducible] T TL TG Thn Blk Rnd RndI RetQ OpV OpE OpU OpK Ctr row cel ep
structure MAgent.ok (st : MAgent) : Prop where
  now0 : 0 ≤ st.now ∧ st.now ≤ 1000000000000
  beat0 : st.beat.ok st.now
  fetch0 : st.fetch.ok st.now
  wants0 : st.wants.length ≤ 1000
  srvl : st.server < st.servers.length
  six : st.servers.length ≤ 100
  tag0 : 0 ≤ st.ask.tag ∧ st.ask.tag ≤ st.now
  asked0 : 0 ≤ st.asked ∧ st.asked ≤ st.now
theorem MAgent.ok.srv {st : MAgent} (h : st.ok) : ∃ x, st.servers[st.server]? = some x := ⟨_, List.getElem?_eq_getElem h.srvl⟩
theorem wanted_ok {st : MAgent} (h : st.ok) : st.wanted.2.ok := by
  obtain ⟨h1, h2, h3, h4, h5, h6, h7, h8⟩ := h
  unfold MAgent.wanted
  cases hw : st.wants with
  | nil => exact ⟨h1, h2, h3, h4, h5, h6, h7, h8⟩
  | cons w ws =>
    rw [hw] at h4
    simp only [List.length_cons] at h4
    have h4' : ws.length ≤ 1000 := by omega
    simp only
    split
    · exact ⟨h1, h2, h3, h4', h5, h6, h7, h8⟩
    · split
      · exact ⟨h1, h2, h3, h4', h5, h6, h7, h8⟩
      · exact ⟨h1, h2, h3, h4', h5, h6, h7, h8⟩
theorem next_ok {st : MAgent} (h : st.ok) : st.next.2.ok := by
  unfold MAgent.next
  split
  · exact wanted_ok h
  · repeat' split
    all_goals exact h
theorem turn_ok {st : MAgent} (h : st.ok) : st.turn.ok := by
  obtain ⟨h1, h2, h3, h4, h5, h6, h7, h8⟩ := h
  exact ⟨h1, h2, h3, h4, Nat.mod_lt _ (by omega), h6, h7, h8⟩
def MAgent.inc (st : MAgent) : MAgent := { st with now := st.now + 1 }
def MAgent.pre (st : MAgent) : MAgent := if st.waits = true ∧ st.now + 1 - st.asked ≥ 8 then st.inc.turn else st.inc
def MAgent.to (st : MAgent) : Int := (st.servers[st.server]?).getD 0
/-- One tick: what is sent, and to whom. -/
def MAgent.tick1 (st : MAgent) : Option (MMsg × Int) × MAgent :=
  if st.pre.waits = true then (none, st.pre)
  else match st.pre.next.1 with
    | none => (none, st.pre.next.2)
    | some m => (some ((st.pre.next.2.send m).1, st.pre.next.2.to), (st.pre.next.2.send m).2)
def MAgent.ticks (st : MAgent) : Nat → List (MMsg × Int) × MAgent
  | 0 => ([], st)
  | k + 1 => ((st.ticks k).1 ++ (st.ticks k).2.tick1.1.toList, (st.ticks k).2.tick1.2)
theorem inc_ok {st : MAgent} (h : st.ok) (hn : st.now + 1 ≤ 1000000000000) : st.inc.ok := by
  obtain ⟨h1, h2, h3, h4, h5, h6, h7, h8⟩ := h
  obtain ⟨a1, a2⟩ := h2
  obtain ⟨b1, b2⟩ := h3
  refine ⟨⟨?_, ?_⟩, ⟨?_, ?_⟩, ⟨?_, ?_⟩, h4, h5, h6, ⟨?_, ?_⟩, ⟨?_, ?_⟩⟩ <;> simp only [MAgent.inc] <;> omega
theorem wanted_rest (st : MAgent) : st.wanted.2.now = st.now ∧ st.wanted.2.ask = st.ask ∧ st.wanted.2.servers = st.servers ∧ st.wanted.2.server = st.server := by
  unfold MAgent.wanted
  cases st.wants with
  | nil => exact ⟨rfl, rfl, rfl, rfl⟩
  | cons w ws =>
    simp only
    repeat' split
    all_goals exact ⟨rfl, rfl, rfl, rfl⟩
theorem next_rest (st : MAgent) : st.next.2.now = st.now ∧ st.next.2.ask = st.ask ∧ st.next.2.servers = st.servers ∧ st.next.2.server = st.server := by
  unfold MAgent.next
  split
  · exact wanted_rest st
  · repeat' split
    all_goals exact ⟨rfl, rfl, rfl, rfl⟩
theorem send_rest (st : MAgent) (m : MMsg) : (st.send m).2.now = st.now ∧ (st.send m).2.ask.tag = st.ask.tag + 1 ∧ (st.send m).2.servers = st.servers ∧ (st.send m).2.server = st.server ∧ (st.send m).2.wants = st.wants ∧ (st.send m).2.asked = st.now
    ∧ ((st.send m).2.beat = st.beat ∨ (st.send m).2.beat = ⟨true, st.now⟩) ∧ ((st.send m).2.fetch = st.fetch ∨ (st.send m).2.fetch = ⟨true, st.now⟩) := by
  unfold MAgent.send
  cases m.op == 5 <;> cases (m.op == 1 || m.op == 2) <;> simp [MAgent.s5, MAgent.s1, MAgent.s0, MMsg.asks, MMsg.keyed]
theorem send_ok {st : MAgent} (m : MMsg) (h : st.ok) (ht : st.ask.tag + 1 ≤ st.now) : (st.send m).2.ok := by
  obtain ⟨h1, h2, h3, h4, h5, h6, h7, h8⟩ := h
  obtain ⟨r1, r2, r3, r4, r5, r6, r7, r8⟩ := send_rest st m
  refine ⟨by rw [r1]; exact h1, ?_, ?_, by rw [r5]; exact h4, by rw [r3, r4]; exact h5, by rw [r3]; exact h6, by rw [r1, r2]; omega, by rw [r1, r6]; omega⟩
  · rw [r1]
    rcases r7 with r | r <;> rw [r]
    · exact h2
    · exact ⟨h1.1, Int.le_refl _⟩
  · rw [r1]
    rcases r8 with r | r <;> rw [r]
    · exact h3
    · exact ⟨h1.1, Int.le_refl _⟩
theorem pre_rest (st : MAgent) : st.pre.now = st.now + 1 ∧ st.pre.ask = st.ask ∧ st.pre.servers = st.servers := by
  unfold MAgent.pre
  split <;> exact ⟨rfl, rfl, rfl⟩
theorem pre_ok {st : MAgent} (h : st.ok) (hn : st.now + 1 ≤ 1000000000000) : st.pre.ok := by
  unfold MAgent.pre
  split
  · exact turn_ok (inc_ok h hn)
  · exact inc_ok h hn
theorem tick1_ok {st : MAgent} (h : st.ok) (hn : st.now + 1 ≤ 1000000000000) : st.tick1.2.ok ∧ st.tick1.2.now = st.now + 1 := by
  have hp := pre_ok h hn
  obtain ⟨p1, p2, p3⟩ := pre_rest st
  obtain ⟨n1, n2, n3, n4⟩ := next_rest st.pre
  have hnx := next_ok hp
  unfold MAgent.tick1
  split
  · exact ⟨hp, p1⟩
  · cases st.pre.next.1 with
    | none => exact ⟨hnx, by rw [n1, p1]⟩
    | some m =>
      refine ⟨send_ok m hnx ?_, ?_⟩
      · rw [n1, n2, p1, p2]
        have := h.tag0
        omega
      · have := (send_rest st.pre.next.2 m).1
        simp only
        rw [this, n1, p1]
theorem ticks_ok {st : MAgent} (h : st.ok) : ∀ k : Nat, st.now + k ≤ 1000000000000 → (st.ticks k).2.ok ∧ (st.ticks k).2.now = st.now + k := by
  intro k
  induction k with
  | zero => intro _; exact ⟨h, by simp [MAgent.ticks]⟩
  | succ k ih =>
    intro hk
    obtain ⟨h1, h2⟩ := ih (by omega)
    obtain ⟨h3, h4⟩ := tick1_ok h1 (by omega)
    exact ⟨h3, by simp only [MAgent.ticks]; rw [h4, h2]; omega⟩
theorem ticks_len (st : MAgent) : ∀ k : Nat, (st.ticks k).1.length ≤ k := by
  intro k
  induction k with
  | zero => simp [MAgent.ticks]
  | succ k ih =>
    simp only [MAgent.ticks, List.length_append]
    have : (st.ticks k).2.tick1.1.toList.length ≤ 1 := by cases (st.ticks k).2.tick1.1 <;> simp
    omega
theorem tickW {s : MAgent} (h : s.waits = true) (hd : ¬ s.now + 1 - s.asked ≥ 8) : s.tick1 = (none, s.inc) := by
  have hp : s.pre = s.inc := if_neg fun h => hd h.2
  simp only [MAgent.tick1, hp]
  rw [if_pos (by exact h)]
theorem preT {s : MAgent} (h : s.waits = true) (hd : s.now + 1 - s.asked ≥ 8) : s.pre = s.inc.turn := if_pos ⟨h, hd⟩
theorem preF {s : MAgent} (h : s.waits = false) : s.pre = s.inc := if_neg fun h' => by rw [h] at h'; cases h'.1
theorem tickN {s p : MAgent} (hp : s.pre = p) (hw : p.waits = false) (hn : p.next.1 = none) : s.tick1 = (none, p.next.2) := by
  simp only [MAgent.tick1, hp, hw, hn]; rfl
theorem tickS {s p : MAgent} {m : MMsg} {x : Int} (hp : s.pre = p) (hw : p.waits = false) (hn : p.next.1 = some m) (hx : p.next.2.servers[p.next.2.server]? = some x) : s.tick1 = (some ((p.next.2.send m).1, x), (p.next.2.send m).2) := by
  simp only [MAgent.tick1, hp, hw, hn, MAgent.to, hx]; rfl
def sentC (p : MMsg × Int) : List Value := p.1.S p.2
set_option maxHeartbeats 4000000 in
theorem agent_Tick (b : Nat) (st : MAgent) (sv : Sl) (cb : Nat) (wv : Sl) (m' : Bool) (n : Int) (K : Nat) (hK : (K : Int) = if 0 < (if 1024 < n then 1024 else n) then (if 1024 < n then 1024 else n) else 0)
    (h0 : st.ok) (hN : st.now + K ≤ 1000000000000) : Ctr Try.prog 51 #[.pointer (some ⟨b, 0, none⟩), .int .i64 n] (agL b st sv cb wv m')
      fun v L => ∃ ov wv' : Sl, v = ov.v ∧ L = agL b (st.ticks K).2 sv cb wv' m' ++ [row true 94 14 ov.v ((st.ticks K).1.map sentC)] := by
  simp only [agL, agC]
  have hK1024 : K ≤ 1024 := by split at hK <;> split at hK <;> omega
  refine Ctr.of (n := 56) (args := [_, _]) Try.func51 rfl rfl rfl fun F => ?_
  simp only [List.zipIdx_cons, List.zipIdx_nil, List.map_cons, List.map_nil, Nat.zero_add, Nat.reduceAdd, List.cons_append, List.nil_append]
  refine T.parts (add_nil true 94 14) ?_
  repeat (first
    | with_reducible apply T.seq
    | with_reducible apply T.region
    | with_reducible apply TL.nil
    | with_reducible apply Thn.normal
    | with_reducible apply Thn.ret
    | with_reducible apply Thn.exit
    | with_reducible apply Blk.normal
    | with_reducible apply Blk.ret
    | ((with_reducible refine Blk.exitE ?_ ?_); · rfl)
    | ((with_reducible refine Blk.exitN ?_ ?_); · rfl)
    | with_reducible apply Rnd.ret
    | with_reducible apply Rnd.exit
    | with_reducible apply RndI.ret
    | with_reducible apply RndI.exit
    | with_reducible apply ThnI.ret
    | with_reducible apply ThnI.exit
    | with_reducible apply T.skip
    | with_reducible apply T.block
    | with_reducible apply T.ret
    | with_reducible apply T.exit
    | refine T.condT (h := ?_)
    | refine T.condF (h := ?_)
    | refine TL.pass (k := ?_)
    | refine TL.passN (k := ?_)
    | refine TL.take (k := ?_)
    | refine TL.q (h := .assign) (k := ?_)
    | refine TL.q (h := .move) (k := ?_)
    | refine TL.q (h := .min2) (k := ?_)
    | refine TL.q (h := .max2) (k := ?_)
    | refine TL.q (h := .nilCheck) (k := ?_)
    | refine TL.q (h := .fieldAddr) (k := ?_)
    | refine TL.q (h := .fieldEp) (k := ?_)
    | refine TL.q (h := .load) (k := ?_)
    | refine TL.q (h := .loadEp) (k := ?_)
    | refine TL.q (h := .add) (k := ?_)
    | refine TL.q (h := .catS) (k := ?_)
    | refine TL.u (h := .st) (k := ?_)
    | refine TL.u (h := .stA) (k := ?_)
    | refine TL.u (h := .stEp) (k := ?_)
    | refine TL.u (h := .stEpA) (k := ?_)
    | refine TL.q (h := .extract) (k := ?_)
    | (refine TL.e (h := .al) (k := ?_); rintro _ _ ⟨_, rfl, rfl⟩)
    | refine TL.q (h := .loadA) (k := ?_)
    | refine TL.q (h := .loadEpA) (k := ?_)
    | (refine TL.e (h := .bs) (k := ?_); rintro _ _ ⟨_, rfl, rfl⟩)
    | (refine TL.e (h := .app) (k := ?_); rintro _ _ ⟨_, rfl, rfl⟩)
    | (refine TL.e (h := .appS) (k := ?_); rintro _ _ ⟨_, rfl, rfl⟩)
    | refine TL.q (h := .binI) (k := ?_)
    | refine TL.q (h := .binS) (k := ?_))
  refine T.say 10 (.int .i64 (K : Int)) (by rw [hK]; (simp only [St.ev, slk, Nat.reduceBEq, cond_true, cond_false]; first | done | rfl)) ?_
  refine T.loopI (fun q l A => ∃ (i : Nat) (os : List (MMsg × Int)) (s : MAgent) (wv ov : Sl) (css : List (List Value)), q = K - i ∧ i ≤ K ∧ st.ticks i = (os, s) ∧ css = os.map sentC ∧
    l = [(11, .int .i64 i), (10, .int .i64 K), (5, ov.v), (0, .pointer (some ⟨b, 0, none⟩)), (4, .slice none 0 0)] ∧ A = agL b s sv cb wv m' ++ [row true 94 14 ov.v css, F]) ⟨0, [], st, wv, Sl.nil, [], rfl, by omega, rfl, rfl, rfl, rfl⟩ (by (repeat (first | exact AllIs.nil | refine AllIs.cons (by (simp only [St.ev, slk, Nat.reduceBEq, cond_true, cond_false]; first | done | rfl)) ?_))) (by (repeat (first | exact Picks.nil | (apply Picks.cons; (repeat (first | exact Pick.here | apply Pick.there)))))) ?_
  rintro q l A j ⟨i, os, s, wv, ov, css, rfl, hi, hs, hcss, rfl, rfl⟩
  simp only [agL, agC, List.cons_append, List.nil_append]
  have ok : s.ok := by have h := (ticks_ok h0 i (by omega)).1; rw [hs] at h; exact h
  have hol : css.length ≤ 1024 := by rw [hcss]; have h := ticks_len st i; rw [hs] at h; rw [List.length_map]; simp only at h; omega
  have hnow : s.now = st.now + i := by have h := (ticks_ok h0 i (by omega)).2; rw [hs] at h; exact h
  obtain ⟨hn1, hn2⟩ := ok.now0
  obtain ⟨ha1, ha2⟩ := ok.asked0
  repeat (first
    | with_reducible apply T.seq
    | with_reducible apply T.region
    | with_reducible apply TL.nil
    | with_reducible apply Thn.normal
    | with_reducible apply Thn.ret
    | with_reducible apply Thn.exit
    | with_reducible apply Blk.normal
    | with_reducible apply Blk.ret
    | ((with_reducible refine Blk.exitE ?_ ?_); · rfl)
    | ((with_reducible refine Blk.exitN ?_ ?_); · rfl)
    | with_reducible apply Rnd.ret
    | with_reducible apply Rnd.exit
    | with_reducible apply RndI.ret
    | with_reducible apply RndI.exit
    | with_reducible apply ThnI.ret
    | with_reducible apply ThnI.exit
    | with_reducible apply T.skip
    | with_reducible apply T.block
    | with_reducible apply T.ret
    | with_reducible apply T.exit
    | refine T.condT (h := ?_)
    | refine T.condF (h := ?_)
    | refine TL.pass (k := ?_)
    | refine TL.passN (k := ?_)
    | refine TL.take (k := ?_)
    | refine TL.q (h := .assign) (k := ?_)
    | refine TL.q (h := .move) (k := ?_)
    | refine TL.q (h := .min2) (k := ?_)
    | refine TL.q (h := .max2) (k := ?_)
    | refine TL.q (h := .nilCheck) (k := ?_)
    | refine TL.q (h := .fieldAddr) (k := ?_)
    | refine TL.q (h := .fieldEp) (k := ?_)
    | refine TL.q (h := .load) (k := ?_)
    | refine TL.q (h := .loadEp) (k := ?_)
    | refine TL.q (h := .add) (k := ?_)
    | refine TL.q (h := .catS) (k := ?_)
    | refine TL.u (h := .st) (k := ?_)
    | refine TL.u (h := .stA) (k := ?_)
    | refine TL.u (h := .stEp) (k := ?_)
    | refine TL.u (h := .stEpA) (k := ?_)
    | refine TL.q (h := .extract) (k := ?_)
    | (refine TL.e (h := .al) (k := ?_); rintro _ _ ⟨_, rfl, rfl⟩)
    | refine TL.q (h := .loadA) (k := ?_)
    | refine TL.q (h := .loadEpA) (k := ?_)
    | (refine TL.e (h := .bs) (k := ?_); rintro _ _ ⟨_, rfl, rfl⟩)
    | (refine TL.e (h := .app) (k := ?_); rintro _ _ ⟨_, rfl, rfl⟩)
    | (refine TL.e (h := .appS) (k := ?_); rintro _ _ ⟨_, rfl, rfl⟩)
    | refine TL.q (h := .binI) (k := ?_)
    | refine TL.q (h := .binS) (k := ?_))
  refine T.condD (ht := fun hlt => ?_) (hf := fun hlt => ?_)
  · have hlt' : i < K := by omega
    have oki := inc_ok ok (by omega)
    repeat (first
      | with_reducible apply T.seq
      | with_reducible apply T.region
      | with_reducible apply TL.nil
      | with_reducible apply Thn.normal
      | with_reducible apply Thn.ret
      | with_reducible apply Thn.exit
      | with_reducible apply Blk.normal
      | with_reducible apply Blk.ret
      | ((with_reducible refine Blk.exitE ?_ ?_); · rfl)
      | ((with_reducible refine Blk.exitN ?_ ?_); · rfl)
      | with_reducible apply Rnd.ret
      | with_reducible apply Rnd.exit
      | with_reducible apply RndI.ret
      | with_reducible apply RndI.exit
      | with_reducible apply ThnI.ret
      | with_reducible apply ThnI.exit
      | with_reducible apply T.skip
      | with_reducible apply T.block
      | with_reducible apply T.ret
      | with_reducible apply T.exit
      | refine T.condT (h := ?_)
      | refine T.condF (h := ?_)
      | refine TL.pass (k := ?_)
      | refine TL.passN (k := ?_)
      | refine TL.take (k := ?_)
      | refine TL.q (h := .assign) (k := ?_)
      | refine TL.q (h := .move) (k := ?_)
      | refine TL.q (h := .min2) (k := ?_)
      | refine TL.q (h := .max2) (k := ?_)
      | refine TL.q (h := .nilCheck) (k := ?_)
      | refine TL.q (h := .fieldAddr) (k := ?_)
      | refine TL.q (h := .fieldEp) (k := ?_)
      | refine TL.q (h := .load) (k := ?_)
      | refine TL.q (h := .loadEp) (k := ?_)
      | refine TL.q (h := .add) (k := ?_)
      | refine TL.q (h := .catS) (k := ?_)
      | refine TL.u (h := .st) (k := ?_)
      | refine TL.u (h := .stA) (k := ?_)
      | refine TL.u (h := .stEp) (k := ?_)
      | refine TL.u (h := .stEpA) (k := ?_)
      | refine TL.q (h := .extract) (k := ?_)
      | (refine TL.e (h := .al) (k := ?_); rintro _ _ ⟨_, rfl, rfl⟩)
      | refine TL.q (h := .loadA) (k := ?_)
      | refine TL.q (h := .loadEpA) (k := ?_)
      | (refine TL.e (h := .bs) (k := ?_); rintro _ _ ⟨_, rfl, rfl⟩)
      | (refine TL.e (h := .app) (k := ?_); rintro _ _ ⟨_, rfl, rfl⟩)
      | (refine TL.e (h := .appS) (k := ?_); rintro _ _ ⟨_, rfl, rfl⟩)
      | refine TL.q (h := .binI) (k := ?_)
      | refine TL.q (h := .binS) (k := ?_))
    all_goals refine TG.start (i := 5) mixed rfl ?_
    all_goals (first
      | refine TG.q0 0 (ho := rfl) (hv := .yes (h := .move)) (k := ?_)
      | refine TG.lv 0 (ho := rfl) (hv := .move) (k := ?_))
    all_goals (first
      | refine TG.q0 1 (ho := rfl) (hv := .yes (h := .nilCheck)) (k := ?_)
      | refine TG.lv 1 (ho := rfl) (hv := .nilCheck) (k := ?_))
    all_goals (first
      | refine TG.q0 2 (ho := rfl) (hv := .yes (h := .fieldAddr)) (k := ?_)
      | refine TG.qFieldEp 2 (ho := rfl) (h := ?_)
      | refine TG.lv 2 (ho := rfl) (hv := .fieldAddr) (k := ?_)
      | refine TG.lv 2 (ho := rfl) (hv := .fieldEp) (k := ?_))
    all_goals (first
      | refine TG.qLoad 3 (ho := rfl) (k := ?_)
      | refine TG.qLoadEp 3 (ho := rfl) (h := ?_)
      | refine TG.lv 3 (ho := rfl) (hv := .load) (k := ?_)
      | refine TG.lv 3 (ho := rfl) (hv := .loadEp) (k := ?_))
    all_goals (first
      | refine TG.q0 4 (ho := rfl) (hv := .yes (h := .move)) (k := ?_)
      | refine TG.lv 4 (ho := rfl) (hv := .move) (k := ?_))
    all_goals try (first | refine TG.litT 24 (k := ?_) | refine TG.litF 24 (k := ?_) | refine TG.lit 24 (fun _ => ?_) (fun _ => ?_))
    all_goals (first
      | refine TG.q0 5 (ho := rfl) (hv := .no) (k := ?_)
      | refine TG.q0 5 (ho := rfl) (hv := .yes (h := .move)) (k := ?_)
      | refine TG.lv 5 (ho := rfl) (hv := .move) (k := ?_))
    all_goals (first
      | refine TG.q0 6 (ho := rfl) (hv := .no) (k := ?_)
      | refine TG.q0 6 (ho := rfl) (hv := .yes (h := .nilCheck)) (k := ?_)
      | refine TG.lv 6 (ho := rfl) (hv := .nilCheck) (k := ?_))
    all_goals (first
      | refine TG.q0 7 (ho := rfl) (hv := .no) (k := ?_)
      | refine TG.q0 7 (ho := rfl) (hv := .yes (h := .fieldAddr)) (k := ?_)
      | refine TG.qFieldEp 7 (ho := rfl) (h := ?_)
      | refine TG.lv 7 (ho := rfl) (hv := .fieldAddr) (k := ?_)
      | refine TG.lv 7 (ho := rfl) (hv := .fieldEp) (k := ?_))
    all_goals (first
      | refine TG.q0 8 (ho := rfl) (hv := .no) (k := ?_)
      | refine TG.qLoad 8 (ho := rfl) (k := ?_)
      | refine TG.qLoadEp 8 (ho := rfl) (h := ?_)
      | refine TG.lv 8 (ho := rfl) (hv := .load) (k := ?_)
      | refine TG.lv 8 (ho := rfl) (hv := .loadEp) (k := ?_))
    all_goals (first
      | refine TG.q0 9 (ho := rfl) (hv := .no) (k := ?_)
      | refine TG.q0 9 (ho := rfl) (hv := .yes (h := .move)) (k := ?_)
      | refine TG.lv 9 (ho := rfl) (hv := .move) (k := ?_))
    all_goals (first
      | refine TG.q0 10 (ho := rfl) (hv := .no) (k := ?_)
      | refine TG.q0 10 (ho := rfl) (hv := .yes (h := .nilCheck)) (k := ?_)
      | refine TG.lv 10 (ho := rfl) (hv := .nilCheck) (k := ?_))
    all_goals (first
      | refine TG.q0 11 (ho := rfl) (hv := .no) (k := ?_)
      | refine TG.q0 11 (ho := rfl) (hv := .yes (h := .fieldAddr)) (k := ?_)
      | refine TG.qFieldEp 11 (ho := rfl) (h := ?_)
      | refine TG.lv 11 (ho := rfl) (hv := .fieldAddr) (k := ?_)
      | refine TG.lv 11 (ho := rfl) (hv := .fieldEp) (k := ?_))
    all_goals (first
      | refine TG.q0 12 (ho := rfl) (hv := .no) (k := ?_)
      | refine TG.qLoad 12 (ho := rfl) (k := ?_)
      | refine TG.qLoadEp 12 (ho := rfl) (h := ?_)
      | refine TG.lv 12 (ho := rfl) (hv := .load) (k := ?_)
      | refine TG.lv 12 (ho := rfl) (hv := .loadEp) (k := ?_))
    all_goals (first
      | refine TG.q0 13 (ho := rfl) (hv := .no) (k := ?_)
      | refine TG.q0 13 (ho := rfl) (hv := .yes (h := .sub)) (k := ?_)
      | refine TG.q0 13 (ho := rfl) (hv := .yes (h := .binI)) (k := ?_)
      | refine TG.lv 13 (ho := rfl) (hv := .sub) (k := ?_)
      | refine TG.lv 13 (ho := rfl) (hv := .binI) (k := ?_))
    all_goals (first
      | refine TG.q0 14 (ho := rfl) (hv := .no) (k := ?_)
      | refine TG.q0 14 (ho := rfl) (hv := .yes (h := .binI)) (k := ?_)
      | refine TG.q0 14 (ho := rfl) (hv := .yes (h := .binS)) (k := ?_)
      | refine TG.lv 14 (ho := rfl) (hv := .binI) (k := ?_)
      | refine TG.lv 14 (ho := rfl) (hv := .binS) (k := ?_))
    all_goals (first
      | refine TG.q0 15 (ho := rfl) (hv := .yes (h := .pickT)) (k := ?_)
      | refine TG.q0 15 (ho := rfl) (hv := .yes (h := .pickF)) (k := ?_)
      | refine TG.q0 15 (ho := rfl) (hv := .yes (h := .pickB)) (k := ?_)
      | refine TG.lv 15 (ho := rfl) (hv := .pickT) (k := ?_)
      | refine TG.lv 15 (ho := rfl) (hv := .pickF) (k := ?_)
      | refine TG.lv 15 (ho := rfl) (hv := .pickB) (k := ?_))
    all_goals apply TG.fin rfl
    · rename_i hw
      repeat (first
        | with_reducible apply T.seq
        | with_reducible apply T.region
        | with_reducible apply TL.nil
        | with_reducible apply Thn.normal
        | with_reducible apply Thn.ret
        | with_reducible apply Thn.exit
        | with_reducible apply Blk.normal
        | with_reducible apply Blk.ret
        | ((with_reducible refine Blk.exitE ?_ ?_); · rfl)
        | ((with_reducible refine Blk.exitN ?_ ?_); · rfl)
        | with_reducible apply Rnd.ret
        | with_reducible apply Rnd.exit
        | with_reducible apply RndI.ret
        | with_reducible apply RndI.exit
        | with_reducible apply ThnI.ret
        | with_reducible apply ThnI.exit
        | with_reducible apply T.skip
        | with_reducible apply T.block
        | with_reducible apply T.ret
        | with_reducible apply T.exit
        | refine T.condT (h := ?_)
        | refine T.condF (h := ?_)
        | refine TL.pass (k := ?_)
        | refine TL.passN (k := ?_)
        | refine TL.take (k := ?_)
        | refine TL.q (h := .assign) (k := ?_)
        | refine TL.q (h := .move) (k := ?_)
        | refine TL.q (h := .min2) (k := ?_)
        | refine TL.q (h := .max2) (k := ?_)
        | refine TL.q (h := .nilCheck) (k := ?_)
        | refine TL.q (h := .fieldAddr) (k := ?_)
        | refine TL.q (h := .fieldEp) (k := ?_)
        | refine TL.q (h := .load) (k := ?_)
        | refine TL.q (h := .loadEp) (k := ?_)
        | refine TL.q (h := .add) (k := ?_)
        | refine TL.q (h := .catS) (k := ?_)
        | refine TL.u (h := .st) (k := ?_)
        | refine TL.u (h := .stA) (k := ?_)
        | refine TL.u (h := .stEp) (k := ?_)
        | refine TL.u (h := .stEpA) (k := ?_)
        | refine TL.q (h := .extract) (k := ?_)
        | (refine TL.e (h := .al) (k := ?_); rintro _ _ ⟨_, rfl, rfl⟩)
        | refine TL.q (h := .loadA) (k := ?_)
        | refine TL.q (h := .loadEpA) (k := ?_)
        | (refine TL.e (h := .bs) (k := ?_); rintro _ _ ⟨_, rfl, rfl⟩)
        | (refine TL.e (h := .app) (k := ?_); rintro _ _ ⟨_, rfl, rfl⟩)
        | (refine TL.e (h := .appS) (k := ?_); rintro _ _ ⟨_, rfl, rfl⟩)
        | refine TL.q (h := .binI) (k := ?_)
        | refine TL.q (h := .binS) (k := ?_))
      refine T.condD (ht := fun hd => ?_) (hf := fun hd => ?_)
      · skip
        repeat (first
          | with_reducible apply T.seq
          | with_reducible apply T.region
          | with_reducible apply TL.nil
          | with_reducible apply Thn.normal
          | with_reducible apply Thn.ret
          | with_reducible apply Thn.exit
          | with_reducible apply Blk.normal
          | with_reducible apply Blk.ret
          | ((with_reducible refine Blk.exitE ?_ ?_); · rfl)
          | ((with_reducible refine Blk.exitN ?_ ?_); · rfl)
          | with_reducible apply Rnd.ret
          | with_reducible apply Rnd.exit
          | with_reducible apply RndI.ret
          | with_reducible apply RndI.exit
          | with_reducible apply ThnI.ret
          | with_reducible apply ThnI.exit
          | with_reducible apply T.skip
          | with_reducible apply T.block
          | with_reducible apply T.ret
          | with_reducible apply T.exit
          | refine T.condT (h := ?_)
          | refine T.condF (h := ?_)
          | refine TL.pass (k := ?_)
          | refine TL.passN (k := ?_)
          | refine TL.take (k := ?_)
          | refine TL.q (h := .assign) (k := ?_)
          | refine TL.q (h := .move) (k := ?_)
          | refine TL.q (h := .min2) (k := ?_)
          | refine TL.q (h := .max2) (k := ?_)
          | refine TL.q (h := .nilCheck) (k := ?_)
          | refine TL.q (h := .fieldAddr) (k := ?_)
          | refine TL.q (h := .fieldEp) (k := ?_)
          | refine TL.q (h := .load) (k := ?_)
          | refine TL.q (h := .loadEp) (k := ?_)
          | refine TL.q (h := .add) (k := ?_)
          | refine TL.q (h := .catS) (k := ?_)
          | refine TL.u (h := .st) (k := ?_)
          | refine TL.u (h := .stA) (k := ?_)
          | refine TL.u (h := .stEp) (k := ?_)
          | refine TL.u (h := .stEpA) (k := ?_)
          | refine TL.q (h := .extract) (k := ?_)
          | (refine TL.e (h := .al) (k := ?_); rintro _ _ ⟨_, rfl, rfl⟩)
          | refine TL.q (h := .loadA) (k := ?_)
          | refine TL.q (h := .loadEpA) (k := ?_)
          | (refine TL.e (h := .bs) (k := ?_); rintro _ _ ⟨_, rfl, rfl⟩)
          | (refine TL.e (h := .app) (k := ?_); rintro _ _ ⟨_, rfl, rfl⟩)
          | (refine TL.e (h := .appS) (k := ?_); rintro _ _ ⟨_, rfl, rfl⟩)
          | refine TL.q (h := .binI) (k := ?_)
          | refine TL.q (h := .binS) (k := ?_))
        refine TL.callF (h := agent_turn b s.inc sv cb wv m' oki.srvl oki.six) (k := ?_)
        rintro _ _ ⟨rfl, rfl⟩
        simp only [agL, agC]
        repeat (first
          | with_reducible apply T.seq
          | with_reducible apply T.region
          | with_reducible apply TL.nil
          | with_reducible apply Thn.normal
          | with_reducible apply Thn.ret
          | with_reducible apply Thn.exit
          | with_reducible apply Blk.normal
          | with_reducible apply Blk.ret
          | ((with_reducible refine Blk.exitE ?_ ?_); · rfl)
          | ((with_reducible refine Blk.exitN ?_ ?_); · rfl)
          | with_reducible apply Rnd.ret
          | with_reducible apply Rnd.exit
          | with_reducible apply RndI.ret
          | with_reducible apply RndI.exit
          | with_reducible apply ThnI.ret
          | with_reducible apply ThnI.exit
          | with_reducible apply T.skip
          | with_reducible apply T.block
          | with_reducible apply T.ret
          | with_reducible apply T.exit
          | refine T.condT (h := ?_)
          | refine T.condF (h := ?_)
          | refine TL.pass (k := ?_)
          | refine TL.passN (k := ?_)
          | refine TL.take (k := ?_)
          | refine TL.q (h := .assign) (k := ?_)
          | refine TL.q (h := .move) (k := ?_)
          | refine TL.q (h := .min2) (k := ?_)
          | refine TL.q (h := .max2) (k := ?_)
          | refine TL.q (h := .nilCheck) (k := ?_)
          | refine TL.q (h := .fieldAddr) (k := ?_)
          | refine TL.q (h := .fieldEp) (k := ?_)
          | refine TL.q (h := .load) (k := ?_)
          | refine TL.q (h := .loadEp) (k := ?_)
          | refine TL.q (h := .add) (k := ?_)
          | refine TL.q (h := .catS) (k := ?_)
          | refine TL.u (h := .st) (k := ?_)
          | refine TL.u (h := .stA) (k := ?_)
          | refine TL.u (h := .stEp) (k := ?_)
          | refine TL.u (h := .stEpA) (k := ?_)
          | refine TL.q (h := .extract) (k := ?_)
          | (refine TL.e (h := .al) (k := ?_); rintro _ _ ⟨_, rfl, rfl⟩)
          | refine TL.q (h := .loadA) (k := ?_)
          | refine TL.q (h := .loadEpA) (k := ?_)
          | (refine TL.e (h := .bs) (k := ?_); rintro _ _ ⟨_, rfl, rfl⟩)
          | (refine TL.e (h := .app) (k := ?_); rintro _ _ ⟨_, rfl, rfl⟩)
          | (refine TL.e (h := .appS) (k := ?_); rintro _ _ ⟨_, rfl, rfl⟩)
          | refine TL.q (h := .binI) (k := ?_)
          | refine TL.q (h := .binS) (k := ?_))
        refine TL.callF (h := agent_next b s.inc.turn sv cb wv m' (turn_ok oki).now0 (turn_ok oki).beat0 (turn_ok oki).fetch0 (turn_ok oki).wants0) (k := ?_)
        rintro _ _ ⟨rfl, wv2, rfl⟩
        have ok2 := next_ok (turn_ok oki)
        have hx := ok2.srv
        obtain ⟨x, hx⟩ := hx
        cases hn : (MAgent.next s.inc.turn).1 with
        | none =>
          simp only [hn, Option.getD_none, Option.isSome_none, MMsg.V, MMsg.C, agL, agC]
          repeat (first
            | with_reducible apply T.seq
            | with_reducible apply T.region
            | with_reducible apply TL.nil
            | with_reducible apply Thn.normal
            | with_reducible apply Thn.ret
            | with_reducible apply Thn.exit
            | with_reducible apply Blk.normal
            | with_reducible apply Blk.ret
            | ((with_reducible refine Blk.exitE ?_ ?_); · rfl)
            | ((with_reducible refine Blk.exitN ?_ ?_); · rfl)
            | with_reducible apply Rnd.ret
            | with_reducible apply Rnd.exit
            | with_reducible apply RndI.ret
            | with_reducible apply RndI.exit
            | with_reducible apply ThnI.ret
            | with_reducible apply ThnI.exit
            | with_reducible apply T.skip
            | with_reducible apply T.block
            | with_reducible apply T.ret
            | with_reducible apply T.exit
            | refine T.condT (h := ?_)
            | refine T.condF (h := ?_)
            | refine TL.pass (k := ?_)
            | refine TL.passN (k := ?_)
            | refine TL.take (k := ?_)
            | refine TL.q (h := .assign) (k := ?_)
            | refine TL.q (h := .move) (k := ?_)
            | refine TL.q (h := .min2) (k := ?_)
            | refine TL.q (h := .max2) (k := ?_)
            | refine TL.q (h := .nilCheck) (k := ?_)
            | refine TL.q (h := .fieldAddr) (k := ?_)
            | refine TL.q (h := .fieldEp) (k := ?_)
            | refine TL.q (h := .load) (k := ?_)
            | refine TL.q (h := .loadEp) (k := ?_)
            | refine TL.q (h := .add) (k := ?_)
            | refine TL.q (h := .catS) (k := ?_)
            | refine TL.u (h := .st) (k := ?_)
            | refine TL.u (h := .stA) (k := ?_)
            | refine TL.u (h := .stEp) (k := ?_)
            | refine TL.u (h := .stEpA) (k := ?_)
            | refine TL.q (h := .extract) (k := ?_)
            | (refine TL.e (h := .al) (k := ?_); rintro _ _ ⟨_, rfl, rfl⟩)
            | refine TL.q (h := .loadA) (k := ?_)
            | refine TL.q (h := .loadEpA) (k := ?_)
            | (refine TL.e (h := .bs) (k := ?_); rintro _ _ ⟨_, rfl, rfl⟩)
            | (refine TL.e (h := .app) (k := ?_); rintro _ _ ⟨_, rfl, rfl⟩)
            | (refine TL.e (h := .appS) (k := ?_); rintro _ _ ⟨_, rfl, rfl⟩)
            | refine TL.q (h := .binI) (k := ?_)
            | refine TL.q (h := .binS) (k := ?_))
          refine RndI.next (m' := K - (i + 1)) (by omega) ⟨i + 1, os, (MAgent.next s.inc.turn).2, wv2, ov, css, rfl, by omega, by simp only [MAgent.ticks, hs, tickN (preT hw hd) rfl hn, Option.toList, List.append_nil], hcss, rfl, rfl⟩ (by (repeat (first | exact AllIs.nil | refine AllIs.cons (by (simp only [St.ev, slk, Nat.reduceBEq, cond_true, cond_false]; first | done | rfl)) ?_))) (by (repeat (first | exact Picks.nil | (apply Picks.cons; (repeat (first | exact Pick.here | apply Pick.there))))))
        | some m2 =>
          simp only [hn, Option.getD_some, Option.isSome_some, MMsg.V, MMsg.C, agL, agC]
          repeat (first
            | with_reducible apply T.seq
            | with_reducible apply T.region
            | with_reducible apply TL.nil
            | with_reducible apply Thn.normal
            | with_reducible apply Thn.ret
            | with_reducible apply Thn.exit
            | with_reducible apply Blk.normal
            | with_reducible apply Blk.ret
            | ((with_reducible refine Blk.exitE ?_ ?_); · rfl)
            | ((with_reducible refine Blk.exitN ?_ ?_); · rfl)
            | with_reducible apply Rnd.ret
            | with_reducible apply Rnd.exit
            | with_reducible apply RndI.ret
            | with_reducible apply RndI.exit
            | with_reducible apply ThnI.ret
            | with_reducible apply ThnI.exit
            | with_reducible apply T.skip
            | with_reducible apply T.block
            | with_reducible apply T.ret
            | with_reducible apply T.exit
            | refine T.condT (h := ?_)
            | refine T.condF (h := ?_)
            | refine TL.pass (k := ?_)
            | refine TL.passN (k := ?_)
            | refine TL.take (k := ?_)
            | refine TL.q (h := .assign) (k := ?_)
            | refine TL.q (h := .move) (k := ?_)
            | refine TL.q (h := .min2) (k := ?_)
            | refine TL.q (h := .max2) (k := ?_)
            | refine TL.q (h := .nilCheck) (k := ?_)
            | refine TL.q (h := .fieldAddr) (k := ?_)
            | refine TL.q (h := .fieldEp) (k := ?_)
            | refine TL.q (h := .load) (k := ?_)
            | refine TL.q (h := .loadEp) (k := ?_)
            | refine TL.q (h := .add) (k := ?_)
            | refine TL.q (h := .catS) (k := ?_)
            | refine TL.u (h := .st) (k := ?_)
            | refine TL.u (h := .stA) (k := ?_)
            | refine TL.u (h := .stEp) (k := ?_)
            | refine TL.u (h := .stEpA) (k := ?_)
            | refine TL.q (h := .extract) (k := ?_)
            | (refine TL.e (h := .al) (k := ?_); rintro _ _ ⟨_, rfl, rfl⟩)
            | refine TL.q (h := .loadA) (k := ?_)
            | refine TL.q (h := .loadEpA) (k := ?_)
            | (refine TL.e (h := .bs) (k := ?_); rintro _ _ ⟨_, rfl, rfl⟩)
            | (refine TL.e (h := .app) (k := ?_); rintro _ _ ⟨_, rfl, rfl⟩)
            | (refine TL.e (h := .appS) (k := ?_); rintro _ _ ⟨_, rfl, rfl⟩)
            | refine TL.q (h := .binI) (k := ?_)
            | refine TL.q (h := .binS) (k := ?_))
          refine TL.callF (h := agent_send b (MAgent.next s.inc.turn).2 sv cb wv2 m' m2 x hx ⟨ok2.tag0.1, by have := ok2.tag0.2; have := ok2.now0.2; omega⟩) (k := ?_)
          rintro _ _ ⟨rfl, rfl⟩
          simp only [MMsg.S, agL, agC]
          repeat (first
            | with_reducible apply T.seq
            | with_reducible apply T.region
            | with_reducible apply TL.nil
            | with_reducible apply Thn.normal
            | with_reducible apply Thn.ret
            | with_reducible apply Thn.exit
            | with_reducible apply Blk.normal
            | with_reducible apply Blk.ret
            | ((with_reducible refine Blk.exitE ?_ ?_); · rfl)
            | ((with_reducible refine Blk.exitN ?_ ?_); · rfl)
            | with_reducible apply Rnd.ret
            | with_reducible apply Rnd.exit
            | with_reducible apply RndI.ret
            | with_reducible apply RndI.exit
            | with_reducible apply ThnI.ret
            | with_reducible apply ThnI.exit
            | with_reducible apply T.skip
            | with_reducible apply T.block
            | with_reducible apply T.ret
            | with_reducible apply T.exit
            | refine T.condT (h := ?_)
            | refine T.condF (h := ?_)
            | refine TL.pass (k := ?_)
            | refine TL.passN (k := ?_)
            | refine TL.take (k := ?_)
            | refine TL.q (h := .assign) (k := ?_)
            | refine TL.q (h := .move) (k := ?_)
            | refine TL.q (h := .min2) (k := ?_)
            | refine TL.q (h := .max2) (k := ?_)
            | refine TL.q (h := .nilCheck) (k := ?_)
            | refine TL.q (h := .fieldAddr) (k := ?_)
            | refine TL.q (h := .fieldEp) (k := ?_)
            | refine TL.q (h := .load) (k := ?_)
            | refine TL.q (h := .loadEp) (k := ?_)
            | refine TL.q (h := .add) (k := ?_)
            | refine TL.q (h := .catS) (k := ?_)
            | refine TL.u (h := .st) (k := ?_)
            | refine TL.u (h := .stA) (k := ?_)
            | refine TL.u (h := .stEp) (k := ?_)
            | refine TL.u (h := .stEpA) (k := ?_)
            | refine TL.q (h := .extract) (k := ?_)
            | (refine TL.e (h := .al) (k := ?_); rintro _ _ ⟨_, rfl, rfl⟩)
            | refine TL.q (h := .loadA) (k := ?_)
            | refine TL.q (h := .loadEpA) (k := ?_)
            | (refine TL.e (h := .bs) (k := ?_); rintro _ _ ⟨_, rfl, rfl⟩)
            | (refine TL.e (h := .app) (k := ?_); rintro _ _ ⟨_, rfl, rfl⟩)
            | (refine TL.e (h := .appS) (k := ?_); rintro _ _ ⟨_, rfl, rfl⟩)
            | refine TL.q (h := .binI) (k := ?_)
            | refine TL.q (h := .binS) (k := ?_))
          rename_i qq q2
          refine RndI.next (m' := K - (i + 1)) (by omega) ⟨i + 1, os ++ [(((MAgent.next s.inc.turn).2.send m2).1, x)], ((MAgent.next s.inc.turn).2.send m2).2, wv2, q2, css ++ [sentC (((MAgent.next s.inc.turn).2.send m2).1, x)], rfl, by omega, by simp only [MAgent.ticks, hs, tickS (preT hw hd) rfl hn hx, Option.toList], by rw [hcss, List.map_append]; rfl, rfl, rfl⟩ (by (repeat (first | exact AllIs.nil | refine AllIs.cons (by (simp only [St.ev, slk, Nat.reduceBEq, cond_true, cond_false]; first | done | rfl)) ?_))) (by (repeat (first | exact Picks.nil | (apply Picks.cons; (repeat (first | exact Pick.here | apply Pick.there))))))
      · skip
        repeat (first
          | with_reducible apply T.seq
          | with_reducible apply T.region
          | with_reducible apply TL.nil
          | with_reducible apply Thn.normal
          | with_reducible apply Thn.ret
          | with_reducible apply Thn.exit
          | with_reducible apply Blk.normal
          | with_reducible apply Blk.ret
          | ((with_reducible refine Blk.exitE ?_ ?_); · rfl)
          | ((with_reducible refine Blk.exitN ?_ ?_); · rfl)
          | with_reducible apply Rnd.ret
          | with_reducible apply Rnd.exit
          | with_reducible apply RndI.ret
          | with_reducible apply RndI.exit
          | with_reducible apply ThnI.ret
          | with_reducible apply ThnI.exit
          | with_reducible apply T.skip
          | with_reducible apply T.block
          | with_reducible apply T.ret
          | with_reducible apply T.exit
          | refine T.condT (h := ?_)
          | refine T.condF (h := ?_)
          | refine TL.pass (k := ?_)
          | refine TL.passN (k := ?_)
          | refine TL.take (k := ?_)
          | refine TL.q (h := .assign) (k := ?_)
          | refine TL.q (h := .move) (k := ?_)
          | refine TL.q (h := .min2) (k := ?_)
          | refine TL.q (h := .max2) (k := ?_)
          | refine TL.q (h := .nilCheck) (k := ?_)
          | refine TL.q (h := .fieldAddr) (k := ?_)
          | refine TL.q (h := .fieldEp) (k := ?_)
          | refine TL.q (h := .load) (k := ?_)
          | refine TL.q (h := .loadEp) (k := ?_)
          | refine TL.q (h := .add) (k := ?_)
          | refine TL.q (h := .catS) (k := ?_)
          | refine TL.u (h := .st) (k := ?_)
          | refine TL.u (h := .stA) (k := ?_)
          | refine TL.u (h := .stEp) (k := ?_)
          | refine TL.u (h := .stEpA) (k := ?_)
          | refine TL.q (h := .extract) (k := ?_)
          | (refine TL.e (h := .al) (k := ?_); rintro _ _ ⟨_, rfl, rfl⟩)
          | refine TL.q (h := .loadA) (k := ?_)
          | refine TL.q (h := .loadEpA) (k := ?_)
          | (refine TL.e (h := .bs) (k := ?_); rintro _ _ ⟨_, rfl, rfl⟩)
          | (refine TL.e (h := .app) (k := ?_); rintro _ _ ⟨_, rfl, rfl⟩)
          | (refine TL.e (h := .appS) (k := ?_); rintro _ _ ⟨_, rfl, rfl⟩)
          | refine TL.q (h := .binI) (k := ?_)
          | refine TL.q (h := .binS) (k := ?_))
        refine T.cT (h := ?_)
        repeat (first
          | with_reducible apply T.seq
          | with_reducible apply T.region
          | with_reducible apply TL.nil
          | with_reducible apply Thn.normal
          | with_reducible apply Thn.ret
          | with_reducible apply Thn.exit
          | with_reducible apply Blk.normal
          | with_reducible apply Blk.ret
          | ((with_reducible refine Blk.exitE ?_ ?_); · rfl)
          | ((with_reducible refine Blk.exitN ?_ ?_); · rfl)
          | with_reducible apply Rnd.ret
          | with_reducible apply Rnd.exit
          | with_reducible apply RndI.ret
          | with_reducible apply RndI.exit
          | with_reducible apply ThnI.ret
          | with_reducible apply ThnI.exit
          | with_reducible apply T.skip
          | with_reducible apply T.block
          | with_reducible apply T.ret
          | with_reducible apply T.exit
          | refine T.condT (h := ?_)
          | refine T.condF (h := ?_)
          | refine TL.pass (k := ?_)
          | refine TL.passN (k := ?_)
          | refine TL.take (k := ?_)
          | refine TL.q (h := .assign) (k := ?_)
          | refine TL.q (h := .move) (k := ?_)
          | refine TL.q (h := .min2) (k := ?_)
          | refine TL.q (h := .max2) (k := ?_)
          | refine TL.q (h := .nilCheck) (k := ?_)
          | refine TL.q (h := .fieldAddr) (k := ?_)
          | refine TL.q (h := .fieldEp) (k := ?_)
          | refine TL.q (h := .load) (k := ?_)
          | refine TL.q (h := .loadEp) (k := ?_)
          | refine TL.q (h := .add) (k := ?_)
          | refine TL.q (h := .catS) (k := ?_)
          | refine TL.u (h := .st) (k := ?_)
          | refine TL.u (h := .stA) (k := ?_)
          | refine TL.u (h := .stEp) (k := ?_)
          | refine TL.u (h := .stEpA) (k := ?_)
          | refine TL.q (h := .extract) (k := ?_)
          | (refine TL.e (h := .al) (k := ?_); rintro _ _ ⟨_, rfl, rfl⟩)
          | refine TL.q (h := .loadA) (k := ?_)
          | refine TL.q (h := .loadEpA) (k := ?_)
          | (refine TL.e (h := .bs) (k := ?_); rintro _ _ ⟨_, rfl, rfl⟩)
          | (refine TL.e (h := .app) (k := ?_); rintro _ _ ⟨_, rfl, rfl⟩)
          | (refine TL.e (h := .appS) (k := ?_); rintro _ _ ⟨_, rfl, rfl⟩)
          | refine TL.q (h := .binI) (k := ?_)
          | refine TL.q (h := .binS) (k := ?_))
        refine RndI.next (m' := K - (i + 1)) (by omega) ⟨i + 1, os, s.inc, wv, ov, css, rfl, by omega, by simp only [MAgent.ticks, hs, tickW hw hd, Option.toList, List.append_nil], hcss, rfl, rfl⟩ (by (repeat (first | exact AllIs.nil | refine AllIs.cons (by (simp only [St.ev, slk, Nat.reduceBEq, cond_true, cond_false]; first | done | rfl)) ?_))) (by (repeat (first | exact Picks.nil | (apply Picks.cons; (repeat (first | exact Pick.here | apply Pick.there))))))
    · rename_i hw
      repeat (first
        | with_reducible apply T.seq
        | with_reducible apply T.region
        | with_reducible apply TL.nil
        | with_reducible apply Thn.normal
        | with_reducible apply Thn.ret
        | with_reducible apply Thn.exit
        | with_reducible apply Blk.normal
        | with_reducible apply Blk.ret
        | ((with_reducible refine Blk.exitE ?_ ?_); · rfl)
        | ((with_reducible refine Blk.exitN ?_ ?_); · rfl)
        | with_reducible apply Rnd.ret
        | with_reducible apply Rnd.exit
        | with_reducible apply RndI.ret
        | with_reducible apply RndI.exit
        | with_reducible apply ThnI.ret
        | with_reducible apply ThnI.exit
        | with_reducible apply T.skip
        | with_reducible apply T.block
        | with_reducible apply T.ret
        | with_reducible apply T.exit
        | refine T.condT (h := ?_)
        | refine T.condF (h := ?_)
        | refine TL.pass (k := ?_)
        | refine TL.passN (k := ?_)
        | refine TL.take (k := ?_)
        | refine TL.q (h := .assign) (k := ?_)
        | refine TL.q (h := .move) (k := ?_)
        | refine TL.q (h := .min2) (k := ?_)
        | refine TL.q (h := .max2) (k := ?_)
        | refine TL.q (h := .nilCheck) (k := ?_)
        | refine TL.q (h := .fieldAddr) (k := ?_)
        | refine TL.q (h := .fieldEp) (k := ?_)
        | refine TL.q (h := .load) (k := ?_)
        | refine TL.q (h := .loadEp) (k := ?_)
        | refine TL.q (h := .add) (k := ?_)
        | refine TL.q (h := .catS) (k := ?_)
        | refine TL.u (h := .st) (k := ?_)
        | refine TL.u (h := .stA) (k := ?_)
        | refine TL.u (h := .stEp) (k := ?_)
        | refine TL.u (h := .stEpA) (k := ?_)
        | refine TL.q (h := .extract) (k := ?_)
        | (refine TL.e (h := .al) (k := ?_); rintro _ _ ⟨_, rfl, rfl⟩)
        | refine TL.q (h := .loadA) (k := ?_)
        | refine TL.q (h := .loadEpA) (k := ?_)
        | (refine TL.e (h := .bs) (k := ?_); rintro _ _ ⟨_, rfl, rfl⟩)
        | (refine TL.e (h := .app) (k := ?_); rintro _ _ ⟨_, rfl, rfl⟩)
        | (refine TL.e (h := .appS) (k := ?_); rintro _ _ ⟨_, rfl, rfl⟩)
        | refine TL.q (h := .binI) (k := ?_)
        | refine TL.q (h := .binS) (k := ?_))
      refine T.cF (h := ?_)
      repeat (first
        | with_reducible apply T.seq
        | with_reducible apply T.region
        | with_reducible apply TL.nil
        | with_reducible apply Thn.normal
        | with_reducible apply Thn.ret
        | with_reducible apply Thn.exit
        | with_reducible apply Blk.normal
        | with_reducible apply Blk.ret
        | ((with_reducible refine Blk.exitE ?_ ?_); · rfl)
        | ((with_reducible refine Blk.exitN ?_ ?_); · rfl)
        | with_reducible apply Rnd.ret
        | with_reducible apply Rnd.exit
        | with_reducible apply RndI.ret
        | with_reducible apply RndI.exit
        | with_reducible apply ThnI.ret
        | with_reducible apply ThnI.exit
        | with_reducible apply T.skip
        | with_reducible apply T.block
        | with_reducible apply T.ret
        | with_reducible apply T.exit
        | refine T.condT (h := ?_)
        | refine T.condF (h := ?_)
        | refine TL.pass (k := ?_)
        | refine TL.passN (k := ?_)
        | refine TL.take (k := ?_)
        | refine TL.q (h := .assign) (k := ?_)
        | refine TL.q (h := .move) (k := ?_)
        | refine TL.q (h := .min2) (k := ?_)
        | refine TL.q (h := .max2) (k := ?_)
        | refine TL.q (h := .nilCheck) (k := ?_)
        | refine TL.q (h := .fieldAddr) (k := ?_)
        | refine TL.q (h := .fieldEp) (k := ?_)
        | refine TL.q (h := .load) (k := ?_)
        | refine TL.q (h := .loadEp) (k := ?_)
        | refine TL.q (h := .add) (k := ?_)
        | refine TL.q (h := .catS) (k := ?_)
        | refine TL.u (h := .st) (k := ?_)
        | refine TL.u (h := .stA) (k := ?_)
        | refine TL.u (h := .stEp) (k := ?_)
        | refine TL.u (h := .stEpA) (k := ?_)
        | refine TL.q (h := .extract) (k := ?_)
        | (refine TL.e (h := .al) (k := ?_); rintro _ _ ⟨_, rfl, rfl⟩)
        | refine TL.q (h := .loadA) (k := ?_)
        | refine TL.q (h := .loadEpA) (k := ?_)
        | (refine TL.e (h := .bs) (k := ?_); rintro _ _ ⟨_, rfl, rfl⟩)
        | (refine TL.e (h := .app) (k := ?_); rintro _ _ ⟨_, rfl, rfl⟩)
        | (refine TL.e (h := .appS) (k := ?_); rintro _ _ ⟨_, rfl, rfl⟩)
        | refine TL.q (h := .binI) (k := ?_)
        | refine TL.q (h := .binS) (k := ?_))
      refine TL.callF (h := agent_next b s.inc sv cb wv m' (oki).now0 (oki).beat0 (oki).fetch0 (oki).wants0) (k := ?_)
      rintro _ _ ⟨rfl, wv2, rfl⟩
      have ok2 := next_ok (oki)
      have hx := ok2.srv
      obtain ⟨x, hx⟩ := hx
      cases hn : (MAgent.next s.inc).1 with
      | none =>
        simp only [hn, Option.getD_none, Option.isSome_none, MMsg.V, MMsg.C, agL, agC]
        repeat (first
          | with_reducible apply T.seq
          | with_reducible apply T.region
          | with_reducible apply TL.nil
          | with_reducible apply Thn.normal
          | with_reducible apply Thn.ret
          | with_reducible apply Thn.exit
          | with_reducible apply Blk.normal
          | with_reducible apply Blk.ret
          | ((with_reducible refine Blk.exitE ?_ ?_); · rfl)
          | ((with_reducible refine Blk.exitN ?_ ?_); · rfl)
          | with_reducible apply Rnd.ret
          | with_reducible apply Rnd.exit
          | with_reducible apply RndI.ret
          | with_reducible apply RndI.exit
          | with_reducible apply ThnI.ret
          | with_reducible apply ThnI.exit
          | with_reducible apply T.skip
          | with_reducible apply T.block
          | with_reducible apply T.ret
          | with_reducible apply T.exit
          | refine T.condT (h := ?_)
          | refine T.condF (h := ?_)
          | refine TL.pass (k := ?_)
          | refine TL.passN (k := ?_)
          | refine TL.take (k := ?_)
          | refine TL.q (h := .assign) (k := ?_)
          | refine TL.q (h := .move) (k := ?_)
          | refine TL.q (h := .min2) (k := ?_)
          | refine TL.q (h := .max2) (k := ?_)
          | refine TL.q (h := .nilCheck) (k := ?_)
          | refine TL.q (h := .fieldAddr) (k := ?_)
          | refine TL.q (h := .fieldEp) (k := ?_)
          | refine TL.q (h := .load) (k := ?_)
          | refine TL.q (h := .loadEp) (k := ?_)
          | refine TL.q (h := .add) (k := ?_)
          | refine TL.q (h := .catS) (k := ?_)
          | refine TL.u (h := .st) (k := ?_)
          | refine TL.u (h := .stA) (k := ?_)
          | refine TL.u (h := .stEp) (k := ?_)
          | refine TL.u (h := .stEpA) (k := ?_)
          | refine TL.q (h := .extract) (k := ?_)
          | (refine TL.e (h := .al) (k := ?_); rintro _ _ ⟨_, rfl, rfl⟩)
          | refine TL.q (h := .loadA) (k := ?_)
          | refine TL.q (h := .loadEpA) (k := ?_)
          | (refine TL.e (h := .bs) (k := ?_); rintro _ _ ⟨_, rfl, rfl⟩)
          | (refine TL.e (h := .app) (k := ?_); rintro _ _ ⟨_, rfl, rfl⟩)
          | (refine TL.e (h := .appS) (k := ?_); rintro _ _ ⟨_, rfl, rfl⟩)
          | refine TL.q (h := .binI) (k := ?_)
          | refine TL.q (h := .binS) (k := ?_))
        refine RndI.next (m' := K - (i + 1)) (by omega) ⟨i + 1, os, (MAgent.next s.inc).2, wv2, ov, css, rfl, by omega, by simp only [MAgent.ticks, hs, tickN (preF hw) hw hn, Option.toList, List.append_nil], hcss, rfl, rfl⟩ (by (repeat (first | exact AllIs.nil | refine AllIs.cons (by (simp only [St.ev, slk, Nat.reduceBEq, cond_true, cond_false]; first | done | rfl)) ?_))) (by (repeat (first | exact Picks.nil | (apply Picks.cons; (repeat (first | exact Pick.here | apply Pick.there))))))
      | some m2 =>
        simp only [hn, Option.getD_some, Option.isSome_some, MMsg.V, MMsg.C, agL, agC]
        repeat (first
          | with_reducible apply T.seq
          | with_reducible apply T.region
          | with_reducible apply TL.nil
          | with_reducible apply Thn.normal
          | with_reducible apply Thn.ret
          | with_reducible apply Thn.exit
          | with_reducible apply Blk.normal
          | with_reducible apply Blk.ret
          | ((with_reducible refine Blk.exitE ?_ ?_); · rfl)
          | ((with_reducible refine Blk.exitN ?_ ?_); · rfl)
          | with_reducible apply Rnd.ret
          | with_reducible apply Rnd.exit
          | with_reducible apply RndI.ret
          | with_reducible apply RndI.exit
          | with_reducible apply ThnI.ret
          | with_reducible apply ThnI.exit
          | with_reducible apply T.skip
          | with_reducible apply T.block
          | with_reducible apply T.ret
          | with_reducible apply T.exit
          | refine T.condT (h := ?_)
          | refine T.condF (h := ?_)
          | refine TL.pass (k := ?_)
          | refine TL.passN (k := ?_)
          | refine TL.take (k := ?_)
          | refine TL.q (h := .assign) (k := ?_)
          | refine TL.q (h := .move) (k := ?_)
          | refine TL.q (h := .min2) (k := ?_)
          | refine TL.q (h := .max2) (k := ?_)
          | refine TL.q (h := .nilCheck) (k := ?_)
          | refine TL.q (h := .fieldAddr) (k := ?_)
          | refine TL.q (h := .fieldEp) (k := ?_)
          | refine TL.q (h := .load) (k := ?_)
          | refine TL.q (h := .loadEp) (k := ?_)
          | refine TL.q (h := .add) (k := ?_)
          | refine TL.q (h := .catS) (k := ?_)
          | refine TL.u (h := .st) (k := ?_)
          | refine TL.u (h := .stA) (k := ?_)
          | refine TL.u (h := .stEp) (k := ?_)
          | refine TL.u (h := .stEpA) (k := ?_)
          | refine TL.q (h := .extract) (k := ?_)
          | (refine TL.e (h := .al) (k := ?_); rintro _ _ ⟨_, rfl, rfl⟩)
          | refine TL.q (h := .loadA) (k := ?_)
          | refine TL.q (h := .loadEpA) (k := ?_)
          | (refine TL.e (h := .bs) (k := ?_); rintro _ _ ⟨_, rfl, rfl⟩)
          | (refine TL.e (h := .app) (k := ?_); rintro _ _ ⟨_, rfl, rfl⟩)
          | (refine TL.e (h := .appS) (k := ?_); rintro _ _ ⟨_, rfl, rfl⟩)
          | refine TL.q (h := .binI) (k := ?_)
          | refine TL.q (h := .binS) (k := ?_))
        refine TL.callF (h := agent_send b (MAgent.next s.inc).2 sv cb wv2 m' m2 x hx ⟨ok2.tag0.1, by have := ok2.tag0.2; have := ok2.now0.2; omega⟩) (k := ?_)
        rintro _ _ ⟨rfl, rfl⟩
        simp only [MMsg.S, agL, agC]
        repeat (first
          | with_reducible apply T.seq
          | with_reducible apply T.region
          | with_reducible apply TL.nil
          | with_reducible apply Thn.normal
          | with_reducible apply Thn.ret
          | with_reducible apply Thn.exit
          | with_reducible apply Blk.normal
          | with_reducible apply Blk.ret
          | ((with_reducible refine Blk.exitE ?_ ?_); · rfl)
          | ((with_reducible refine Blk.exitN ?_ ?_); · rfl)
          | with_reducible apply Rnd.ret
          | with_reducible apply Rnd.exit
          | with_reducible apply RndI.ret
          | with_reducible apply RndI.exit
          | with_reducible apply ThnI.ret
          | with_reducible apply ThnI.exit
          | with_reducible apply T.skip
          | with_reducible apply T.block
          | with_reducible apply T.ret
          | with_reducible apply T.exit
          | refine T.condT (h := ?_)
          | refine T.condF (h := ?_)
          | refine TL.pass (k := ?_)
          | refine TL.passN (k := ?_)
          | refine TL.take (k := ?_)
          | refine TL.q (h := .assign) (k := ?_)
          | refine TL.q (h := .move) (k := ?_)
          | refine TL.q (h := .min2) (k := ?_)
          | refine TL.q (h := .max2) (k := ?_)
          | refine TL.q (h := .nilCheck) (k := ?_)
          | refine TL.q (h := .fieldAddr) (k := ?_)
          | refine TL.q (h := .fieldEp) (k := ?_)
          | refine TL.q (h := .load) (k := ?_)
          | refine TL.q (h := .loadEp) (k := ?_)
          | refine TL.q (h := .add) (k := ?_)
          | refine TL.q (h := .catS) (k := ?_)
          | refine TL.u (h := .st) (k := ?_)
          | refine TL.u (h := .stA) (k := ?_)
          | refine TL.u (h := .stEp) (k := ?_)
          | refine TL.u (h := .stEpA) (k := ?_)
          | refine TL.q (h := .extract) (k := ?_)
          | (refine TL.e (h := .al) (k := ?_); rintro _ _ ⟨_, rfl, rfl⟩)
          | refine TL.q (h := .loadA) (k := ?_)
          | refine TL.q (h := .loadEpA) (k := ?_)
          | (refine TL.e (h := .bs) (k := ?_); rintro _ _ ⟨_, rfl, rfl⟩)
          | (refine TL.e (h := .app) (k := ?_); rintro _ _ ⟨_, rfl, rfl⟩)
          | (refine TL.e (h := .appS) (k := ?_); rintro _ _ ⟨_, rfl, rfl⟩)
          | refine TL.q (h := .binI) (k := ?_)
          | refine TL.q (h := .binS) (k := ?_))
        rename_i qq q2
        refine RndI.next (m' := K - (i + 1)) (by omega) ⟨i + 1, os ++ [(((MAgent.next s.inc).2.send m2).1, x)], ((MAgent.next s.inc).2.send m2).2, wv2, q2, css ++ [sentC (((MAgent.next s.inc).2.send m2).1, x)], rfl, by omega, by simp only [MAgent.ticks, hs, tickS (preF hw) hw hn hx, Option.toList], by rw [hcss, List.map_append]; rfl, rfl, rfl⟩ (by (repeat (first | exact AllIs.nil | refine AllIs.cons (by (simp only [St.ev, slk, Nat.reduceBEq, cond_true, cond_false]; first | done | rfl)) ?_))) (by (repeat (first | exact Picks.nil | (apply Picks.cons; (repeat (first | exact Pick.here | apply Pick.there))))))
  · have hi' : i = K := by omega
    subst hi'
    repeat (first
      | with_reducible apply T.seq
      | with_reducible apply T.region
      | with_reducible apply TL.nil
      | with_reducible apply Thn.normal
      | with_reducible apply Thn.ret
      | with_reducible apply Thn.exit
      | with_reducible apply Blk.normal
      | with_reducible apply Blk.ret
      | ((with_reducible refine Blk.exitE ?_ ?_); · rfl)
      | ((with_reducible refine Blk.exitN ?_ ?_); · rfl)
      | with_reducible apply Rnd.ret
      | with_reducible apply Rnd.exit
      | with_reducible apply RndI.ret
      | with_reducible apply RndI.exit
      | with_reducible apply ThnI.ret
      | with_reducible apply ThnI.exit
      | with_reducible apply T.skip
      | with_reducible apply T.block
      | with_reducible apply T.ret
      | with_reducible apply T.exit
      | refine T.condT (h := ?_)
      | refine T.condF (h := ?_)
      | refine TL.pass (k := ?_)
      | refine TL.passN (k := ?_)
      | refine TL.take (k := ?_)
      | refine TL.q (h := .assign) (k := ?_)
      | refine TL.q (h := .move) (k := ?_)
      | refine TL.q (h := .min2) (k := ?_)
      | refine TL.q (h := .max2) (k := ?_)
      | refine TL.q (h := .nilCheck) (k := ?_)
      | refine TL.q (h := .fieldAddr) (k := ?_)
      | refine TL.q (h := .fieldEp) (k := ?_)
      | refine TL.q (h := .load) (k := ?_)
      | refine TL.q (h := .loadEp) (k := ?_)
      | refine TL.q (h := .add) (k := ?_)
      | refine TL.q (h := .catS) (k := ?_)
      | refine TL.u (h := .st) (k := ?_)
      | refine TL.u (h := .stA) (k := ?_)
      | refine TL.u (h := .stEp) (k := ?_)
      | refine TL.u (h := .stEpA) (k := ?_)
      | refine TL.q (h := .extract) (k := ?_)
      | (refine TL.e (h := .al) (k := ?_); rintro _ _ ⟨_, rfl, rfl⟩)
      | refine TL.q (h := .loadA) (k := ?_)
      | refine TL.q (h := .loadEpA) (k := ?_)
      | (refine TL.e (h := .bs) (k := ?_); rintro _ _ ⟨_, rfl, rfl⟩)
      | (refine TL.e (h := .app) (k := ?_); rintro _ _ ⟨_, rfl, rfl⟩)
      | (refine TL.e (h := .appS) (k := ?_); rintro _ _ ⟨_, rfl, rfl⟩)
      | refine TL.q (h := .binI) (k := ?_)
      | refine TL.q (h := .binS) (k := ?_))
    (first | refine RetQ.retI (L := agL b s sv cb wv m' ++ [row true 94 14 ov.v css]) (ResIs.r1 Try.results51 (RV.tmp)) (by (repeat (first | exact Picks.nil | (apply Picks.cons; (repeat (first | exact Pick.here | apply Pick.there)))))) ?_ | refine RetQ.norI (L := agL b s sv cb wv m' ++ [row true 94 14 ov.v css]) (ResIs.r1 Try.results51 (RV.tmp)) (by (repeat (first | exact Picks.nil | (apply Picks.cons; (repeat (first | exact Pick.here | apply Pick.there)))))) ?_)
    exact ⟨ov, wv, rfl, by rw [hs, hcss]; rfl⟩
end Go.Proofs.Ytpbomaelkpjbbaa

