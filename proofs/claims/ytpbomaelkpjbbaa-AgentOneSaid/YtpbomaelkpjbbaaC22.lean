import Derived.Test.YtpbomaelkpjbbaaC21
import Derived.Test.YtpbomaelkpjbbaaC11
namespace Go.Proofs.Ytpbomaelkpjbbaa
open Go.Fw K22
theorem wanted_app (st : MAgent) : st.wanted.2.app = st.app ∧ st.wanted.2.id = st.id ∧ st.wanted.2.waits = st.waits ∧ st.wanted.2.beat = st.beat ∧ st.wanted.2.known = st.known := by
  unfold MAgent.wanted
  cases st.wants with
  | nil => exact ⟨rfl, rfl, rfl, rfl, rfl⟩
  | cons w ws =>
    simp only
    repeat' split
    all_goals exact ⟨rfl, rfl, rfl, rfl, rfl⟩
theorem next_app (st : MAgent) : st.next.2.app = st.app ∧ st.next.2.id = st.id ∧ st.next.2.waits = st.waits ∧ st.next.2.beat = st.beat ∧ st.next.2.known = st.known := by
  unfold MAgent.next
  split
  · exact wanted_app st
  · repeat' split
    all_goals exact ⟨rfl, rfl, rfl, rfl, rfl⟩
theorem wanted_op (st : MAgent) (h : st.wants ≠ []) : 1 ≤ st.wanted.1.op ∧ st.wanted.1.op < 5 := by
  unfold MAgent.wanted
  cases hw : st.wants with
  | nil => exact absurd hw h
  | cons w ws =>
    simp only
    have h1 : (1 : Int) ≤ 1 ∧ (1 : Int) < 5 := by decide
    have h4 : (1 : Int) ≤ 4 ∧ (4 : Int) < 5 := by decide
    have h3 : (1 : Int) ≤ 3 ∧ (3 : Int) < 5 := by decide
    repeat' split
    all_goals first | exact h1 | exact h4 | exact h3
theorem next_op {st : MAgent} {m : MMsg} (h : st.next.1 = some m) : (m.op = 5 ∧ m.app = ⟨#[]⟩ ∧ m.id = ⟨#[]⟩) ∨ (1 ≤ m.op ∧ m.op < 5) := by
  unfold MAgent.next at h
  split at h
  · rename_i hw
    simp only [Option.some.injEq] at h
    rw [← h]
    exact .inr (wanted_op st hw)
  · split at h
    · simp only [Option.some.injEq] at h
      rw [← h]; exact .inr (by decide)
    · split at h
      · simp only [Option.some.injEq] at h
        rw [← h]; exact .inr ⟨(by decide : (1 : Int) ≤ 1), (by decide : (1 : Int) < 5)⟩
      · split at h
        · simp only [Option.some.injEq] at h
          rw [← h]; exact .inl ⟨rfl, rfl, rfl⟩
        · simp at h
theorem ask_shape {p : MAgent} {m : MMsg} (hn : p.next.1 = some m) : (p.next.2.send m).1 = (p.next.2.send m).2.ask ∧ (p.next.2.send m).1.tag = p.ask.tag + 1 ∧ (p.next.2.send m).1.op = m.op ∧ (p.next.2.send m).2.waits = true ∧ (p.next.2.send m).2.asked = p.now
    ∧ (p.next.2.send m).2.app = p.app ∧ (p.next.2.send m).2.id = p.id ∧ (p.next.2.send m).2.now = p.now ∧ (p.next.2.send m).2.servers = p.servers ∧ (p.next.2.send m).2.server = p.server
    ∧ (((p.next.2.send m).1.op = 5 ∧ (p.next.2.send m).1.app = ⟨#[]⟩ ∧ (p.next.2.send m).1.id = ⟨#[]⟩) ∨ (1 ≤ (p.next.2.send m).1.op ∧ (p.next.2.send m).1.op < 5 ∧ (p.next.2.send m).1.app = p.app ∧ (p.next.2.send m).1.id = p.id)) := by
  obtain ⟨a1, a2, _, _, _⟩ := next_app p
  obtain ⟨n1, n2, n3, n4⟩ := next_rest p
  have ho := next_op hn
  generalize p.next.2 = q at *
  unfold MAgent.send
  cases h5 : m.op == 5 with
  | true =>
    have h5' : m.op = 5 := by simpa using h5
    rcases ho with ho | ho
    · simp [MAgent.s5, MMsg.asks, a1, a2, n1, n2, n3, n4, ho]
    · omega
  | false =>
    have h5' : ¬ m.op = 5 := by simpa using h5
    rcases ho with ho | ho
    · exact absurd ho.1 h5'
    · cases (m.op == 1 || m.op == 2) <;> simp [MAgent.s1, MAgent.s0, MMsg.keyed, a1, a2, n1, n2, n3, n4, ho]
def ansW (op tag : Int) : MMsg := { kind := 2, op := op, tag := tag, app := kA, id := kB }
theorem recv_rest (st : MAgent) (m : MMsg) : (st.recv m).now = st.now ∧ (st.recv m).ask = st.ask ∧ (st.recv m).servers = st.servers ∧ (st.recv m).server = st.server ∧ (st.recv m).wants = st.wants ∧ (st.recv m).asked = st.asked
    ∧ ((st.recv m).beat = st.beat ∨ (st.recv m).beat = ⟨false, 0⟩) ∧ (st.recv m).fetch = st.fetch ∧ (st.recv m).app = st.app ∧ (st.recv m).id = st.id ∧ (st.recv m).waits = false := by
  unfold MAgent.recv
  cases (m.op == 1 && m.code == 0) <;> cases (m.op == 2 && m.code == 22) <;> cases (m.op == 3 && (m.code == 0 || m.code == 22)) <;> simp
theorem recv_ok {st : MAgent} (m : MMsg) (h : st.ok) : (st.recv m).ok := by
  obtain ⟨h1, h2, h3, h4, h5, h6, h7, h8⟩ := h
  obtain ⟨r1, r2, r3, r4, r5, r6, r7, r8, _⟩ := recv_rest st m
  refine ⟨by rw [r1]; exact h1, ?_, by rw [r8, r1]; exact h3, by rw [r5]; exact h4, by rw [r3, r4]; exact h5, by rw [r3]; exact h6, by rw [r2, r1]; exact h7, by rw [r6, r1]; exact h8⟩
  rw [r1]
  rcases r7 with r | r <;> rw [r]
  · exact h2
  · exact ⟨Int.le_refl _, h1.1⟩
theorem rightA_ansW {op : Int} (tag : Int) (h1 : 1 ≤ op) (h2 : op < 5) : rightA (ansW op tag) = true := by
  have h : op = 1 ∨ op = 2 ∨ op = 3 ∨ op = 4 := by omega
  rcases h with rfl | rfl | rfl | rfl <;> rfl
structure J0 (i tag : Int) (ss : List Int) (st : MAgent) : Prop where
  ok : st.ok
  now : st.now = i
  tag : st.ask.tag = tag
  app : st.app = kA
  id : st.id = kB
  srvs : st.servers = ss
theorem J0.recv {i tag : Int} {ss : List Int} {st : MAgent} (h : J0 i tag ss st) (m : MMsg) : J0 i tag ss (st.recv m) := by
  obtain ⟨r1, r2, r3, r4, r5, r6, r7, r8, r9, r10, r11⟩ := recv_rest st m
  exact ⟨recv_ok m h.ok, by rw [r1]; exact h.now, by rw [r2]; exact h.tag, by rw [r9]; exact h.app, by rw [r10]; exact h.id, by rw [r3]; exact h.srvs⟩
theorem J0.fed {i tag : Int} {ss : List Int} {st : MAgent} (h : J0 i tag ss st) : J0 i tag ss st.fed := by
  obtain ⟨⟨h1, h2, h3, h4, h5, h6, h7, h8⟩, k2, k3, k4, k5, k6⟩ := h
  exact ⟨⟨h1, h2, h3, h4, h5, h6, h7, h8⟩, k2, k3, k4, k5, k6⟩
/-- What can be told of an ask that was sent. -/
structure Sent1 (i tag : Int) (ss : List Int) (m : MMsg) (x : Int) (st : MAgent) : Prop where
  j : J0 i tag ss st
  tg : m.tag = tag
  waits : st.waits = true
  asked : st.asked = i
  srv : st.servers[st.server]? = some x
  fetch : m.op = 5 → m.app = ⟨#[]⟩ ∧ m.id = ⟨#[]⟩ ∧ recvOk st x x (feedM tag) = true
  other : m.op ≠ 5 → m.app = kA ∧ m.id = kB ∧ recvOk st x x (ansW m.op tag) = true
/-- One that waits for nothing is asked what is next. -/
theorem go_step {i tag : Int} {ss : List Int} {p : MAgent} (hj : J0 (i + 1) tag ss p) (ht : p.ask.tag + 1 ≤ p.now) (hw : p.waits = false) :
    (p.next.1 = none ∧ J0 (i + 1) tag ss p.next.2 ∧ p.next.2.waits = false) ∨
    ∃ m x, p.next.1 = some m ∧ p.next.2.servers[p.next.2.server]? = some x ∧ Sent1 (i + 1) (tag + 1) ss (p.next.2.send m).1 x (p.next.2.send m).2 := by
  obtain ⟨a1, a2, a3, _, _⟩ := next_app p
  obtain ⟨n1, n2, n3, n4⟩ := next_rest p
  have hok2 := next_ok hj.ok
  cases hn : p.next.1 with
  | none => exact .inl ⟨rfl, ⟨hok2, by rw [n1]; exact hj.now, by rw [n2]; exact hj.tag, by rw [a1]; exact hj.app, by rw [a2]; exact hj.id, by rw [n3]; exact hj.srvs⟩, by rw [a3]; exact hw⟩
  | some m =>
    obtain ⟨x, hx⟩ := hok2.srv
    obtain ⟨s1, s2, s3, s4, s5, s6, s7, s8, s9, s10, s11⟩ := ask_shape hn
    have hx2 : (p.next.2.send m).2.servers[(p.next.2.send m).2.server]? = some x := by rw [s9, s10, ← n3, ← n4]; exact hx
    have hj2 : J0 (i + 1) (tag + 1) ss (p.next.2.send m).2 := ⟨send_ok m hok2 (by rw [n1, n2]; exact ht), by rw [s8]; exact hj.now, by rw [← s1, s2, hj.tag], by rw [s6]; exact hj.app, by rw [s7]; exact hj.id, by rw [s9]; exact hj.srvs⟩
    refine .inr ⟨m, x, rfl, hx, ⟨hj2, by rw [s2, hj.tag], s4, by rw [s5]; exact hj.now, hx2, fun h5 => ?_, fun h5 => ?_⟩⟩
    · rcases s11 with h | h
      · refine ⟨h.2.1, h.2.2, ?_⟩
        rw [recvOk_feed, s4, ← s1, s2, hj.tag, h5]
        simp
      · omega
    · rcases s11 with h | h
      · exact absurd h.1 h5
      · refine ⟨by rw [h.2.2.1]; exact hj.app, by rw [h.2.2.2]; exact hj.id, ?_⟩
        have e1 : (ansW (p.next.2.send m).1.op (tag + 1)).tag = (p.next.2.send m).2.ask.tag := by rw [← s1, s2, hj.tag]; rfl
        have e2 : (ansW (p.next.2.send m).1.op (tag + 1)).op = (p.next.2.send m).2.ask.op := by rw [← s1]; rfl
        simp only [recvOk, rightA_ansW (tag + 1) h.1 h.2.1, s4, e1, e2, beq_self_eq_true, Bool.and_self]
theorem ticks1_none {st p : MAgent} (hp : st.pre = p) (hw : p.waits = false) (hn : p.next.1 = none) : st.ticks 1 = ([], p.next.2) := by
  simp only [MAgent.ticks, tickN hp hw hn, Option.toList, List.append_nil]
theorem ticks1_some {st p : MAgent} {m : MMsg} {x : Int} (hp : st.pre = p) (hw : p.waits = false) (hn : p.next.1 = some m) (hx : p.next.2.servers[p.next.2.server]? = some x) : st.ticks 1 = ([((p.next.2.send m).1, x)], (p.next.2.send m).2) := by
  simp only [MAgent.ticks, tickS hp hw hn hx, Option.toList, List.nil_append]
theorem J0.inc {i tag : Int} {ss : List Int} {st : MAgent} (h : J0 i tag ss st) (hi : i + 1 ≤ 1000000000000) : J0 (i + 1) tag ss st.inc :=
  ⟨inc_ok h.ok (by rw [h.now]; exact hi), by show st.now + 1 = _; rw [h.now], h.tag, h.app, h.id, h.srvs⟩
theorem J0.turn {i tag : Int} {ss : List Int} {st : MAgent} (h : J0 i tag ss st) : J0 i tag ss st.turn := ⟨turn_ok h.ok, h.now, h.tag, h.app, h.id, h.srvs⟩
/-- One tick of one that may wait. -/
theorem one_step {i tag : Int} {ss : List Int} {st : MAgent} (h : J0 i tag ss st) (hi : i + 1 ≤ 1000000000000) :
    (∃ st', st.ticks 1 = ([], st') ∧ J0 (i + 1) tag ss st' ∧ ((st.waits = true ∧ st'.waits = true ∧ st'.asked = st.asked) ∨ (st'.waits = false ∧ (st.waits = true → i + 1 - st.asked ≥ 8)))) ∨
    (∃ m x st', st.ticks 1 = ([(m, x)], st') ∧ Sent1 (i + 1) (tag + 1) ss m x st' ∧ (st.waits = true → i + 1 - st.asked ≥ 8)) := by
  have hinc := h.inc hi
  have htag : st.ask.tag + 1 ≤ st.now + 1 := by have := h.ok.tag0; omega
  cases hw : st.waits with
  | true =>
    by_cases hd : st.now + 1 - st.asked ≥ 8
    · have hd' : i + 1 - st.asked ≥ 8 := by rw [← h.now]; exact hd
      rcases go_step (p := st.inc.turn) hinc.turn htag rfl with ⟨hn, hj, hw2⟩ | ⟨m, x, hn, hx, hs⟩
      · exact .inl ⟨_, ticks1_none (preT hw hd) rfl hn, hj, .inr ⟨hw2, fun _ => hd'⟩⟩
      · exact .inr ⟨_, x, _, ticks1_some (preT hw hd) rfl hn hx, hs, fun _ => hd'⟩
    · refine .inl ⟨st.inc, ?_, hinc, .inl ⟨rfl, hw, rfl⟩⟩
      simp only [MAgent.ticks, tickW hw hd, Option.toList, List.append_nil]
  | false =>
    rcases go_step (p := st.inc) hinc htag hw with ⟨hn, hj, hw2⟩ | ⟨m, x, hn, hx, hs⟩
    · exact .inl ⟨_, ticks1_none (preF hw) hw hn, hj, .inr ⟨hw2, fun h => by cases h⟩⟩
    · exact .inr ⟨_, x, _, ticks1_some (preF hw) hw hn hx, hs, fun h => by cases h⟩
end Go.Proofs.Ytpbomaelkpjbbaa

