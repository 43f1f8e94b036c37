import Derived.Test.YtpbomaelkpjbbaaC11
namespace Go.Proofs.Ytpbomaelkpjbbaa
open Go.Fw K22
attribute [local irreducible] T TL TG Thn ThnI Blk Rnd RndI RetQ OpV OpE OpU OpK Ctr row cel ep
def wop (x : Int) : Int := if within x 0 2 = 0 then 1 else if within x 0 2 = 1 then 3 else 4
theorem within_02 {x : Int} : 0 ≤ within x 0 2 ∧ within x 0 2 ≤ 2 := by
  have h1 : -3 < x.tmod 3 := by have := Int.lt_tmod_of_pos x (show (0 : Int) < 3 by omega); omega
  have h2 : x.tmod 3 < 3 := Int.tmod_lt_of_pos x (by omega)
  have e : (2 : Int) - 0 + 1 = 3 := rfl
  unfold within
  rw [e]
  generalize x.tmod 3 = r at *
  split <;> (try split) <;> omega
def wantOf (x : Int) : MWant := ⟨wop x, 9, 1⟩
def startW (ws : List MWant) : MAgent := { MAgent.new kA kB [0] with wants := ws }
structure WI (ws : List MWant) (i : Nat) (st : MAgent) : Prop where
  ok : st.ok
  wants : st.wants = ws.drop i
  idle : st.waits = false
  tag : st.ask.tag = i
  srvs : st.servers = [0]
  srv : st.server = 0
  app : st.app = kA
  id : st.id = kB
  now : st.now = i
def ansW (op tag : Int) : MMsg := { kind := 2, op := op, tag := tag, app := kA, id := kB }
theorem recv_rest (st : MAgent) (m : MMsg) : (st.recv m).now = st.now ∧ (st.recv m).ask = st.ask ∧ (st.recv m).servers = st.servers ∧ (st.recv m).server = st.server ∧ (st.recv m).wants = st.wants ∧ (st.recv m).asked = st.asked
    ∧ ((st.recv m).beat = st.beat ∨ (st.recv m).beat = ⟨false, 0⟩) ∧ (st.recv m).fetch = st.fetch ∧ (st.recv m).app = st.app ∧ (st.recv m).id = st.id ∧ (st.recv m).waits = false := by
  unfold MAgent.recv
  cases (m.op == 1 && m.code == 0) <;> cases (m.op == 2 && m.code == 22) <;> cases (m.op == 3 && (m.code == 0 || m.code == 22)) <;> simp
theorem recv_ok {st : MAgent} (m : MMsg) (h : st.ok) : (st.recv m).ok := by
  obtain ⟨h1, h2, h3, h4, h5, h6, h7, h8⟩ := h
  obtain ⟨r1, r2, r3, r4, r5, r6, r7, r8, _⟩ := recv_rest st m
  refine ⟨by rw [r1]; exact h1, ?_, by rw [r8, r1]; exact h3, by rw [r5]; exact h4, by rw [r3, r4]; exact h5, by rw [r3]; exact h6, by rw [r2, r1]; exact h7, by rw [r6, r1]; exact h8⟩
  rw [r1]
  rcases r7 with r | r <;> rw [r]
  · exact h2
  · exact ⟨Int.le_refl _, h1.1⟩
theorem wants_step {ws : List MWant} {i : Nat} {st : MAgent} {w : MWant} (h : WI ws i st) (hw : ws[i]? = some w) (hop : w.op = 1 ∨ w.op = 3 ∨ w.op = 4) (hi : i ≤ 1000) :
    ∃ m st', st.ticks 1 = ([(m, 0)], st') ∧ m.op = w.op ∧ m.tag = (i : Int) + 1 ∧ st'.waits = true ∧ st'.servers[st'.server]? = some 0 ∧ recvOk st' 0 0 (ansW w.op (i + 1)) = true ∧ WI ws (i + 1) (st'.recv (ansW w.op (i + 1))) := by
  have hd : ws.drop i = w :: ws.drop (i + 1) := by
    obtain ⟨hlt, rfl⟩ := List.getElem?_eq_some_iff.1 hw
    exact List.drop_eq_getElem_cons hlt
  have hok := ticks_ok h.ok 1 (by rw [h.now]; omega)
  obtain ⟨h1, h2, h3, h4, h5, h6, h7, h8, h9⟩ := h
  rw [hd] at h2
  have hpre : st.pre = st.inc := preF h3
  have hiw : st.inc.waits = false := h3
  have hn1 : st.inc.next = (some st.inc.wanted.1, st.inc.wanted.2) := by
    unfold MAgent.next
    rw [if_pos (by show st.wants ≠ []; rw [h2]; simp)]
  have hwd : st.inc.wanted.1.op = w.op ∧ st.inc.wanted.2.app = kA ∧ st.inc.wanted.2.id = kB ∧ st.inc.wanted.2.wants = ws.drop (i + 1) ∧ st.inc.wanted.2.waits = false := by
    have hi2 : st.inc.wants = w :: ws.drop (i + 1) := h2
    unfold MAgent.wanted
    rw [hi2]
    rcases hop with e | e | e <;> simp [e, MAgent.inc, h7, h8, h3]
  obtain ⟨n1, n2, n3, n4⟩ := wanted_rest st.inc
  have hx : st.inc.next.2.servers[st.inc.next.2.server]? = some 0 := by
    rw [hn1]; simp only; rw [n3, n4]; show st.servers[st.server]? = _; rw [h5, h6]; rfl
  have ht := tickS hpre hiw (by rw [hn1]) hx
  rw [hn1] at ht
  simp only at ht
  obtain ⟨s1, s2, s3, s4, s5, s6, s7, s8⟩ := send_rest st.inc.wanted.2 st.inc.wanted.1
  have htk : st.ticks 1 = ([((st.inc.wanted.2.send st.inc.wanted.1).1, 0)], (st.inc.wanted.2.send st.inc.wanted.1).2) := by
    simp only [MAgent.ticks, ht, List.nil_append, Option.toList]
  rw [htk] at hok
  have hsend : (st.inc.wanted.2.send st.inc.wanted.1).1 = st.inc.wanted.1.keyed st.inc.wanted.2 ∧ (st.inc.wanted.2.send st.inc.wanted.1).2.waits = true ∧ (st.inc.wanted.2.send st.inc.wanted.1).2.ask = st.inc.wanted.1.keyed st.inc.wanted.2
      ∧ (st.inc.wanted.2.send st.inc.wanted.1).2.app = kA ∧ (st.inc.wanted.2.send st.inc.wanted.1).2.id = kB := by
    have h5f : (st.inc.wanted.1.op == 5) = false := by rw [hwd.1]; rcases hop with e | e | e <;> rw [e] <;> rfl
    unfold MAgent.send
    rw [h5f, cond_false]
    cases (st.inc.wanted.1.op == 1 || st.inc.wanted.1.op == 2) <;> simp [MAgent.s1, MAgent.s0, hwd.2.1, hwd.2.2.1]
  have htag : (st.inc.wanted.1.keyed st.inc.wanted.2).tag = (i : Int) + 1 := by
    show st.inc.wanted.2.ask.tag + 1 = _
    rw [n2]
    show st.ask.tag + 1 = _
    rw [h4]
  have hnow : (st.inc.wanted.2.send st.inc.wanted.1).2.now = ((i + 1 : Nat) : Int) := by
    rw [s1, n1]
    show st.now + 1 = _
    rw [h9]; omega
  refine ⟨_, _, htk, ?_, ?_, hsend.2.1, ?_, ?_, ?_⟩
  · rw [hsend.1]; exact hwd.1
  · rw [hsend.1]; exact htag
  · rw [s3, s4, n3, n4]; show st.servers[st.server]? = _; rw [h5, h6]; rfl
  · have hr : rightA (ansW w.op (i + 1)) = true := by rcases hop with e | e | e <;> rw [e] <;> rfl
    have e1 : (ansW w.op (i + 1)).tag = (st.inc.wanted.2.send st.inc.wanted.1).2.ask.tag := by rw [hsend.2.2.1, htag]; rfl
    have e2 : (ansW w.op (i + 1)).op = (st.inc.wanted.2.send st.inc.wanted.1).2.ask.op := by rw [hsend.2.2.1]; exact hwd.1.symm
    simp only [recvOk, hr, hsend.2.1, e1, e2, beq_self_eq_true, Bool.and_self]
  · obtain ⟨r1, r2, r3, r4, r5, r6, r7, r8, r9, r10, r11⟩ := recv_rest (st.inc.wanted.2.send st.inc.wanted.1).2 (ansW w.op (i + 1))
    refine ⟨recv_ok _ hok.1, ?_, r11, ?_, ?_, ?_, ?_, ?_, ?_⟩
    · rw [r5, s5]; exact hwd.2.2.2.1
    · rw [r2, hsend.2.2.1, htag]; omega
    · rw [r3, s3, n3]; exact h5
    · rw [r4, s4, n4]; exact h6
    · rw [r9]; exact hsend.2.2.2.1
    · rw [r10]; exact hsend.2.2.2.2
    · rw [r1, hnow]
set_option maxHeartbeats 4000000 in
theorem law_AgentWants (m : Bool) (x : Sl) (xs : List Int) (hx : ∀ v ∈ xs, -9223372036854775808 ≤ v ∧ v ≤ 9223372036854775807) :
    Ctr Try.prog 10 #[x.v] [row m 3 1 x.v (xs.map intC)] fun v L => v = .bool true ∧ L = [row m 3 1 x.v (xs.map intC)] := by
  have hlm : (xs.map intC).length = xs.length := by simp
  refine Ctr.of (n := 107) (args := [_]) Try.func10 rfl rfl rfl fun F => ?_
  simp only [List.zipIdx_cons, List.zipIdx_nil, List.map_cons, List.map_nil, Nat.zero_add, Nat.reduceAdd, List.cons_append, List.nil_append]
  repeat (first
    | with_reducible apply T.seq
    | with_reducible apply T.region
    | with_reducible apply TL.nil
    | with_reducible apply Thn.normal
    | with_reducible apply Thn.ret
    | with_reducible apply Thn.exit
    | with_reducible apply Blk.normal
    | with_reducible apply Blk.ret
    | ((with_reducible refine Blk.exitE ?_ ?_); · rfl)
    | ((with_reducible refine Blk.exitN ?_ ?_); · rfl)
    | with_reducible apply Rnd.ret
    | with_reducible apply Rnd.exit
    | with_reducible apply RndI.ret
    | with_reducible apply RndI.exit
    | with_reducible apply ThnI.ret
    | with_reducible apply ThnI.exit
    | with_reducible apply T.skip
    | with_reducible apply T.block
    | with_reducible apply T.ret
    | with_reducible apply T.exit
    | refine T.condT (h := ?_)
    | refine T.condF (h := ?_)
    | refine TL.pass (k := ?_)
    | refine TL.passN (k := ?_)
    | refine TL.take (k := ?_)
    | refine TL.q (h := .assign) (k := ?_)
    | refine TL.q (h := .build) (k := ?_)
    | (refine TL.e (h := .al) (k := ?_); rintro _ _ ⟨_, rfl, rfl⟩)
    | refine TL.u (h := .st) (k := ?_)
    | refine TL.u (h := .stA) (k := ?_)
    | refine TL.q (h := .loadA) (k := ?_)
    | refine TL.q (h := .loadEpA) (k := ?_)
    | (refine TL.e (h := .bs) (k := ?_); rintro _ _ ⟨_, rfl, rfl⟩)
    | refine TL.q (h := .move) (k := ?_)
    | refine TL.q (h := .eqNil) (k := ?_)
    | refine TL.q (h := .lenR) (k := ?_)
    | refine TL.q (h := .lenS) (k := ?_)
    | refine TL.q (h := .pickT) (k := ?_)
    | refine TL.q (h := .pickF) (k := ?_)
    | refine TL.q (h := .indexR) (k := ?_)
    | refine TL.q (h := .load) (k := ?_)
    | refine TL.q (h := .loadEp) (k := ?_)
    | (refine TL.callF (h := book_Within _ _ _ (by omega) (by first | assumption | rfl | omega | (simp at *; omega))) (k := ?_); rintro _ _ ⟨rfl, rfl⟩)
    | refine TL.q (h := .neB) (k := ?_)
    | (refine TL.e (h := .app) (k := ?_); rintro _ _ ⟨_, rfl, rfl⟩)
    | (refine TL.e (h := .appS) (k := ?_); rintro _ _ ⟨_, rfl, rfl⟩)
    | refine TL.q (h := .add) (k := ?_)
    | refine TL.q (h := .catS) (k := ?_)
    | (refine TL.callF (h := known22) (k := ?_); rintro _ _ ⟨rfl, rfl⟩)
    | refine TL.q (h := .binI) (k := ?_)
    | refine TL.q (h := .binS) (k := ?_)
    | refine TL.q (h := .pickB) (k := ?_))
  rename_i bk q
  refine TL.callF (h := agent_New kA kB true q [0]) (k := ?_)
  rintro _ _ (⟨_, b, cb, sv, rfl, rfl⟩ | ⟨h, _, _⟩)
  rotate_left
  · exact absurd h (by decide)
  refine TL.parts (add_nil true 3 1) ?_
  repeat (first
    | with_reducible apply T.seq
    | with_reducible apply T.region
    | with_reducible apply TL.nil
    | with_reducible apply Thn.normal
    | with_reducible apply Thn.ret
    | with_reducible apply Thn.exit
    | with_reducible apply Blk.normal
    | with_reducible apply Blk.ret
    | ((with_reducible refine Blk.exitE ?_ ?_); · rfl)
    | ((with_reducible refine Blk.exitN ?_ ?_); · rfl)
    | with_reducible apply Rnd.ret
    | with_reducible apply Rnd.exit
    | with_reducible apply RndI.ret
    | with_reducible apply RndI.exit
    | with_reducible apply ThnI.ret
    | with_reducible apply ThnI.exit
    | with_reducible apply T.skip
    | with_reducible apply T.block
    | with_reducible apply T.ret
    | with_reducible apply T.exit
    | refine T.condT (h := ?_)
    | refine T.condF (h := ?_)
    | refine TL.pass (k := ?_)
    | refine TL.passN (k := ?_)
    | refine TL.take (k := ?_)
    | refine TL.q (h := .assign) (k := ?_)
    | refine TL.q (h := .build) (k := ?_)
    | (refine TL.e (h := .al) (k := ?_); rintro _ _ ⟨_, rfl, rfl⟩)
    | refine TL.u (h := .st) (k := ?_)
    | refine TL.u (h := .stA) (k := ?_)
    | refine TL.q (h := .loadA) (k := ?_)
    | refine TL.q (h := .loadEpA) (k := ?_)
    | (refine TL.e (h := .bs) (k := ?_); rintro _ _ ⟨_, rfl, rfl⟩)
    | refine TL.q (h := .move) (k := ?_)
    | refine TL.q (h := .eqNil) (k := ?_)
    | refine TL.q (h := .lenR) (k := ?_)
    | refine TL.q (h := .lenS) (k := ?_)
    | refine TL.q (h := .pickT) (k := ?_)
    | refine TL.q (h := .pickF) (k := ?_)
    | refine TL.q (h := .indexR) (k := ?_)
    | refine TL.q (h := .load) (k := ?_)
    | refine TL.q (h := .loadEp) (k := ?_)
    | (refine TL.callF (h := book_Within _ _ _ (by omega) (by first | assumption | rfl | omega | (simp at *; omega))) (k := ?_); rintro _ _ ⟨rfl, rfl⟩)
    | refine TL.q (h := .neB) (k := ?_)
    | (refine TL.e (h := .app) (k := ?_); rintro _ _ ⟨_, rfl, rfl⟩)
    | (refine TL.e (h := .appS) (k := ?_); rintro _ _ ⟨_, rfl, rfl⟩)
    | refine TL.q (h := .add) (k := ?_)
    | refine TL.q (h := .catS) (k := ?_)
    | (refine TL.callF (h := known22) (k := ?_); rintro _ _ ⟨rfl, rfl⟩)
    | refine TL.q (h := .binI) (k := ?_)
    | refine TL.q (h := .binS) (k := ?_)
    | refine TL.q (h := .pickB) (k := ?_))
  refine T.blkI (fun l A => ∃ (wv pv : Sl) (ws : List MWant), ws = ((xs.take 12).take 8).map wantOf ∧
    l = [(5, pv.v), (4, .pointer (some ⟨b, 0, none⟩)), (3, .pointer (some ⟨bk, 0, none⟩)), (2, .bool false)] ∧
    A = agL b (startW ws) sv cb wv true ++ [cel true bk 31 [.string ⟨#[97]⟩, .string ⟨#[98]⟩], row m 3 1 x.v (xs.map intC), row true 3 1 pv.v (ws.map fun w => [.int .i64 w.op]), F]) ?_ ?_
  · refine T.loopI (fun q l A => ∃ (i : Nat) (wv pv : Sl) (ws : List MWant), q = 12 - i ∧ i ≤ 12 ∧ i ≤ xs.length ∧ ws = ((xs.take i).take 8).map wantOf ∧
      l = [(6, .int .i64 i), (5, pv.v), (4, .pointer (some ⟨b, 0, none⟩)), (3, .pointer (some ⟨bk, 0, none⟩)), (0, x.v), (2, .bool false)] ∧
      A = agL b (startW ws) sv cb wv true ++ [cel true bk 31 [.string ⟨#[97]⟩, .string ⟨#[98]⟩], row m 3 1 x.v (xs.map intC), row true 3 1 pv.v (ws.map fun w => [.int .i64 w.op]), F]) ⟨0, Sl.nil, Sl.nil, [], rfl, by omega, by omega, rfl, rfl, rfl⟩ (by (repeat (first | exact AllIs.nil | refine AllIs.cons (by (simp only [St.ev, slk, Nat.reduceBEq, cond_true, cond_false]; first | done | rfl)) ?_))) (by (repeat (first | exact Picks.nil | (apply Picks.cons; (repeat (first | exact Pick.here | apply Pick.there)))))) ?_
    rintro q l A j ⟨i, wv, pv, ws, rfl, hi, hil, hws, rfl, rfl⟩
    have hwl : ws.length = min 8 i := by rw [hws]; simp; omega
    have hcl : (ws.map fun w => [Value.int .i64 w.op]).length = ws.length := by simp
    simp only [agL, List.cons_append, List.nil_append]
    repeat (first
      | with_reducible apply T.seq
      | with_reducible apply T.region
      | with_reducible apply TL.nil
      | with_reducible apply Thn.normal
      | with_reducible apply Thn.ret
      | with_reducible apply Thn.exit
      | with_reducible apply Blk.normal
      | with_reducible apply Blk.ret
      | ((with_reducible refine Blk.exitE ?_ ?_); · rfl)
      | ((with_reducible refine Blk.exitN ?_ ?_); · rfl)
      | with_reducible apply Rnd.ret
      | with_reducible apply Rnd.exit
      | with_reducible apply RndI.ret
      | with_reducible apply RndI.exit
      | with_reducible apply ThnI.ret
      | with_reducible apply ThnI.exit
      | with_reducible apply T.skip
      | with_reducible apply T.block
      | with_reducible apply T.ret
      | with_reducible apply T.exit
      | refine T.condT (h := ?_)
      | refine T.condF (h := ?_)
      | refine TL.pass (k := ?_)
      | refine TL.passN (k := ?_)
      | refine TL.take (k := ?_)
      | refine TL.q (h := .assign) (k := ?_)
      | refine TL.q (h := .build) (k := ?_)
      | (refine TL.e (h := .al) (k := ?_); rintro _ _ ⟨_, rfl, rfl⟩)
      | refine TL.u (h := .st) (k := ?_)
      | refine TL.u (h := .stA) (k := ?_)
      | refine TL.q (h := .loadA) (k := ?_)
      | refine TL.q (h := .loadEpA) (k := ?_)
      | (refine TL.e (h := .bs) (k := ?_); rintro _ _ ⟨_, rfl, rfl⟩)
      | refine TL.q (h := .move) (k := ?_)
      | refine TL.q (h := .eqNil) (k := ?_)
      | refine TL.q (h := .lenR) (k := ?_)
      | refine TL.q (h := .lenS) (k := ?_)
      | refine TL.q (h := .pickT) (k := ?_)
      | refine TL.q (h := .pickF) (k := ?_)
      | refine TL.q (h := .indexR) (k := ?_)
      | refine TL.q (h := .load) (k := ?_)
      | refine TL.q (h := .loadEp) (k := ?_)
      | (refine TL.callF (h := book_Within _ _ _ (by omega) (by first | assumption | rfl | omega | (simp at *; omega))) (k := ?_); rintro _ _ ⟨rfl, rfl⟩)
      | refine TL.q (h := .neB) (k := ?_)
      | (refine TL.e (h := .app) (k := ?_); rintro _ _ ⟨_, rfl, rfl⟩)
      | (refine TL.e (h := .appS) (k := ?_); rintro _ _ ⟨_, rfl, rfl⟩)
      | refine TL.q (h := .add) (k := ?_)
      | refine TL.q (h := .catS) (k := ?_)
      | (refine TL.callF (h := known22) (k := ?_); rintro _ _ ⟨rfl, rfl⟩)
      | refine TL.q (h := .binI) (k := ?_)
      | refine TL.q (h := .binS) (k := ?_)
      | refine TL.q (h := .pickB) (k := ?_))
    refine TL.splitD 21 (ht := fun hlt => ?_) (hf := fun hlt => ?_)
    · skip
      repeat (first
        | with_reducible apply T.seq
        | with_reducible apply T.region
        | with_reducible apply TL.nil
        | with_reducible apply Thn.normal
        | with_reducible apply Thn.ret
        | with_reducible apply Thn.exit
        | with_reducible apply Blk.normal
        | with_reducible apply Blk.ret
        | ((with_reducible refine Blk.exitE ?_ ?_); · rfl)
        | ((with_reducible refine Blk.exitN ?_ ?_); · rfl)
        | with_reducible apply Rnd.ret
        | with_reducible apply Rnd.exit
        | with_reducible apply RndI.ret
        | with_reducible apply RndI.exit
        | with_reducible apply ThnI.ret
        | with_reducible apply ThnI.exit
        | with_reducible apply T.skip
        | with_reducible apply T.block
        | with_reducible apply T.ret
        | with_reducible apply T.exit
        | refine T.condT (h := ?_)
        | refine T.condF (h := ?_)
        | refine TL.pass (k := ?_)
        | refine TL.passN (k := ?_)
        | refine TL.take (k := ?_)
        | refine TL.q (h := .assign) (k := ?_)
        | refine TL.q (h := .build) (k := ?_)
        | (refine TL.e (h := .al) (k := ?_); rintro _ _ ⟨_, rfl, rfl⟩)
        | refine TL.u (h := .st) (k := ?_)
        | refine TL.u (h := .stA) (k := ?_)
        | refine TL.q (h := .loadA) (k := ?_)
        | refine TL.q (h := .loadEpA) (k := ?_)
        | (refine TL.e (h := .bs) (k := ?_); rintro _ _ ⟨_, rfl, rfl⟩)
        | refine TL.q (h := .move) (k := ?_)
        | refine TL.q (h := .eqNil) (k := ?_)
        | refine TL.q (h := .lenR) (k := ?_)
        | refine TL.q (h := .lenS) (k := ?_)
        | refine TL.q (h := .pickT) (k := ?_)
        | refine TL.q (h := .pickF) (k := ?_)
        | refine TL.q (h := .indexR) (k := ?_)
        | refine TL.q (h := .load) (k := ?_)
        | refine TL.q (h := .loadEp) (k := ?_)
        | (refine TL.callF (h := book_Within _ _ _ (by omega) (by first | assumption | rfl | omega | (simp at *; omega))) (k := ?_); rintro _ _ ⟨rfl, rfl⟩)
        | refine TL.q (h := .neB) (k := ?_)
        | (refine TL.e (h := .app) (k := ?_); rintro _ _ ⟨_, rfl, rfl⟩)
        | (refine TL.e (h := .appS) (k := ?_); rintro _ _ ⟨_, rfl, rfl⟩)
        | refine TL.q (h := .add) (k := ?_)
        | refine TL.q (h := .catS) (k := ?_)
        | (refine TL.callF (h := known22) (k := ?_); rintro _ _ ⟨rfl, rfl⟩)
        | refine TL.q (h := .binI) (k := ?_)
        | refine TL.q (h := .binS) (k := ?_)
        | refine TL.q (h := .pickB) (k := ?_))
      refine T.condD (ht := fun h12 => ?_) (hf := fun h12 => ?_)
      · have hlt' : i < xs.length := by omega
        obtain ⟨v, hv⟩ : ∃ v, xs[i]? = some v := ⟨_, List.getElem?_eq_getElem hlt'⟩
        have hvx := hx v (List.mem_of_getElem? hv)
        have hc : (xs.map intC)[i]? = some [.int .i64 v] := by simp [hv, intC]
        have hw := within_02 (x := v)
        have hcw : [[Value.int .i64 1], [Value.int .i64 3], [Value.int .i64 4]][(within v 0 2).toNat]? = some [.int .i64 (wop v)] := by
          have : within v 0 2 = 0 ∨ within v 0 2 = 1 ∨ within v 0 2 = 2 := by omega
          unfold wop
          rcases this with e | e | e <;> rw [e] <;> rfl
        repeat (first
          | with_reducible apply T.seq
          | with_reducible apply T.region
          | with_reducible apply TL.nil
          | with_reducible apply Thn.normal
          | with_reducible apply Thn.ret
          | with_reducible apply Thn.exit
          | with_reducible apply Blk.normal
          | with_reducible apply Blk.ret
          | ((with_reducible refine Blk.exitE ?_ ?_); · rfl)
          | ((with_reducible refine Blk.exitN ?_ ?_); · rfl)
          | with_reducible apply Rnd.ret
          | with_reducible apply Rnd.exit
          | with_reducible apply RndI.ret
          | with_reducible apply RndI.exit
          | with_reducible apply ThnI.ret
          | with_reducible apply ThnI.exit
          | with_reducible apply T.skip
          | with_reducible apply T.block
          | with_reducible apply T.ret
          | with_reducible apply T.exit
          | refine T.condT (h := ?_)
          | refine T.condF (h := ?_)
          | refine TL.pass (k := ?_)
          | refine TL.passN (k := ?_)
          | refine TL.take (k := ?_)
          | refine TL.q (h := .assign) (k := ?_)
          | refine TL.q (h := .build) (k := ?_)
          | (refine TL.e (h := .al) (k := ?_); rintro _ _ ⟨_, rfl, rfl⟩)
          | refine TL.u (h := .st) (k := ?_)
          | refine TL.u (h := .stA) (k := ?_)
          | refine TL.q (h := .loadA) (k := ?_)
          | refine TL.q (h := .loadEpA) (k := ?_)
          | (refine TL.e (h := .bs) (k := ?_); rintro _ _ ⟨_, rfl, rfl⟩)
          | refine TL.q (h := .move) (k := ?_)
          | refine TL.q (h := .eqNil) (k := ?_)
          | refine TL.q (h := .lenR) (k := ?_)
          | refine TL.q (h := .lenS) (k := ?_)
          | refine TL.q (h := .pickT) (k := ?_)
          | refine TL.q (h := .pickF) (k := ?_)
          | refine TL.q (h := .indexR) (k := ?_)
          | refine TL.q (h := .load) (k := ?_)
          | refine TL.q (h := .loadEp) (k := ?_)
          | (refine TL.callF (h := book_Within _ _ _ (by omega) (by first | assumption | rfl | omega | (simp at *; omega))) (k := ?_); rintro _ _ ⟨rfl, rfl⟩)
          | refine TL.q (h := .neB) (k := ?_)
          | (refine TL.e (h := .app) (k := ?_); rintro _ _ ⟨_, rfl, rfl⟩)
          | (refine TL.e (h := .appS) (k := ?_); rintro _ _ ⟨_, rfl, rfl⟩)
          | refine TL.q (h := .add) (k := ?_)
          | refine TL.q (h := .catS) (k := ?_)
          | (refine TL.callF (h := known22) (k := ?_); rintro _ _ ⟨rfl, rfl⟩)
          | refine TL.q (h := .binI) (k := ?_)
          | refine TL.q (h := .binS) (k := ?_)
          | refine TL.q (h := .pickB) (k := ?_))
        refine TL.callF (h := agent_Want b (startW ws) sv cb wv true (wop v) 9 1) (k := ?_)
        rintro _ _ ⟨rfl, wv2, rfl⟩
        simp only [agL, List.cons_append, List.nil_append]
        have hE : mayW (wop v) 9 1 = true := by unfold wop; split <;> (try split) <;> rfl
        have hsl : (startW ws).wants.length = ws.length := rfl
        by_cases h8 : i < 8
        · have hE0 : wantE (startW ws) (wop v) 9 1 = 0 := by
            simp only [wantE, hE, hsl, hwl, Bool.not_true, cond_false]
            have : decide (((min 8 i : Nat) : Int) ≥ 8) = false := decide_eq_false (by omega)
            rw [this]; rfl
          have hW : (startW ws).want (wop v) 9 1 = startW (ws ++ [wantOf v]) := by simp only [MAgent.want, hE0]; rfl
          have h8' : (i : Int) < 8 := by omega
          have hws' : ws ++ [wantOf v] = ((xs.take (i + 1)).take 8).map wantOf := by
            rw [hws, List.take_take, List.take_take, Nat.min_eq_right (by omega), Nat.min_eq_right (by omega), List.take_add_one, hv]
            simp
          have hm : (ws.map fun w => [Value.int .i64 w.op]) ++ [[.int .i64 (wop v)]] = (ws ++ [wantOf v]).map fun w => [Value.int .i64 w.op] := by
            rw [List.map_append]; rfl
          rw [hE0, hW]
          repeat' (first
            | with_reducible apply T.seq
            | with_reducible apply T.region
            | with_reducible apply TL.nil
            | with_reducible apply Thn.normal
            | with_reducible apply Thn.ret
            | with_reducible apply Thn.exit
            | with_reducible apply Blk.normal
            | with_reducible apply Blk.ret
            | ((with_reducible refine Blk.exitE ?_ ?_); · rfl)
            | ((with_reducible refine Blk.exitN ?_ ?_); · rfl)
            | with_reducible apply Rnd.ret
            | with_reducible apply Rnd.exit
            | with_reducible apply RndI.ret
            | with_reducible apply RndI.exit
            | with_reducible apply ThnI.ret
            | with_reducible apply ThnI.exit
            | with_reducible apply T.skip
            | with_reducible apply T.block
            | with_reducible apply T.ret
            | with_reducible apply T.exit
            | refine T.condT (h := ?_)
            | refine T.condF (h := ?_)
            | refine TL.pass (k := ?_)
            | refine TL.passN (k := ?_)
            | refine TL.take (k := ?_)
            | refine TL.q (h := .assign) (k := ?_)
            | refine TL.q (h := .build) (k := ?_)
            | (refine TL.e (h := .al) (k := ?_); rintro _ _ ⟨_, rfl, rfl⟩)
            | refine TL.u (h := .st) (k := ?_)
            | refine TL.u (h := .stA) (k := ?_)
            | refine TL.q (h := .loadA) (k := ?_)
            | refine TL.q (h := .loadEpA) (k := ?_)
            | (refine TL.e (h := .bs) (k := ?_); rintro _ _ ⟨_, rfl, rfl⟩)
            | refine TL.q (h := .move) (k := ?_)
            | refine TL.q (h := .eqNil) (k := ?_)
            | refine TL.q (h := .lenR) (k := ?_)
            | refine TL.q (h := .lenS) (k := ?_)
            | refine TL.q (h := .pickT) (k := ?_)
            | refine TL.q (h := .pickF) (k := ?_)
            | refine TL.q (h := .indexR) (k := ?_)
            | refine TL.q (h := .load) (k := ?_)
            | refine TL.q (h := .loadEp) (k := ?_)
            | (refine TL.callF (h := book_Within _ _ _ (by omega) (by first | assumption | rfl | omega | (simp at *; omega))) (k := ?_); rintro _ _ ⟨rfl, rfl⟩)
            | refine TL.q (h := .neB) (k := ?_)
            | (refine TL.e (h := .app) (k := ?_); rintro _ _ ⟨_, rfl, rfl⟩)
            | (refine TL.e (h := .appS) (k := ?_); rintro _ _ ⟨_, rfl, rfl⟩)
            | refine TL.q (h := .add) (k := ?_)
            | refine TL.q (h := .catS) (k := ?_)
            | (refine TL.callF (h := known22) (k := ?_); rintro _ _ ⟨rfl, rfl⟩)
            | refine TL.q (h := .binI) (k := ?_)
            | refine TL.q (h := .binS) (k := ?_)
            | refine TL.q (h := .pickB) (k := ?_)
            | (skip
               all_goals refine TG.start (i := 19) mixed rfl ?_
               all_goals (first
                 | refine TG.q0 0 (ho := rfl) (hv := .yes (h := .move)) (k := ?_)
                 | refine TG.lv 0 (ho := rfl) (hv := .move) (k := ?_))
               all_goals (first
                 | refine TG.qLenR 1 (ho := rfl) (k := ?_)
                 | refine TG.q0 1 (ho := rfl) (hv := .yes (h := .lenS)) (k := ?_)
                 | refine TG.lv 1 (ho := rfl) (hv := .lenR) (k := ?_)
                 | refine TG.lv 1 (ho := rfl) (hv := .lenS) (k := ?_))
               all_goals (first
                 | refine TG.q0 2 (ho := rfl) (hv := .yes (h := .binI)) (k := ?_)
                 | refine TG.lv 2 (ho := rfl) (hv := .binI) (k := ?_))
               all_goals (first
                 | refine TG.q0 3 (ho := rfl) (hv := .yes (h := .move)) (k := ?_)
                 | refine TG.lv 3 (ho := rfl) (hv := .move) (k := ?_))
               all_goals try (first | refine TG.litT 67 (k := ?_) | refine TG.litF 67 (k := ?_) | refine TG.lit 67 (fun _ => ?_) (fun _ => ?_))
               all_goals (first
                 | refine TG.q0 4 (ho := rfl) (hv := .no) (k := ?_)
                 | refine TG.q0 4 (ho := rfl) (hv := .yes (h := .move)) (k := ?_)
                 | refine TG.lv 4 (ho := rfl) (hv := .move) (k := ?_))
               all_goals (first
                 | refine TG.q0 5 (ho := rfl) (hv := .no) (k := ?_)
                 | refine TG.qIndexR 5 (ho := rfl) (h := ?_)
                 | refine TG.lv 5 (ho := rfl) (hv := .indexR) (k := ?_))
               all_goals (first
                 | refine TG.q0 6 (ho := rfl) (hv := .no) (k := ?_)
                 | refine TG.q0 6 (ho := rfl) (hv := .yes (h := .fieldAddr)) (k := ?_)
                 | refine TG.qFieldEp 6 (ho := rfl) (h := ?_)
                 | refine TG.lv 6 (ho := rfl) (hv := .fieldAddr) (k := ?_)
                 | refine TG.lv 6 (ho := rfl) (hv := .fieldEp) (k := ?_))
               all_goals (first
                 | refine TG.q0 7 (ho := rfl) (hv := .no) (k := ?_)
                 | refine TG.q0 7 (ho := rfl) (hv := .yes (h := .fieldAddr)) (k := ?_)
                 | refine TG.qFieldEp 7 (ho := rfl) (h := ?_)
                 | refine TG.lv 7 (ho := rfl) (hv := .fieldAddr) (k := ?_)
                 | refine TG.lv 7 (ho := rfl) (hv := .fieldEp) (k := ?_))
               all_goals (first
                 | refine TG.q0 8 (ho := rfl) (hv := .no) (k := ?_)
                 | refine TG.qLoad 8 (ho := rfl) (k := ?_)
                 | refine TG.qLoadEp 8 (ho := rfl) (h := ?_)
                 | refine TG.lv 8 (ho := rfl) (hv := .load) (k := ?_)
                 | refine TG.lv 8 (ho := rfl) (hv := .loadEp) (k := ?_))
               all_goals (first
                 | refine TG.q0 9 (ho := rfl) (hv := .no) (k := ?_)
                 | refine TG.q0 9 (ho := rfl) (hv := .yes (h := .move)) (k := ?_)
                 | refine TG.lv 9 (ho := rfl) (hv := .move) (k := ?_))
               all_goals (first
                 | refine TG.q0 10 (ho := rfl) (hv := .no) (k := ?_)
                 | refine TG.q0 10 (ho := rfl) (hv := .yes (h := .move)) (k := ?_)
                 | refine TG.lv 10 (ho := rfl) (hv := .move) (k := ?_))
               all_goals (first
                 | refine TG.q0 11 (ho := rfl) (hv := .no) (k := ?_)
                 | refine TG.qIndexR 11 (ho := rfl) (h := ?_)
                 | refine TG.lv 11 (ho := rfl) (hv := .indexR) (k := ?_))
               all_goals (first
                 | refine TG.q0 12 (ho := rfl) (hv := .no) (k := ?_)
                 | refine TG.qLoad 12 (ho := rfl) (k := ?_)
                 | refine TG.qLoadEp 12 (ho := rfl) (h := ?_)
                 | refine TG.lv 12 (ho := rfl) (hv := .load) (k := ?_)
                 | refine TG.lv 12 (ho := rfl) (hv := .loadEp) (k := ?_))
               all_goals (first
                 | refine TG.q0 13 (ho := rfl) (hv := .no) (k := ?_)
                 | refine TG.q0 13 (ho := rfl) (hv := .yes (h := .binI)) (k := ?_)
                 | refine TG.lv 13 (ho := rfl) (hv := .binI) (k := ?_))
               all_goals (first
                 | refine TG.q0 14 (ho := rfl) (hv := .yes (h := .pickT)) (k := ?_)
                 | refine TG.q0 14 (ho := rfl) (hv := .yes (h := .pickF)) (k := ?_)
                 | refine TG.q0 14 (ho := rfl) (hv := .yes (h := .pickB)) (k := ?_)
                 | refine TG.lv 14 (ho := rfl) (hv := .pickT) (k := ?_)
                 | refine TG.lv 14 (ho := rfl) (hv := .pickF) (k := ?_)
                 | refine TG.lv 14 (ho := rfl) (hv := .pickB) (k := ?_))
               all_goals (first
                 | refine TG.q0 15 (ho := rfl) (hv := .yes (h := .move)) (k := ?_)
                 | refine TG.lv 15 (ho := rfl) (hv := .move) (k := ?_))
               all_goals try (first | refine TG.litT 79 (k := ?_) | refine TG.litF 79 (k := ?_) | refine TG.lit 79 (fun _ => ?_) (fun _ => ?_))
               all_goals (first
                 | refine TG.q0 16 (ho := rfl) (hv := .no) (k := ?_)
                 | refine TG.q0 16 (ho := rfl) (hv := .yes (h := .move)) (k := ?_)
                 | refine TG.lv 16 (ho := rfl) (hv := .move) (k := ?_))
               all_goals (first
                 | refine TG.q0 17 (ho := rfl) (hv := .no) (k := ?_)
                 | refine TG.qIndexR 17 (ho := rfl) (h := ?_)
                 | refine TG.lv 17 (ho := rfl) (hv := .indexR) (k := ?_))
               all_goals (first
                 | refine TG.q0 18 (ho := rfl) (hv := .no) (k := ?_)
                 | refine TG.q0 18 (ho := rfl) (hv := .yes (h := .fieldAddr)) (k := ?_)
                 | refine TG.qFieldEp 18 (ho := rfl) (h := ?_)
                 | refine TG.lv 18 (ho := rfl) (hv := .fieldAddr) (k := ?_)
                 | refine TG.lv 18 (ho := rfl) (hv := .fieldEp) (k := ?_))
               all_goals (first
                 | refine TG.q0 19 (ho := rfl) (hv := .no) (k := ?_)
                 | refine TG.q0 19 (ho := rfl) (hv := .yes (h := .fieldAddr)) (k := ?_)
                 | refine TG.qFieldEp 19 (ho := rfl) (h := ?_)
                 | refine TG.lv 19 (ho := rfl) (hv := .fieldAddr) (k := ?_)
                 | refine TG.lv 19 (ho := rfl) (hv := .fieldEp) (k := ?_))
               all_goals (first
                 | refine TG.q0 20 (ho := rfl) (hv := .no) (k := ?_)
                 | refine TG.qLoad 20 (ho := rfl) (k := ?_)
                 | refine TG.qLoadEp 20 (ho := rfl) (h := ?_)
                 | refine TG.lv 20 (ho := rfl) (hv := .load) (k := ?_)
                 | refine TG.lv 20 (ho := rfl) (hv := .loadEp) (k := ?_))
               all_goals (first
                 | refine TG.q0 21 (ho := rfl) (hv := .no) (k := ?_)
                 | refine TG.q0 21 (ho := rfl) (hv := .yes (h := .move)) (k := ?_)
                 | refine TG.lv 21 (ho := rfl) (hv := .move) (k := ?_))
               all_goals (first
                 | refine TG.q0 22 (ho := rfl) (hv := .no) (k := ?_)
                 | refine TG.q0 22 (ho := rfl) (hv := .yes (h := .add)) (k := ?_)
                 | refine TG.q0 22 (ho := rfl) (hv := .yes (h := .binI)) (k := ?_)
                 | refine TG.q0 22 (ho := rfl) (hv := .yes (h := .catS)) (k := ?_)
                 | refine TG.lv 22 (ho := rfl) (hv := .add) (k := ?_)
                 | refine TG.lv 22 (ho := rfl) (hv := .binI) (k := ?_)
                 | refine TG.lv 22 (ho := rfl) (hv := .catS) (k := ?_))
               all_goals (first
                 | refine TG.q0 23 (ho := rfl) (hv := .no) (k := ?_)
                 | refine TG.q0 23 (ho := rfl) (hv := .yes (h := .binI)) (k := ?_)
                 | refine TG.lv 23 (ho := rfl) (hv := .binI) (k := ?_))
               all_goals (first
                 | refine TG.q0 24 (ho := rfl) (hv := .yes (h := .pickT)) (k := ?_)
                 | refine TG.q0 24 (ho := rfl) (hv := .yes (h := .pickF)) (k := ?_)
                 | refine TG.q0 24 (ho := rfl) (hv := .yes (h := .pickB)) (k := ?_)
                 | refine TG.lv 24 (ho := rfl) (hv := .pickT) (k := ?_)
                 | refine TG.lv 24 (ho := rfl) (hv := .pickF) (k := ?_)
                 | refine TG.lv 24 (ho := rfl) (hv := .pickB) (k := ?_))
               all_goals (first
                 | refine TG.q0 25 (ho := rfl) (hv := .yes (h := .move)) (k := ?_)
                 | refine TG.lv 25 (ho := rfl) (hv := .move) (k := ?_))
               all_goals try (first | refine TG.litT 89 (k := ?_) | refine TG.litF 89 (k := ?_) | refine TG.lit 89 (fun _ => ?_) (fun _ => ?_))
               all_goals (first
                 | refine TG.q0 26 (ho := rfl) (hv := .no) (k := ?_)
                 | refine TG.q0 26 (ho := rfl) (hv := .yes (h := .move)) (k := ?_)
                 | refine TG.lv 26 (ho := rfl) (hv := .move) (k := ?_))
               all_goals (first
                 | refine TG.q0 27 (ho := rfl) (hv := .no) (k := ?_)
                 | (refine TG.ld 27 (ho := rfl) (hK := .callF (h := agent_Waits _ st' _ _ _ _)) (k := ?_); rintro _ _ ⟨_, rfl, rfl, rfl⟩; refine ⟨by (repeat (first | exact Held.nil | apply Held.zero | (apply Held.one; (repeat (first | exact Pick.here | apply Pick.there))))), ?_⟩))
               all_goals (first
                 | refine TG.q0 28 (ho := rfl) (hv := .no) (k := ?_)
                 | refine TG.q0 28 (ho := rfl) (hv := .yes (h := .not)) (k := ?_)
                 | refine TG.lv 28 (ho := rfl) (hv := .not) (k := ?_))
               all_goals (first
                 | refine TG.q0 29 (ho := rfl) (hv := .yes (h := .pickT)) (k := ?_)
                 | refine TG.q0 29 (ho := rfl) (hv := .yes (h := .pickF)) (k := ?_)
                 | refine TG.q0 29 (ho := rfl) (hv := .yes (h := .pickB)) (k := ?_)
                 | refine TG.lv 29 (ho := rfl) (hv := .pickT) (k := ?_)
                 | refine TG.lv 29 (ho := rfl) (hv := .pickF) (k := ?_)
                 | refine TG.lv 29 (ho := rfl) (hv := .pickB) (k := ?_))
               all_goals apply TG.fin rfl)
            | (skip
               all_goals refine TG.start (i := 21) mixed rfl ?_
               all_goals (first
                 | refine TG.q0 0 (ho := rfl) (hv := .yes (h := .move)) (k := ?_)
                 | refine TG.lv 0 (ho := rfl) (hv := .move) (k := ?_))
               all_goals (first
                 | refine TG.q0 1 (ho := rfl) (hv := .yes (h := .move)) (k := ?_)
                 | refine TG.lv 1 (ho := rfl) (hv := .move) (k := ?_))
               all_goals (first
                 | refine TG.q0 2 (ho := rfl) (hv := .yes (h := .move)) (k := ?_)
                 | refine TG.lv 2 (ho := rfl) (hv := .move) (k := ?_))
               all_goals (first
                 | refine TG.qIndexR 3 (ho := rfl) (h := ?_)
                 | refine TG.lv 3 (ho := rfl) (hv := .indexR) (k := ?_))
               all_goals (first
                 | refine TG.qLoad 4 (ho := rfl) (k := ?_)
                 | refine TG.qLoadEp 4 (ho := rfl) (h := ?_)
                 | refine TG.lv 4 (ho := rfl) (hv := .load) (k := ?_)
                 | refine TG.lv 4 (ho := rfl) (hv := .loadEp) (k := ?_))
               all_goals (first
                 | refine TG.qLoadA 5 (ho := rfl) (k := ?_)
                 | refine TG.qLoadEpA 5 (ho := rfl) (h := ?_)
                 | refine TG.lv 5 (ho := rfl) (hv := .loadA) (k := ?_)
                 | refine TG.lv 5 (ho := rfl) (hv := .loadEpA) (k := ?_))
               all_goals (first
                 | refine TG.q0 6 (ho := rfl) (hv := .yes (h := .move)) (k := ?_)
                 | refine TG.lv 6 (ho := rfl) (hv := .move) (k := ?_))
               all_goals (first
                 | refine TG.q0 7 (ho := rfl) (hv := .yes (h := .add)) (k := ?_)
                 | refine TG.q0 7 (ho := rfl) (hv := .yes (h := .binI)) (k := ?_)
                 | refine TG.q0 7 (ho := rfl) (hv := .yes (h := .catS)) (k := ?_)
                 | refine TG.lv 7 (ho := rfl) (hv := .add) (k := ?_)
                 | refine TG.lv 7 (ho := rfl) (hv := .binI) (k := ?_)
                 | refine TG.lv 7 (ho := rfl) (hv := .catS) (k := ?_))
               all_goals (first
                 | refine TG.q0 8 (ho := rfl) (hv := .yes (h := .build)) (k := ?_)
                 | refine TG.lv 8 (ho := rfl) (hv := .build) (k := ?_))
               all_goals (first
                 | (refine TG.ld 9 (ho := rfl) (hK := .callF (h := hrc)) (k := ?_); rintro _ _ ⟨_, rfl, rfl, rfl⟩; refine ⟨by (repeat (first | exact Held.nil | apply Held.zero | (apply Held.one; (repeat (first | exact Pick.here | apply Pick.there))))), ?_⟩))
               all_goals (first
                 | refine TG.q0 10 (ho := rfl) (hv := .yes (h := .binI)) (k := ?_)
                 | refine TG.lv 10 (ho := rfl) (hv := .binI) (k := ?_))
               all_goals apply TG.fin rfl)
            | refine TL.gT (k := ?_)
            | refine TL.gF (k := ?_)
            | refine T.cT (h := ?_)
            | refine T.cF (h := ?_)
            | (refine TL.gcase (ht := fun _ => ?_) (hf := fun _ => ?_))
            | refine T.cond (by (simp only [St.ev, slk, Nat.reduceBEq, cond_true, cond_false]; first | done | rfl)) (fun _ => ?_) (fun _ => ?_))
          all_goals first
            | (exfalso; simp at *; omega)
            | (rename_i q1 q2
               rw [hm]
               refine RndI.next (m' := 12 - (i + 1)) (by omega) ⟨i + 1, wv2, q2, ws ++ [wantOf v], rfl, by omega, by omega, hws', rfl, rfl⟩ (by (repeat (first | exact AllIs.nil | refine AllIs.cons (by (simp only [St.ev, slk, Nat.reduceBEq, cond_true, cond_false]; first | done | rfl)) ?_))) (by (repeat (first | exact Picks.nil | (apply Picks.cons; (repeat (first | exact Pick.here | apply Pick.there)))))))
        · have hE0 : wantE (startW ws) (wop v) 9 1 = 24 := by
            simp only [wantE, hE, hsl, hwl, Bool.not_true, cond_false]
            have : decide (((min 8 i : Nat) : Int) ≥ 8) = true := decide_eq_true (by omega)
            rw [this]; rfl
          have hW : (startW ws).want (wop v) 9 1 = startW ws := by simp only [MAgent.want, hE0]; rfl
          have hws' : ws = ((xs.take (i + 1)).take 8).map wantOf := by
            rw [hws, List.take_take, List.take_take, Nat.min_eq_left (by omega), Nat.min_eq_left (by omega)]
          rw [hE0, hW]
          repeat' (first
            | with_reducible apply T.seq
            | with_reducible apply T.region
            | with_reducible apply TL.nil
            | with_reducible apply Thn.normal
            | with_reducible apply Thn.ret
            | with_reducible apply Thn.exit
            | with_reducible apply Blk.normal
            | with_reducible apply Blk.ret
            | ((with_reducible refine Blk.exitE ?_ ?_); · rfl)
            | ((with_reducible refine Blk.exitN ?_ ?_); · rfl)
            | with_reducible apply Rnd.ret
            | with_reducible apply Rnd.exit
            | with_reducible apply RndI.ret
            | with_reducible apply RndI.exit
            | with_reducible apply ThnI.ret
            | with_reducible apply ThnI.exit
            | with_reducible apply T.skip
            | with_reducible apply T.block
            | with_reducible apply T.ret
            | with_reducible apply T.exit
            | refine T.condT (h := ?_)
            | refine T.condF (h := ?_)
            | refine TL.pass (k := ?_)
            | refine TL.passN (k := ?_)
            | refine TL.take (k := ?_)
            | refine TL.q (h := .assign) (k := ?_)
            | refine TL.q (h := .build) (k := ?_)
            | (refine TL.e (h := .al) (k := ?_); rintro _ _ ⟨_, rfl, rfl⟩)
            | refine TL.u (h := .st) (k := ?_)
            | refine TL.u (h := .stA) (k := ?_)
            | refine TL.q (h := .loadA) (k := ?_)
            | refine TL.q (h := .loadEpA) (k := ?_)
            | (refine TL.e (h := .bs) (k := ?_); rintro _ _ ⟨_, rfl, rfl⟩)
            | refine TL.q (h := .move) (k := ?_)
            | refine TL.q (h := .eqNil) (k := ?_)
            | refine TL.q (h := .lenR) (k := ?_)
            | refine TL.q (h := .lenS) (k := ?_)
            | refine TL.q (h := .pickT) (k := ?_)
            | refine TL.q (h := .pickF) (k := ?_)
            | refine TL.q (h := .indexR) (k := ?_)
            | refine TL.q (h := .load) (k := ?_)
            | refine TL.q (h := .loadEp) (k := ?_)
            | (refine TL.callF (h := book_Within _ _ _ (by omega) (by first | assumption | rfl | omega | (simp at *; omega))) (k := ?_); rintro _ _ ⟨rfl, rfl⟩)
            | refine TL.q (h := .neB) (k := ?_)
            | (refine TL.e (h := .app) (k := ?_); rintro _ _ ⟨_, rfl, rfl⟩)
            | (refine TL.e (h := .appS) (k := ?_); rintro _ _ ⟨_, rfl, rfl⟩)
            | refine TL.q (h := .add) (k := ?_)
            | refine TL.q (h := .catS) (k := ?_)
            | (refine TL.callF (h := known22) (k := ?_); rintro _ _ ⟨rfl, rfl⟩)
            | refine TL.q (h := .binI) (k := ?_)
            | refine TL.q (h := .binS) (k := ?_)
            | refine TL.q (h := .pickB) (k := ?_)
            | (skip
               all_goals refine TG.start (i := 19) mixed rfl ?_
               all_goals (first
                 | refine TG.q0 0 (ho := rfl) (hv := .yes (h := .move)) (k := ?_)
                 | refine TG.lv 0 (ho := rfl) (hv := .move) (k := ?_))
               all_goals (first
                 | refine TG.qLenR 1 (ho := rfl) (k := ?_)
                 | refine TG.q0 1 (ho := rfl) (hv := .yes (h := .lenS)) (k := ?_)
                 | refine TG.lv 1 (ho := rfl) (hv := .lenR) (k := ?_)
                 | refine TG.lv 1 (ho := rfl) (hv := .lenS) (k := ?_))
               all_goals (first
                 | refine TG.q0 2 (ho := rfl) (hv := .yes (h := .binI)) (k := ?_)
                 | refine TG.lv 2 (ho := rfl) (hv := .binI) (k := ?_))
               all_goals (first
                 | refine TG.q0 3 (ho := rfl) (hv := .yes (h := .move)) (k := ?_)
                 | refine TG.lv 3 (ho := rfl) (hv := .move) (k := ?_))
               all_goals try (first | refine TG.litT 67 (k := ?_) | refine TG.litF 67 (k := ?_) | refine TG.lit 67 (fun _ => ?_) (fun _ => ?_))
               all_goals (first
                 | refine TG.q0 4 (ho := rfl) (hv := .no) (k := ?_)
                 | refine TG.q0 4 (ho := rfl) (hv := .yes (h := .move)) (k := ?_)
                 | refine TG.lv 4 (ho := rfl) (hv := .move) (k := ?_))
               all_goals (first
                 | refine TG.q0 5 (ho := rfl) (hv := .no) (k := ?_)
                 | refine TG.qIndexR 5 (ho := rfl) (h := ?_)
                 | refine TG.lv 5 (ho := rfl) (hv := .indexR) (k := ?_))
               all_goals (first
                 | refine TG.q0 6 (ho := rfl) (hv := .no) (k := ?_)
                 | refine TG.q0 6 (ho := rfl) (hv := .yes (h := .fieldAddr)) (k := ?_)
                 | refine TG.qFieldEp 6 (ho := rfl) (h := ?_)
                 | refine TG.lv 6 (ho := rfl) (hv := .fieldAddr) (k := ?_)
                 | refine TG.lv 6 (ho := rfl) (hv := .fieldEp) (k := ?_))
               all_goals (first
                 | refine TG.q0 7 (ho := rfl) (hv := .no) (k := ?_)
                 | refine TG.q0 7 (ho := rfl) (hv := .yes (h := .fieldAddr)) (k := ?_)
                 | refine TG.qFieldEp 7 (ho := rfl) (h := ?_)
                 | refine TG.lv 7 (ho := rfl) (hv := .fieldAddr) (k := ?_)
                 | refine TG.lv 7 (ho := rfl) (hv := .fieldEp) (k := ?_))
               all_goals (first
                 | refine TG.q0 8 (ho := rfl) (hv := .no) (k := ?_)
                 | refine TG.qLoad 8 (ho := rfl) (k := ?_)
                 | refine TG.qLoadEp 8 (ho := rfl) (h := ?_)
                 | refine TG.lv 8 (ho := rfl) (hv := .load) (k := ?_)
                 | refine TG.lv 8 (ho := rfl) (hv := .loadEp) (k := ?_))
               all_goals (first
                 | refine TG.q0 9 (ho := rfl) (hv := .no) (k := ?_)
                 | refine TG.q0 9 (ho := rfl) (hv := .yes (h := .move)) (k := ?_)
                 | refine TG.lv 9 (ho := rfl) (hv := .move) (k := ?_))
               all_goals (first
                 | refine TG.q0 10 (ho := rfl) (hv := .no) (k := ?_)
                 | refine TG.q0 10 (ho := rfl) (hv := .yes (h := .move)) (k := ?_)
                 | refine TG.lv 10 (ho := rfl) (hv := .move) (k := ?_))
               all_goals (first
                 | refine TG.q0 11 (ho := rfl) (hv := .no) (k := ?_)
                 | refine TG.qIndexR 11 (ho := rfl) (h := ?_)
                 | refine TG.lv 11 (ho := rfl) (hv := .indexR) (k := ?_))
               all_goals (first
                 | refine TG.q0 12 (ho := rfl) (hv := .no) (k := ?_)
                 | refine TG.qLoad 12 (ho := rfl) (k := ?_)
                 | refine TG.qLoadEp 12 (ho := rfl) (h := ?_)
                 | refine TG.lv 12 (ho := rfl) (hv := .load) (k := ?_)
                 | refine TG.lv 12 (ho := rfl) (hv := .loadEp) (k := ?_))
               all_goals (first
                 | refine TG.q0 13 (ho := rfl) (hv := .no) (k := ?_)
                 | refine TG.q0 13 (ho := rfl) (hv := .yes (h := .binI)) (k := ?_)
                 | refine TG.lv 13 (ho := rfl) (hv := .binI) (k := ?_))
               all_goals (first
                 | refine TG.q0 14 (ho := rfl) (hv := .yes (h := .pickT)) (k := ?_)
                 | refine TG.q0 14 (ho := rfl) (hv := .yes (h := .pickF)) (k := ?_)
                 | refine TG.q0 14 (ho := rfl) (hv := .yes (h := .pickB)) (k := ?_)
                 | refine TG.lv 14 (ho := rfl) (hv := .pickT) (k := ?_)
                 | refine TG.lv 14 (ho := rfl) (hv := .pickF) (k := ?_)
                 | refine TG.lv 14 (ho := rfl) (hv := .pickB) (k := ?_))
               all_goals (first
                 | refine TG.q0 15 (ho := rfl) (hv := .yes (h := .move)) (k := ?_)
                 | refine TG.lv 15 (ho := rfl) (hv := .move) (k := ?_))
               all_goals try (first | refine TG.litT 79 (k := ?_) | refine TG.litF 79 (k := ?_) | refine TG.lit 79 (fun _ => ?_) (fun _ => ?_))
               all_goals (first
                 | refine TG.q0 16 (ho := rfl) (hv := .no) (k := ?_)
                 | refine TG.q0 16 (ho := rfl) (hv := .yes (h := .move)) (k := ?_)
                 | refine TG.lv 16 (ho := rfl) (hv := .move) (k := ?_))
               all_goals (first
                 | refine TG.q0 17 (ho := rfl) (hv := .no) (k := ?_)
                 | refine TG.qIndexR 17 (ho := rfl) (h := ?_)
                 | refine TG.lv 17 (ho := rfl) (hv := .indexR) (k := ?_))
               all_goals (first
                 | refine TG.q0 18 (ho := rfl) (hv := .no) (k := ?_)
                 | refine TG.q0 18 (ho := rfl) (hv := .yes (h := .fieldAddr)) (k := ?_)
                 | refine TG.qFieldEp 18 (ho := rfl) (h := ?_)
                 | refine TG.lv 18 (ho := rfl) (hv := .fieldAddr) (k := ?_)
                 | refine TG.lv 18 (ho := rfl) (hv := .fieldEp) (k := ?_))
               all_goals (first
                 | refine TG.q0 19 (ho := rfl) (hv := .no) (k := ?_)
                 | refine TG.q0 19 (ho := rfl) (hv := .yes (h := .fieldAddr)) (k := ?_)
                 | refine TG.qFieldEp 19 (ho := rfl) (h := ?_)
                 | refine TG.lv 19 (ho := rfl) (hv := .fieldAddr) (k := ?_)
                 | refine TG.lv 19 (ho := rfl) (hv := .fieldEp) (k := ?_))
               all_goals (first
                 | refine TG.q0 20 (ho := rfl) (hv := .no) (k := ?_)
                 | refine TG.qLoad 20 (ho := rfl) (k := ?_)
                 | refine TG.qLoadEp 20 (ho := rfl) (h := ?_)
                 | refine TG.lv 20 (ho := rfl) (hv := .load) (k := ?_)
                 | refine TG.lv 20 (ho := rfl) (hv := .loadEp) (k := ?_))
               all_goals (first
                 | refine TG.q0 21 (ho := rfl) (hv := .no) (k := ?_)
                 | refine TG.q0 21 (ho := rfl) (hv := .yes (h := .move)) (k := ?_)
                 | refine TG.lv 21 (ho := rfl) (hv := .move) (k := ?_))
               all_goals (first
                 | refine TG.q0 22 (ho := rfl) (hv := .no) (k := ?_)
                 | refine TG.q0 22 (ho := rfl) (hv := .yes (h := .add)) (k := ?_)
                 | refine TG.q0 22 (ho := rfl) (hv := .yes (h := .binI)) (k := ?_)
                 | refine TG.q0 22 (ho := rfl) (hv := .yes (h := .catS)) (k := ?_)
                 | refine TG.lv 22 (ho := rfl) (hv := .add) (k := ?_)
                 | refine TG.lv 22 (ho := rfl) (hv := .binI) (k := ?_)
                 | refine TG.lv 22 (ho := rfl) (hv := .catS) (k := ?_))
               all_goals (first
                 | refine TG.q0 23 (ho := rfl) (hv := .no) (k := ?_)
                 | refine TG.q0 23 (ho := rfl) (hv := .yes (h := .binI)) (k := ?_)
                 | refine TG.lv 23 (ho := rfl) (hv := .binI) (k := ?_))
               all_goals (first
                 | refine TG.q0 24 (ho := rfl) (hv := .yes (h := .pickT)) (k := ?_)
                 | refine TG.q0 24 (ho := rfl) (hv := .yes (h := .pickF)) (k := ?_)
                 | refine TG.q0 24 (ho := rfl) (hv := .yes (h := .pickB)) (k := ?_)
                 | refine TG.lv 24 (ho := rfl) (hv := .pickT) (k := ?_)
                 | refine TG.lv 24 (ho := rfl) (hv := .pickF) (k := ?_)
                 | refine TG.lv 24 (ho := rfl) (hv := .pickB) (k := ?_))
               all_goals (first
                 | refine TG.q0 25 (ho := rfl) (hv := .yes (h := .move)) (k := ?_)
                 | refine TG.lv 25 (ho := rfl) (hv := .move) (k := ?_))
               all_goals try (first | refine TG.litT 89 (k := ?_) | refine TG.litF 89 (k := ?_) | refine TG.lit 89 (fun _ => ?_) (fun _ => ?_))
               all_goals (first
                 | refine TG.q0 26 (ho := rfl) (hv := .no) (k := ?_)
                 | refine TG.q0 26 (ho := rfl) (hv := .yes (h := .move)) (k := ?_)
                 | refine TG.lv 26 (ho := rfl) (hv := .move) (k := ?_))
               all_goals (first
                 | refine TG.q0 27 (ho := rfl) (hv := .no) (k := ?_)
                 | (refine TG.ld 27 (ho := rfl) (hK := .callF (h := agent_Waits _ st' _ _ _ _)) (k := ?_); rintro _ _ ⟨_, rfl, rfl, rfl⟩; refine ⟨by (repeat (first | exact Held.nil | apply Held.zero | (apply Held.one; (repeat (first | exact Pick.here | apply Pick.there))))), ?_⟩))
               all_goals (first
                 | refine TG.q0 28 (ho := rfl) (hv := .no) (k := ?_)
                 | refine TG.q0 28 (ho := rfl) (hv := .yes (h := .not)) (k := ?_)
                 | refine TG.lv 28 (ho := rfl) (hv := .not) (k := ?_))
               all_goals (first
                 | refine TG.q0 29 (ho := rfl) (hv := .yes (h := .pickT)) (k := ?_)
                 | refine TG.q0 29 (ho := rfl) (hv := .yes (h := .pickF)) (k := ?_)
                 | refine TG.q0 29 (ho := rfl) (hv := .yes (h := .pickB)) (k := ?_)
                 | refine TG.lv 29 (ho := rfl) (hv := .pickT) (k := ?_)
                 | refine TG.lv 29 (ho := rfl) (hv := .pickF) (k := ?_)
                 | refine TG.lv 29 (ho := rfl) (hv := .pickB) (k := ?_))
               all_goals apply TG.fin rfl)
            | (skip
               all_goals refine TG.start (i := 21) mixed rfl ?_
               all_goals (first
                 | refine TG.q0 0 (ho := rfl) (hv := .yes (h := .move)) (k := ?_)
                 | refine TG.lv 0 (ho := rfl) (hv := .move) (k := ?_))
               all_goals (first
                 | refine TG.q0 1 (ho := rfl) (hv := .yes (h := .move)) (k := ?_)
                 | refine TG.lv 1 (ho := rfl) (hv := .move) (k := ?_))
               all_goals (first
                 | refine TG.q0 2 (ho := rfl) (hv := .yes (h := .move)) (k := ?_)
                 | refine TG.lv 2 (ho := rfl) (hv := .move) (k := ?_))
               all_goals (first
                 | refine TG.qIndexR 3 (ho := rfl) (h := ?_)
                 | refine TG.lv 3 (ho := rfl) (hv := .indexR) (k := ?_))
               all_goals (first
                 | refine TG.qLoad 4 (ho := rfl) (k := ?_)
                 | refine TG.qLoadEp 4 (ho := rfl) (h := ?_)
                 | refine TG.lv 4 (ho := rfl) (hv := .load) (k := ?_)
                 | refine TG.lv 4 (ho := rfl) (hv := .loadEp) (k := ?_))
               all_goals (first
                 | refine TG.qLoadA 5 (ho := rfl) (k := ?_)
                 | refine TG.qLoadEpA 5 (ho := rfl) (h := ?_)
                 | refine TG.lv 5 (ho := rfl) (hv := .loadA) (k := ?_)
                 | refine TG.lv 5 (ho := rfl) (hv := .loadEpA) (k := ?_))
               all_goals (first
                 | refine TG.q0 6 (ho := rfl) (hv := .yes (h := .move)) (k := ?_)
                 | refine TG.lv 6 (ho := rfl) (hv := .move) (k := ?_))
               all_goals (first
                 | refine TG.q0 7 (ho := rfl) (hv := .yes (h := .add)) (k := ?_)
                 | refine TG.q0 7 (ho := rfl) (hv := .yes (h := .binI)) (k := ?_)
                 | refine TG.q0 7 (ho := rfl) (hv := .yes (h := .catS)) (k := ?_)
                 | refine TG.lv 7 (ho := rfl) (hv := .add) (k := ?_)
                 | refine TG.lv 7 (ho := rfl) (hv := .binI) (k := ?_)
                 | refine TG.lv 7 (ho := rfl) (hv := .catS) (k := ?_))
               all_goals (first
                 | refine TG.q0 8 (ho := rfl) (hv := .yes (h := .build)) (k := ?_)
                 | refine TG.lv 8 (ho := rfl) (hv := .build) (k := ?_))
               all_goals (first
                 | (refine TG.ld 9 (ho := rfl) (hK := .callF (h := hrc)) (k := ?_); rintro _ _ ⟨_, rfl, rfl, rfl⟩; refine ⟨by (repeat (first | exact Held.nil | apply Held.zero | (apply Held.one; (repeat (first | exact Pick.here | apply Pick.there))))), ?_⟩))
               all_goals (first
                 | refine TG.q0 10 (ho := rfl) (hv := .yes (h := .binI)) (k := ?_)
                 | refine TG.lv 10 (ho := rfl) (hv := .binI) (k := ?_))
               all_goals apply TG.fin rfl)
            | refine TL.gT (k := ?_)
            | refine TL.gF (k := ?_)
            | refine T.cT (h := ?_)
            | refine T.cF (h := ?_)
            | (refine TL.gcase (ht := fun _ => ?_) (hf := fun _ => ?_))
            | refine T.cond (by (simp only [St.ev, slk, Nat.reduceBEq, cond_true, cond_false]; first | done | rfl)) (fun _ => ?_) (fun _ => ?_))
          all_goals first
            | (exfalso; simp at *; omega)
            | (refine RndI.next (m' := 12 - (i + 1)) (by omega) ⟨i + 1, wv2, pv, ws, rfl, by omega, by omega, hws', rfl, rfl⟩ (by (repeat (first | exact AllIs.nil | refine AllIs.cons (by (simp only [St.ev, slk, Nat.reduceBEq, cond_true, cond_false]; first | done | rfl)) ?_))) (by (repeat (first | exact Picks.nil | (apply Picks.cons; (repeat (first | exact Pick.here | apply Pick.there)))))))
      · skip
        repeat (first
          | with_reducible apply T.seq
          | with_reducible apply T.region
          | with_reducible apply TL.nil
          | with_reducible apply Thn.normal
          | with_reducible apply Thn.ret
          | with_reducible apply Thn.exit
          | with_reducible apply Blk.normal
          | with_reducible apply Blk.ret
          | ((with_reducible refine Blk.exitE ?_ ?_); · rfl)
          | ((with_reducible refine Blk.exitN ?_ ?_); · rfl)
          | with_reducible apply Rnd.ret
          | with_reducible apply Rnd.exit
          | with_reducible apply RndI.ret
          | with_reducible apply RndI.exit
          | with_reducible apply ThnI.ret
          | with_reducible apply ThnI.exit
          | with_reducible apply T.skip
          | with_reducible apply T.block
          | with_reducible apply T.ret
          | with_reducible apply T.exit
          | refine T.condT (h := ?_)
          | refine T.condF (h := ?_)
          | refine TL.pass (k := ?_)
          | refine TL.passN (k := ?_)
          | refine TL.take (k := ?_)
          | refine TL.q (h := .assign) (k := ?_)
          | refine TL.q (h := .build) (k := ?_)
          | (refine TL.e (h := .al) (k := ?_); rintro _ _ ⟨_, rfl, rfl⟩)
          | refine TL.u (h := .st) (k := ?_)
          | refine TL.u (h := .stA) (k := ?_)
          | refine TL.q (h := .loadA) (k := ?_)
          | refine TL.q (h := .loadEpA) (k := ?_)
          | (refine TL.e (h := .bs) (k := ?_); rintro _ _ ⟨_, rfl, rfl⟩)
          | refine TL.q (h := .move) (k := ?_)
          | refine TL.q (h := .eqNil) (k := ?_)
          | refine TL.q (h := .lenR) (k := ?_)
          | refine TL.q (h := .lenS) (k := ?_)
          | refine TL.q (h := .pickT) (k := ?_)
          | refine TL.q (h := .pickF) (k := ?_)
          | refine TL.q (h := .indexR) (k := ?_)
          | refine TL.q (h := .load) (k := ?_)
          | refine TL.q (h := .loadEp) (k := ?_)
          | (refine TL.callF (h := book_Within _ _ _ (by omega) (by first | assumption | rfl | omega | (simp at *; omega))) (k := ?_); rintro _ _ ⟨rfl, rfl⟩)
          | refine TL.q (h := .neB) (k := ?_)
          | (refine TL.e (h := .app) (k := ?_); rintro _ _ ⟨_, rfl, rfl⟩)
          | (refine TL.e (h := .appS) (k := ?_); rintro _ _ ⟨_, rfl, rfl⟩)
          | refine TL.q (h := .add) (k := ?_)
          | refine TL.q (h := .catS) (k := ?_)
          | (refine TL.callF (h := known22) (k := ?_); rintro _ _ ⟨rfl, rfl⟩)
          | refine TL.q (h := .binI) (k := ?_)
          | refine TL.q (h := .binS) (k := ?_)
          | refine TL.q (h := .pickB) (k := ?_))
        have : ((xs.take i).take 8) = ((xs.take 12).take 8) := by
          have : i = 12 := by omega
          rw [this]
        refine ThnI.done ⟨wv, pv, ws, by rw [hws, this], rfl, rfl⟩ (by (repeat (first | exact AllIs.nil | refine AllIs.cons (by (simp only [St.ev, slk, Nat.reduceBEq, cond_true, cond_false]; first | done | rfl)) ?_))) (by (repeat (first | exact Picks.nil | (apply Picks.cons; (repeat (first | exact Pick.here | apply Pick.there))))))
    · skip
      repeat (first
        | with_reducible apply T.seq
        | with_reducible apply T.region
        | with_reducible apply TL.nil
        | with_reducible apply Thn.normal
        | with_reducible apply Thn.ret
        | with_reducible apply Thn.exit
        | with_reducible apply Blk.normal
        | with_reducible apply Blk.ret
        | ((with_reducible refine Blk.exitE ?_ ?_); · rfl)
        | ((with_reducible refine Blk.exitN ?_ ?_); · rfl)
        | with_reducible apply Rnd.ret
        | with_reducible apply Rnd.exit
        | with_reducible apply RndI.ret
        | with_reducible apply RndI.exit
        | with_reducible apply ThnI.ret
        | with_reducible apply ThnI.exit
        | with_reducible apply T.skip
        | with_reducible apply T.block
        | with_reducible apply T.ret
        | with_reducible apply T.exit
        | refine T.condT (h := ?_)
        | refine T.condF (h := ?_)
        | refine TL.pass (k := ?_)
        | refine TL.passN (k := ?_)
        | refine TL.take (k := ?_)
        | refine TL.q (h := .assign) (k := ?_)
        | refine TL.q (h := .build) (k := ?_)
        | (refine TL.e (h := .al) (k := ?_); rintro _ _ ⟨_, rfl, rfl⟩)
        | refine TL.u (h := .st) (k := ?_)
        | refine TL.u (h := .stA) (k := ?_)
        | refine TL.q (h := .loadA) (k := ?_)
        | refine TL.q (h := .loadEpA) (k := ?_)
        | (refine TL.e (h := .bs) (k := ?_); rintro _ _ ⟨_, rfl, rfl⟩)
        | refine TL.q (h := .move) (k := ?_)
        | refine TL.q (h := .eqNil) (k := ?_)
        | refine TL.q (h := .lenR) (k := ?_)
        | refine TL.q (h := .lenS) (k := ?_)
        | refine TL.q (h := .pickT) (k := ?_)
        | refine TL.q (h := .pickF) (k := ?_)
        | refine TL.q (h := .indexR) (k := ?_)
        | refine TL.q (h := .load) (k := ?_)
        | refine TL.q (h := .loadEp) (k := ?_)
        | (refine TL.callF (h := book_Within _ _ _ (by omega) (by first | assumption | rfl | omega | (simp at *; omega))) (k := ?_); rintro _ _ ⟨rfl, rfl⟩)
        | refine TL.q (h := .neB) (k := ?_)
        | (refine TL.e (h := .app) (k := ?_); rintro _ _ ⟨_, rfl, rfl⟩)
        | (refine TL.e (h := .appS) (k := ?_); rintro _ _ ⟨_, rfl, rfl⟩)
        | refine TL.q (h := .add) (k := ?_)
        | refine TL.q (h := .catS) (k := ?_)
        | (refine TL.callF (h := known22) (k := ?_); rintro _ _ ⟨rfl, rfl⟩)
        | refine TL.q (h := .binI) (k := ?_)
        | refine TL.q (h := .binS) (k := ?_)
        | refine TL.q (h := .pickB) (k := ?_))
      have : ((xs.take i).take 8) = ((xs.take 12).take 8) := by
        have e : i = xs.length := by omega
        rw [e, List.take_length]
        have : xs.take 12 = xs := List.take_of_length_le (by omega)
        rw [this]
      refine ThnI.done ⟨wv, pv, ws, by rw [hws, this], rfl, rfl⟩ (by (repeat (first | exact AllIs.nil | refine AllIs.cons (by (simp only [St.ev, slk, Nat.reduceBEq, cond_true, cond_false]; first | done | rfl)) ?_))) (by (repeat (first | exact Picks.nil | (apply Picks.cons; (repeat (first | exact Pick.here | apply Pick.there))))))
  · rintro l A j ⟨wv, pv, ws, hws, rfl, rfl⟩
    have hwl : ws.length ≤ 8 := by rw [hws]; simp; omega
    have hcl : (ws.map fun w => [Value.int .i64 w.op]).length = ws.length := by simp
    simp only [agL, List.cons_append, List.nil_append]
    repeat (first
      | with_reducible apply T.seq
      | with_reducible apply T.region
      | with_reducible apply TL.nil
      | with_reducible apply Thn.normal
      | with_reducible apply Thn.ret
      | with_reducible apply Thn.exit
      | with_reducible apply Blk.normal
      | with_reducible apply Blk.ret
      | ((with_reducible refine Blk.exitE ?_ ?_); · rfl)
      | ((with_reducible refine Blk.exitN ?_ ?_); · rfl)
      | with_reducible apply Rnd.ret
      | with_reducible apply Rnd.exit
      | with_reducible apply RndI.ret
      | with_reducible apply RndI.exit
      | with_reducible apply ThnI.ret
      | with_reducible apply ThnI.exit
      | with_reducible apply T.skip
      | with_reducible apply T.block
      | with_reducible apply T.ret
      | with_reducible apply T.exit
      | refine T.condT (h := ?_)
      | refine T.condF (h := ?_)
      | refine TL.pass (k := ?_)
      | refine TL.passN (k := ?_)
      | refine TL.take (k := ?_)
      | refine TL.q (h := .assign) (k := ?_)
      | refine TL.q (h := .build) (k := ?_)
      | (refine TL.e (h := .al) (k := ?_); rintro _ _ ⟨_, rfl, rfl⟩)
      | refine TL.u (h := .st) (k := ?_)
      | refine TL.u (h := .stA) (k := ?_)
      | refine TL.q (h := .loadA) (k := ?_)
      | refine TL.q (h := .loadEpA) (k := ?_)
      | (refine TL.e (h := .bs) (k := ?_); rintro _ _ ⟨_, rfl, rfl⟩)
      | refine TL.q (h := .move) (k := ?_)
      | refine TL.q (h := .eqNil) (k := ?_)
      | refine TL.q (h := .lenR) (k := ?_)
      | refine TL.q (h := .lenS) (k := ?_)
      | refine TL.q (h := .pickT) (k := ?_)
      | refine TL.q (h := .pickF) (k := ?_)
      | refine TL.q (h := .indexR) (k := ?_)
      | refine TL.q (h := .load) (k := ?_)
      | refine TL.q (h := .loadEp) (k := ?_)
      | (refine TL.callF (h := book_Within _ _ _ (by omega) (by first | assumption | rfl | omega | (simp at *; omega))) (k := ?_); rintro _ _ ⟨rfl, rfl⟩)
      | refine TL.q (h := .neB) (k := ?_)
      | (refine TL.e (h := .app) (k := ?_); rintro _ _ ⟨_, rfl, rfl⟩)
      | (refine TL.e (h := .appS) (k := ?_); rintro _ _ ⟨_, rfl, rfl⟩)
      | refine TL.q (h := .add) (k := ?_)
      | refine TL.q (h := .catS) (k := ?_)
      | (refine TL.callF (h := known22) (k := ?_); rintro _ _ ⟨rfl, rfl⟩)
      | refine TL.q (h := .binI) (k := ?_)
      | refine TL.q (h := .binS) (k := ?_)
      | refine TL.q (h := .pickB) (k := ?_))
    refine T.loopI (fun q l A => ∃ (i : Nat) (wv : Sl) (st : MAgent), q = ws.length - i ∧ i ≤ ws.length ∧ WI ws i st ∧
      l = [(59, .int .i64 i), (58, .int .i64 (ws.map fun w => [Value.int .i64 w.op]).length), (5, pv.v), (4, .pointer (some ⟨b, 0, none⟩)), (3, .pointer (some ⟨bk, 0, none⟩)), (2, .bool false)] ∧
      A = agL b st sv cb wv true ++ [cel true bk 31 [.string ⟨#[97]⟩, .string ⟨#[98]⟩], row m 3 1 x.v (xs.map intC), row true 3 1 pv.v (ws.map fun w => [.int .i64 w.op]), F]) ⟨0, wv, startW ws, rfl, by omega, ?_, rfl, rfl⟩ (by (repeat (first | exact AllIs.nil | refine AllIs.cons (by (simp only [St.ev, slk, Nat.reduceBEq, cond_true, cond_false]; first | done | rfl)) ?_))) (by (repeat (first | exact Picks.nil | (apply Picks.cons; (repeat (first | exact Pick.here | apply Pick.there)))))) ?_
    · have hz : (0 : Int) ≤ 0 ∧ (0 : Int) ≤ 0 := by decide
      exact ⟨⟨(by decide : (0 : Int) ≤ 0 ∧ (0 : Int) ≤ 1000000000000), hz, hz, Nat.le_trans hwl (by decide), (by decide : 0 < 1), (by decide : 1 ≤ 100), hz, hz⟩, rfl, rfl, rfl, rfl, rfl, rfl, rfl, rfl⟩
    rintro q l A j ⟨i, wv, st, rfl, hi, hst, rfl, rfl⟩
    simp only [agL, List.cons_append, List.nil_append]
    repeat (first
      | with_reducible apply T.seq
      | with_reducible apply T.region
      | with_reducible apply TL.nil
      | with_reducible apply Thn.normal
      | with_reducible apply Thn.ret
      | with_reducible apply Thn.exit
      | with_reducible apply Blk.normal
      | with_reducible apply Blk.ret
      | ((with_reducible refine Blk.exitE ?_ ?_); · rfl)
      | ((with_reducible refine Blk.exitN ?_ ?_); · rfl)
      | with_reducible apply Rnd.ret
      | with_reducible apply Rnd.exit
      | with_reducible apply RndI.ret
      | with_reducible apply RndI.exit
      | with_reducible apply ThnI.ret
      | with_reducible apply ThnI.exit
      | with_reducible apply T.skip
      | with_reducible apply T.block
      | with_reducible apply T.ret
      | with_reducible apply T.exit
      | refine T.condT (h := ?_)
      | refine T.condF (h := ?_)
      | refine TL.pass (k := ?_)
      | refine TL.passN (k := ?_)
      | refine TL.take (k := ?_)
      | refine TL.q (h := .assign) (k := ?_)
      | refine TL.q (h := .build) (k := ?_)
      | (refine TL.e (h := .al) (k := ?_); rintro _ _ ⟨_, rfl, rfl⟩)
      | refine TL.u (h := .st) (k := ?_)
      | refine TL.u (h := .stA) (k := ?_)
      | refine TL.q (h := .loadA) (k := ?_)
      | refine TL.q (h := .loadEpA) (k := ?_)
      | (refine TL.e (h := .bs) (k := ?_); rintro _ _ ⟨_, rfl, rfl⟩)
      | refine TL.q (h := .move) (k := ?_)
      | refine TL.q (h := .eqNil) (k := ?_)
      | refine TL.q (h := .lenR) (k := ?_)
      | refine TL.q (h := .lenS) (k := ?_)
      | refine TL.q (h := .pickT) (k := ?_)
      | refine TL.q (h := .pickF) (k := ?_)
      | refine TL.q (h := .indexR) (k := ?_)
      | refine TL.q (h := .load) (k := ?_)
      | refine TL.q (h := .loadEp) (k := ?_)
      | (refine TL.callF (h := book_Within _ _ _ (by omega) (by first | assumption | rfl | omega | (simp at *; omega))) (k := ?_); rintro _ _ ⟨rfl, rfl⟩)
      | refine TL.q (h := .neB) (k := ?_)
      | (refine TL.e (h := .app) (k := ?_); rintro _ _ ⟨_, rfl, rfl⟩)
      | (refine TL.e (h := .appS) (k := ?_); rintro _ _ ⟨_, rfl, rfl⟩)
      | refine TL.q (h := .add) (k := ?_)
      | refine TL.q (h := .catS) (k := ?_)
      | (refine TL.callF (h := known22) (k := ?_); rintro _ _ ⟨rfl, rfl⟩)
      | refine TL.q (h := .binI) (k := ?_)
      | refine TL.q (h := .binS) (k := ?_)
      | refine TL.q (h := .pickB) (k := ?_))
    refine T.condD (ht := fun hlt => ?_) (hf := fun hlt => ?_)
    · have hlt' : i < ws.length := by omega
      obtain ⟨w, hw⟩ : ∃ w, ws[i]? = some w := ⟨_, List.getElem?_eq_getElem hlt'⟩
      have hop : w.op = 1 ∨ w.op = 3 ∨ w.op = 4 := by
        have hm := List.mem_of_getElem? hw
        rw [hws] at hm
        obtain ⟨v, _, rfl⟩ := List.mem_map.1 hm
        show wop v = 1 ∨ wop v = 3 ∨ wop v = 4
        unfold wop
        split
        · exact .inl rfl
        · split
          · exact .inr (.inl rfl)
          · exact .inr (.inr rfl)
      obtain ⟨mm, st', ht, ho, htag, hwt, hsx, hrv, hst'⟩ := wants_step hst hw hop (by omega)
      have hnw := hst.now
      have hc : (ws.map fun w => [Value.int .i64 w.op])[i]? = some [.int .i64 w.op] := by simp [hw]
      repeat (first
        | with_reducible apply T.seq
        | with_reducible apply T.region
        | with_reducible apply TL.nil
        | with_reducible apply Thn.normal
        | with_reducible apply Thn.ret
        | with_reducible apply Thn.exit
        | with_reducible apply Blk.normal
        | with_reducible apply Blk.ret
        | ((with_reducible refine Blk.exitE ?_ ?_); · rfl)
        | ((with_reducible refine Blk.exitN ?_ ?_); · rfl)
        | with_reducible apply Rnd.ret
        | with_reducible apply Rnd.exit
        | with_reducible apply RndI.ret
        | with_reducible apply RndI.exit
        | with_reducible apply ThnI.ret
        | with_reducible apply ThnI.exit
        | with_reducible apply T.skip
        | with_reducible apply T.block
        | with_reducible apply T.ret
        | with_reducible apply T.exit
        | refine T.condT (h := ?_)
        | refine T.condF (h := ?_)
        | refine TL.pass (k := ?_)
        | refine TL.passN (k := ?_)
        | refine TL.take (k := ?_)
        | refine TL.q (h := .assign) (k := ?_)
        | refine TL.q (h := .build) (k := ?_)
        | (refine TL.e (h := .al) (k := ?_); rintro _ _ ⟨_, rfl, rfl⟩)
        | refine TL.u (h := .st) (k := ?_)
        | refine TL.u (h := .stA) (k := ?_)
        | refine TL.q (h := .loadA) (k := ?_)
        | refine TL.q (h := .loadEpA) (k := ?_)
        | (refine TL.e (h := .bs) (k := ?_); rintro _ _ ⟨_, rfl, rfl⟩)
        | refine TL.q (h := .move) (k := ?_)
        | refine TL.q (h := .eqNil) (k := ?_)
        | refine TL.q (h := .lenR) (k := ?_)
        | refine TL.q (h := .lenS) (k := ?_)
        | refine TL.q (h := .pickT) (k := ?_)
        | refine TL.q (h := .pickF) (k := ?_)
        | refine TL.q (h := .indexR) (k := ?_)
        | refine TL.q (h := .load) (k := ?_)
        | refine TL.q (h := .loadEp) (k := ?_)
        | (refine TL.callF (h := book_Within _ _ _ (by omega) (by first | assumption | rfl | omega | (simp at *; omega))) (k := ?_); rintro _ _ ⟨rfl, rfl⟩)
        | refine TL.q (h := .neB) (k := ?_)
        | (refine TL.e (h := .app) (k := ?_); rintro _ _ ⟨_, rfl, rfl⟩)
        | (refine TL.e (h := .appS) (k := ?_); rintro _ _ ⟨_, rfl, rfl⟩)
        | refine TL.q (h := .add) (k := ?_)
        | refine TL.q (h := .catS) (k := ?_)
        | (refine TL.callF (h := known22) (k := ?_); rintro _ _ ⟨rfl, rfl⟩)
        | refine TL.q (h := .binI) (k := ?_)
        | refine TL.q (h := .binS) (k := ?_)
        | refine TL.q (h := .pickB) (k := ?_))
      refine TL.callF (h := agent_Tick b st sv cb wv true 1 1 rfl hst.ok (by omega)) (k := ?_)
      rintro _ _ ⟨ov, wv3, rfl, rfl⟩
      rw [ht]
      simp only [List.map_cons, List.map_nil]
      have hc0 : [sentC (mm, 0)][0]? = some (sentC (mm, 0)) := rfl
      simp only [agL, List.cons_append, List.nil_append]
      repeat (first
        | with_reducible apply T.seq
        | with_reducible apply T.region
        | with_reducible apply TL.nil
        | with_reducible apply Thn.normal
        | with_reducible apply Thn.ret
        | with_reducible apply Thn.exit
        | with_reducible apply Blk.normal
        | with_reducible apply Blk.ret
        | ((with_reducible refine Blk.exitE ?_ ?_); · rfl)
        | ((with_reducible refine Blk.exitN ?_ ?_); · rfl)
        | with_reducible apply Rnd.ret
        | with_reducible apply Rnd.exit
        | with_reducible apply RndI.ret
        | with_reducible apply RndI.exit
        | with_reducible apply ThnI.ret
        | with_reducible apply ThnI.exit
        | with_reducible apply T.skip
        | with_reducible apply T.block
        | with_reducible apply T.ret
        | with_reducible apply T.exit
        | refine T.condT (h := ?_)
        | refine T.condF (h := ?_)
        | refine TL.pass (k := ?_)
        | refine TL.passN (k := ?_)
        | refine TL.take (k := ?_)
        | refine TL.q (h := .assign) (k := ?_)
        | refine TL.q (h := .build) (k := ?_)
        | (refine TL.e (h := .al) (k := ?_); rintro _ _ ⟨_, rfl, rfl⟩)
        | refine TL.u (h := .st) (k := ?_)
        | refine TL.u (h := .stA) (k := ?_)
        | refine TL.q (h := .loadA) (k := ?_)
        | refine TL.q (h := .loadEpA) (k := ?_)
        | (refine TL.e (h := .bs) (k := ?_); rintro _ _ ⟨_, rfl, rfl⟩)
        | refine TL.q (h := .move) (k := ?_)
        | refine TL.q (h := .eqNil) (k := ?_)
        | refine TL.q (h := .lenR) (k := ?_)
        | refine TL.q (h := .lenS) (k := ?_)
        | refine TL.q (h := .pickT) (k := ?_)
        | refine TL.q (h := .pickF) (k := ?_)
        | refine TL.q (h := .indexR) (k := ?_)
        | refine TL.q (h := .load) (k := ?_)
        | refine TL.q (h := .loadEp) (k := ?_)
        | (refine TL.callF (h := book_Within _ _ _ (by omega) (by first | assumption | rfl | omega | (simp at *; omega))) (k := ?_); rintro _ _ ⟨rfl, rfl⟩)
        | refine TL.q (h := .neB) (k := ?_)
        | (refine TL.e (h := .app) (k := ?_); rintro _ _ ⟨_, rfl, rfl⟩)
        | (refine TL.e (h := .appS) (k := ?_); rintro _ _ ⟨_, rfl, rfl⟩)
        | refine TL.q (h := .add) (k := ?_)
        | refine TL.q (h := .catS) (k := ?_)
        | (refine TL.callF (h := known22) (k := ?_); rintro _ _ ⟨rfl, rfl⟩)
        | refine TL.q (h := .binI) (k := ?_)
        | refine TL.q (h := .binS) (k := ?_)
        | refine TL.q (h := .pickB) (k := ?_))
      have f0 : (([sentC (mm, 0)].length : Int) != 1) = false := rfl
      have f1 : (mm.op != w.op) = false := by rw [ho]; simp
      have f2 : (mm.tag != (i : Int) + 1) = false := by rw [htag]; simp
      have f3 : (!st'.waits) = false := by rw [hwt]; rfl
      have h5 : ((ansW w.op (i + 1)).op == 5) = false := by show (w.op == 5) = false; rcases hop with e | e | e <;> rw [e] <;> rfl
      have hrc := (agent_Receive b st' sv cb wv3 true 0 (ansW w.op (i + 1)) 0 hsx rfl h5).mono (post' := fun v L => v = .int .i64 0 ∧ L = agL b (st'.recv (ansW w.op (i + 1))) sv cb wv3 true) (fun v L h => by
        rcases h with ⟨_, h⟩ | ⟨h, _⟩
        · exact h
        · rw [hrv] at h; cases h)
      simp only [MMsg.V, MMsg.C, ansW, agL, agC, kA, kB] at hrc
      all_goals refine TG.start (i := 19) mixed rfl ?_
      all_goals (first
        | refine TG.q0 0 (ho := rfl) (hv := .yes (h := .move)) (k := ?_)
        | refine TG.lv 0 (ho := rfl) (hv := .move) (k := ?_))
      all_goals (first
        | refine TG.qLenR 1 (ho := rfl) (k := ?_)
        | refine TG.q0 1 (ho := rfl) (hv := .yes (h := .lenS)) (k := ?_)
        | refine TG.lv 1 (ho := rfl) (hv := .lenR) (k := ?_)
        | refine TG.lv 1 (ho := rfl) (hv := .lenS) (k := ?_))
      all_goals (first
        | refine TG.q0 2 (ho := rfl) (hv := .yes (h := .binI)) (k := ?_)
        | refine TG.lv 2 (ho := rfl) (hv := .binI) (k := ?_))
      all_goals (first
        | refine TG.q0 3 (ho := rfl) (hv := .yes (h := .move)) (k := ?_)
        | refine TG.lv 3 (ho := rfl) (hv := .move) (k := ?_))
      all_goals try (first | refine TG.litT 67 (k := ?_) | refine TG.litF 67 (k := ?_) | refine TG.lit 67 (fun _ => ?_) (fun _ => ?_))
      all_goals (first
        | refine TG.q0 4 (ho := rfl) (hv := .no) (k := ?_)
        | refine TG.q0 4 (ho := rfl) (hv := .yes (h := .move)) (k := ?_)
        | refine TG.lv 4 (ho := rfl) (hv := .move) (k := ?_))
      all_goals (first
        | refine TG.q0 5 (ho := rfl) (hv := .no) (k := ?_)
        | refine TG.qIndexR 5 (ho := rfl) (h := ?_)
        | refine TG.lv 5 (ho := rfl) (hv := .indexR) (k := ?_))
      all_goals (first
        | refine TG.q0 6 (ho := rfl) (hv := .no) (k := ?_)
        | refine TG.q0 6 (ho := rfl) (hv := .yes (h := .fieldAddr)) (k := ?_)
        | refine TG.qFieldEp 6 (ho := rfl) (h := ?_)
        | refine TG.lv 6 (ho := rfl) (hv := .fieldAddr) (k := ?_)
        | refine TG.lv 6 (ho := rfl) (hv := .fieldEp) (k := ?_))
      all_goals (first
        | refine TG.q0 7 (ho := rfl) (hv := .no) (k := ?_)
        | refine TG.q0 7 (ho := rfl) (hv := .yes (h := .fieldAddr)) (k := ?_)
        | refine TG.qFieldEp 7 (ho := rfl) (h := ?_)
        | refine TG.lv 7 (ho := rfl) (hv := .fieldAddr) (k := ?_)
        | refine TG.lv 7 (ho := rfl) (hv := .fieldEp) (k := ?_))
      all_goals (first
        | refine TG.q0 8 (ho := rfl) (hv := .no) (k := ?_)
        | refine TG.qLoad 8 (ho := rfl) (k := ?_)
        | refine TG.qLoadEp 8 (ho := rfl) (h := ?_)
        | refine TG.lv 8 (ho := rfl) (hv := .load) (k := ?_)
        | refine TG.lv 8 (ho := rfl) (hv := .loadEp) (k := ?_))
      all_goals (first
        | refine TG.q0 9 (ho := rfl) (hv := .no) (k := ?_)
        | refine TG.q0 9 (ho := rfl) (hv := .yes (h := .move)) (k := ?_)
        | refine TG.lv 9 (ho := rfl) (hv := .move) (k := ?_))
      all_goals (first
        | refine TG.q0 10 (ho := rfl) (hv := .no) (k := ?_)
        | refine TG.q0 10 (ho := rfl) (hv := .yes (h := .move)) (k := ?_)
        | refine TG.lv 10 (ho := rfl) (hv := .move) (k := ?_))
      all_goals (first
        | refine TG.q0 11 (ho := rfl) (hv := .no) (k := ?_)
        | refine TG.qIndexR 11 (ho := rfl) (h := ?_)
        | refine TG.lv 11 (ho := rfl) (hv := .indexR) (k := ?_))
      all_goals (first
        | refine TG.q0 12 (ho := rfl) (hv := .no) (k := ?_)
        | refine TG.qLoad 12 (ho := rfl) (k := ?_)
        | refine TG.qLoadEp 12 (ho := rfl) (h := ?_)
        | refine TG.lv 12 (ho := rfl) (hv := .load) (k := ?_)
        | refine TG.lv 12 (ho := rfl) (hv := .loadEp) (k := ?_))
      all_goals (first
        | refine TG.q0 13 (ho := rfl) (hv := .no) (k := ?_)
        | refine TG.q0 13 (ho := rfl) (hv := .yes (h := .binI)) (k := ?_)
        | refine TG.lv 13 (ho := rfl) (hv := .binI) (k := ?_))
      all_goals (first
        | refine TG.q0 14 (ho := rfl) (hv := .yes (h := .pickT)) (k := ?_)
        | refine TG.q0 14 (ho := rfl) (hv := .yes (h := .pickF)) (k := ?_)
        | refine TG.q0 14 (ho := rfl) (hv := .yes (h := .pickB)) (k := ?_)
        | refine TG.lv 14 (ho := rfl) (hv := .pickT) (k := ?_)
        | refine TG.lv 14 (ho := rfl) (hv := .pickF) (k := ?_)
        | refine TG.lv 14 (ho := rfl) (hv := .pickB) (k := ?_))
      all_goals (first
        | refine TG.q0 15 (ho := rfl) (hv := .yes (h := .move)) (k := ?_)
        | refine TG.lv 15 (ho := rfl) (hv := .move) (k := ?_))
      all_goals try (first | refine TG.litT 79 (k := ?_) | refine TG.litF 79 (k := ?_) | refine TG.lit 79 (fun _ => ?_) (fun _ => ?_))
      all_goals (first
        | refine TG.q0 16 (ho := rfl) (hv := .no) (k := ?_)
        | refine TG.q0 16 (ho := rfl) (hv := .yes (h := .move)) (k := ?_)
        | refine TG.lv 16 (ho := rfl) (hv := .move) (k := ?_))
      all_goals (first
        | refine TG.q0 17 (ho := rfl) (hv := .no) (k := ?_)
        | refine TG.qIndexR 17 (ho := rfl) (h := ?_)
        | refine TG.lv 17 (ho := rfl) (hv := .indexR) (k := ?_))
      all_goals (first
        | refine TG.q0 18 (ho := rfl) (hv := .no) (k := ?_)
        | refine TG.q0 18 (ho := rfl) (hv := .yes (h := .fieldAddr)) (k := ?_)
        | refine TG.qFieldEp 18 (ho := rfl) (h := ?_)
        | refine TG.lv 18 (ho := rfl) (hv := .fieldAddr) (k := ?_)
        | refine TG.lv 18 (ho := rfl) (hv := .fieldEp) (k := ?_))
      all_goals (first
        | refine TG.q0 19 (ho := rfl) (hv := .no) (k := ?_)
        | refine TG.q0 19 (ho := rfl) (hv := .yes (h := .fieldAddr)) (k := ?_)
        | refine TG.qFieldEp 19 (ho := rfl) (h := ?_)
        | refine TG.lv 19 (ho := rfl) (hv := .fieldAddr) (k := ?_)
        | refine TG.lv 19 (ho := rfl) (hv := .fieldEp) (k := ?_))
      all_goals (first
        | refine TG.q0 20 (ho := rfl) (hv := .no) (k := ?_)
        | refine TG.qLoad 20 (ho := rfl) (k := ?_)
        | refine TG.qLoadEp 20 (ho := rfl) (h := ?_)
        | refine TG.lv 20 (ho := rfl) (hv := .load) (k := ?_)
        | refine TG.lv 20 (ho := rfl) (hv := .loadEp) (k := ?_))
      all_goals (first
        | refine TG.q0 21 (ho := rfl) (hv := .no) (k := ?_)
        | refine TG.q0 21 (ho := rfl) (hv := .yes (h := .move)) (k := ?_)
        | refine TG.lv 21 (ho := rfl) (hv := .move) (k := ?_))
      all_goals (first
        | refine TG.q0 22 (ho := rfl) (hv := .no) (k := ?_)
        | refine TG.q0 22 (ho := rfl) (hv := .yes (h := .add)) (k := ?_)
        | refine TG.q0 22 (ho := rfl) (hv := .yes (h := .binI)) (k := ?_)
        | refine TG.q0 22 (ho := rfl) (hv := .yes (h := .catS)) (k := ?_)
        | refine TG.lv 22 (ho := rfl) (hv := .add) (k := ?_)
        | refine TG.lv 22 (ho := rfl) (hv := .binI) (k := ?_)
        | refine TG.lv 22 (ho := rfl) (hv := .catS) (k := ?_))
      all_goals (first
        | refine TG.q0 23 (ho := rfl) (hv := .no) (k := ?_)
        | refine TG.q0 23 (ho := rfl) (hv := .yes (h := .binI)) (k := ?_)
        | refine TG.lv 23 (ho := rfl) (hv := .binI) (k := ?_))
      all_goals (first
        | refine TG.q0 24 (ho := rfl) (hv := .yes (h := .pickT)) (k := ?_)
        | refine TG.q0 24 (ho := rfl) (hv := .yes (h := .pickF)) (k := ?_)
        | refine TG.q0 24 (ho := rfl) (hv := .yes (h := .pickB)) (k := ?_)
        | refine TG.lv 24 (ho := rfl) (hv := .pickT) (k := ?_)
        | refine TG.lv 24 (ho := rfl) (hv := .pickF) (k := ?_)
        | refine TG.lv 24 (ho := rfl) (hv := .pickB) (k := ?_))
      all_goals (first
        | refine TG.q0 25 (ho := rfl) (hv := .yes (h := .move)) (k := ?_)
        | refine TG.lv 25 (ho := rfl) (hv := .move) (k := ?_))
      all_goals try (first | refine TG.litT 89 (k := ?_) | refine TG.litF 89 (k := ?_) | refine TG.lit 89 (fun _ => ?_) (fun _ => ?_))
      all_goals (first
        | refine TG.q0 26 (ho := rfl) (hv := .no) (k := ?_)
        | refine TG.q0 26 (ho := rfl) (hv := .yes (h := .move)) (k := ?_)
        | refine TG.lv 26 (ho := rfl) (hv := .move) (k := ?_))
      all_goals (first
        | refine TG.q0 27 (ho := rfl) (hv := .no) (k := ?_)
        | (refine TG.ld 27 (ho := rfl) (hK := .callF (h := agent_Waits _ st' _ _ _ _)) (k := ?_); rintro _ _ ⟨_, rfl, rfl, rfl⟩; refine ⟨by (repeat (first | exact Held.nil | apply Held.zero | (apply Held.one; (repeat (first | exact Pick.here | apply Pick.there))))), ?_⟩))
      all_goals (first
        | refine TG.q0 28 (ho := rfl) (hv := .no) (k := ?_)
        | refine TG.q0 28 (ho := rfl) (hv := .yes (h := .not)) (k := ?_)
        | refine TG.lv 28 (ho := rfl) (hv := .not) (k := ?_))
      all_goals (first
        | refine TG.q0 29 (ho := rfl) (hv := .yes (h := .pickT)) (k := ?_)
        | refine TG.q0 29 (ho := rfl) (hv := .yes (h := .pickF)) (k := ?_)
        | refine TG.q0 29 (ho := rfl) (hv := .yes (h := .pickB)) (k := ?_)
        | refine TG.lv 29 (ho := rfl) (hv := .pickT) (k := ?_)
        | refine TG.lv 29 (ho := rfl) (hv := .pickF) (k := ?_)
        | refine TG.lv 29 (ho := rfl) (hv := .pickB) (k := ?_))
      all_goals apply TG.fin rfl
      repeat (first
        | with_reducible apply T.seq
        | with_reducible apply T.region
        | with_reducible apply TL.nil
        | with_reducible apply Thn.normal
        | with_reducible apply Thn.ret
        | with_reducible apply Thn.exit
        | with_reducible apply Blk.normal
        | with_reducible apply Blk.ret
        | ((with_reducible refine Blk.exitE ?_ ?_); · rfl)
        | ((with_reducible refine Blk.exitN ?_ ?_); · rfl)
        | with_reducible apply Rnd.ret
        | with_reducible apply Rnd.exit
        | with_reducible apply RndI.ret
        | with_reducible apply RndI.exit
        | with_reducible apply ThnI.ret
        | with_reducible apply ThnI.exit
        | with_reducible apply T.skip
        | with_reducible apply T.block
        | with_reducible apply T.ret
        | with_reducible apply T.exit
        | refine T.condT (h := ?_)
        | refine T.condF (h := ?_)
        | refine TL.pass (k := ?_)
        | refine TL.passN (k := ?_)
        | refine TL.take (k := ?_)
        | refine TL.q (h := .assign) (k := ?_)
        | refine TL.q (h := .build) (k := ?_)
        | (refine TL.e (h := .al) (k := ?_); rintro _ _ ⟨_, rfl, rfl⟩)
        | refine TL.u (h := .st) (k := ?_)
        | refine TL.u (h := .stA) (k := ?_)
        | refine TL.q (h := .loadA) (k := ?_)
        | refine TL.q (h := .loadEpA) (k := ?_)
        | (refine TL.e (h := .bs) (k := ?_); rintro _ _ ⟨_, rfl, rfl⟩)
        | refine TL.q (h := .move) (k := ?_)
        | refine TL.q (h := .eqNil) (k := ?_)
        | refine TL.q (h := .lenR) (k := ?_)
        | refine TL.q (h := .lenS) (k := ?_)
        | refine TL.q (h := .pickT) (k := ?_)
        | refine TL.q (h := .pickF) (k := ?_)
        | refine TL.q (h := .indexR) (k := ?_)
        | refine TL.q (h := .load) (k := ?_)
        | refine TL.q (h := .loadEp) (k := ?_)
        | (refine TL.callF (h := book_Within _ _ _ (by omega) (by first | assumption | rfl | omega | (simp at *; omega))) (k := ?_); rintro _ _ ⟨rfl, rfl⟩)
        | refine TL.q (h := .neB) (k := ?_)
        | (refine TL.e (h := .app) (k := ?_); rintro _ _ ⟨_, rfl, rfl⟩)
        | (refine TL.e (h := .appS) (k := ?_); rintro _ _ ⟨_, rfl, rfl⟩)
        | refine TL.q (h := .add) (k := ?_)
        | refine TL.q (h := .catS) (k := ?_)
        | (refine TL.callF (h := known22) (k := ?_); rintro _ _ ⟨rfl, rfl⟩)
        | refine TL.q (h := .binI) (k := ?_)
        | refine TL.q (h := .binS) (k := ?_)
        | refine TL.q (h := .pickB) (k := ?_))
      refine T.cF (h := ?_)
      repeat (first
        | with_reducible apply T.seq
        | with_reducible apply T.region
        | with_reducible apply TL.nil
        | with_reducible apply Thn.normal
        | with_reducible apply Thn.ret
        | with_reducible apply Thn.exit
        | with_reducible apply Blk.normal
        | with_reducible apply Blk.ret
        | ((with_reducible refine Blk.exitE ?_ ?_); · rfl)
        | ((with_reducible refine Blk.exitN ?_ ?_); · rfl)
        | with_reducible apply Rnd.ret
        | with_reducible apply Rnd.exit
        | with_reducible apply RndI.ret
        | with_reducible apply RndI.exit
        | with_reducible apply ThnI.ret
        | with_reducible apply ThnI.exit
        | with_reducible apply T.skip
        | with_reducible apply T.block
        | with_reducible apply T.ret
        | with_reducible apply T.exit
        | refine T.condT (h := ?_)
        | refine T.condF (h := ?_)
        | refine TL.pass (k := ?_)
        | refine TL.passN (k := ?_)
        | refine TL.take (k := ?_)
        | refine TL.q (h := .assign) (k := ?_)
        | refine TL.q (h := .build) (k := ?_)
        | (refine TL.e (h := .al) (k := ?_); rintro _ _ ⟨_, rfl, rfl⟩)
        | refine TL.u (h := .st) (k := ?_)
        | refine TL.u (h := .stA) (k := ?_)
        | refine TL.q (h := .loadA) (k := ?_)
        | refine TL.q (h := .loadEpA) (k := ?_)
        | (refine TL.e (h := .bs) (k := ?_); rintro _ _ ⟨_, rfl, rfl⟩)
        | refine TL.q (h := .move) (k := ?_)
        | refine TL.q (h := .eqNil) (k := ?_)
        | refine TL.q (h := .lenR) (k := ?_)
        | refine TL.q (h := .lenS) (k := ?_)
        | refine TL.q (h := .pickT) (k := ?_)
        | refine TL.q (h := .pickF) (k := ?_)
        | refine TL.q (h := .indexR) (k := ?_)
        | refine TL.q (h := .load) (k := ?_)
        | refine TL.q (h := .loadEp) (k := ?_)
        | (refine TL.callF (h := book_Within _ _ _ (by omega) (by first | assumption | rfl | omega | (simp at *; omega))) (k := ?_); rintro _ _ ⟨rfl, rfl⟩)
        | refine TL.q (h := .neB) (k := ?_)
        | (refine TL.e (h := .app) (k := ?_); rintro _ _ ⟨_, rfl, rfl⟩)
        | (refine TL.e (h := .appS) (k := ?_); rintro _ _ ⟨_, rfl, rfl⟩)
        | refine TL.q (h := .add) (k := ?_)
        | refine TL.q (h := .catS) (k := ?_)
        | (refine TL.callF (h := known22) (k := ?_); rintro _ _ ⟨rfl, rfl⟩)
        | refine TL.q (h := .binI) (k := ?_)
        | refine TL.q (h := .binS) (k := ?_)
        | refine TL.q (h := .pickB) (k := ?_))
      all_goals refine TG.start (i := 21) mixed rfl ?_
      all_goals (first
        | refine TG.q0 0 (ho := rfl) (hv := .yes (h := .move)) (k := ?_)
        | refine TG.lv 0 (ho := rfl) (hv := .move) (k := ?_))
      all_goals (first
        | refine TG.q0 1 (ho := rfl) (hv := .yes (h := .move)) (k := ?_)
        | refine TG.lv 1 (ho := rfl) (hv := .move) (k := ?_))
      all_goals (first
        | refine TG.q0 2 (ho := rfl) (hv := .yes (h := .move)) (k := ?_)
        | refine TG.lv 2 (ho := rfl) (hv := .move) (k := ?_))
      all_goals (first
        | refine TG.qIndexR 3 (ho := rfl) (h := ?_)
        | refine TG.lv 3 (ho := rfl) (hv := .indexR) (k := ?_))
      all_goals (first
        | refine TG.qLoad 4 (ho := rfl) (k := ?_)
        | refine TG.qLoadEp 4 (ho := rfl) (h := ?_)
        | refine TG.lv 4 (ho := rfl) (hv := .load) (k := ?_)
        | refine TG.lv 4 (ho := rfl) (hv := .loadEp) (k := ?_))
      all_goals (first
        | refine TG.qLoadA 5 (ho := rfl) (k := ?_)
        | refine TG.qLoadEpA 5 (ho := rfl) (h := ?_)
        | refine TG.lv 5 (ho := rfl) (hv := .loadA) (k := ?_)
        | refine TG.lv 5 (ho := rfl) (hv := .loadEpA) (k := ?_))
      all_goals (first
        | refine TG.q0 6 (ho := rfl) (hv := .yes (h := .move)) (k := ?_)
        | refine TG.lv 6 (ho := rfl) (hv := .move) (k := ?_))
      all_goals (first
        | refine TG.q0 7 (ho := rfl) (hv := .yes (h := .add)) (k := ?_)
        | refine TG.q0 7 (ho := rfl) (hv := .yes (h := .binI)) (k := ?_)
        | refine TG.q0 7 (ho := rfl) (hv := .yes (h := .catS)) (k := ?_)
        | refine TG.lv 7 (ho := rfl) (hv := .add) (k := ?_)
        | refine TG.lv 7 (ho := rfl) (hv := .binI) (k := ?_)
        | refine TG.lv 7 (ho := rfl) (hv := .catS) (k := ?_))
      all_goals (first
        | refine TG.q0 8 (ho := rfl) (hv := .yes (h := .build)) (k := ?_)
        | refine TG.lv 8 (ho := rfl) (hv := .build) (k := ?_))
      all_goals (first
        | (refine TG.ld 9 (ho := rfl) (hK := .callF (h := hrc)) (k := ?_); rintro _ _ ⟨_, rfl, rfl, rfl⟩; refine ⟨by (repeat (first | exact Held.nil | apply Held.zero | (apply Held.one; (repeat (first | exact Pick.here | apply Pick.there))))), ?_⟩))
      all_goals (first
        | refine TG.q0 10 (ho := rfl) (hv := .yes (h := .binI)) (k := ?_)
        | refine TG.lv 10 (ho := rfl) (hv := .binI) (k := ?_))
      all_goals apply TG.fin rfl
      repeat (first
        | with_reducible apply T.seq
        | with_reducible apply T.region
        | with_reducible apply TL.nil
        | with_reducible apply Thn.normal
        | with_reducible apply Thn.ret
        | with_reducible apply Thn.exit
        | with_reducible apply Blk.normal
        | with_reducible apply Blk.ret
        | ((with_reducible refine Blk.exitE ?_ ?_); · rfl)
        | ((with_reducible refine Blk.exitN ?_ ?_); · rfl)
        | with_reducible apply Rnd.ret
        | with_reducible apply Rnd.exit
        | with_reducible apply RndI.ret
        | with_reducible apply RndI.exit
        | with_reducible apply ThnI.ret
        | with_reducible apply ThnI.exit
        | with_reducible apply T.skip
        | with_reducible apply T.block
        | with_reducible apply T.ret
        | with_reducible apply T.exit
        | refine T.condT (h := ?_)
        | refine T.condF (h := ?_)
        | refine TL.pass (k := ?_)
        | refine TL.passN (k := ?_)
        | refine TL.take (k := ?_)
        | refine TL.q (h := .assign) (k := ?_)
        | refine TL.q (h := .build) (k := ?_)
        | (refine TL.e (h := .al) (k := ?_); rintro _ _ ⟨_, rfl, rfl⟩)
        | refine TL.u (h := .st) (k := ?_)
        | refine TL.u (h := .stA) (k := ?_)
        | refine TL.q (h := .loadA) (k := ?_)
        | refine TL.q (h := .loadEpA) (k := ?_)
        | (refine TL.e (h := .bs) (k := ?_); rintro _ _ ⟨_, rfl, rfl⟩)
        | refine TL.q (h := .move) (k := ?_)
        | refine TL.q (h := .eqNil) (k := ?_)
        | refine TL.q (h := .lenR) (k := ?_)
        | refine TL.q (h := .lenS) (k := ?_)
        | refine TL.q (h := .pickT) (k := ?_)
        | refine TL.q (h := .pickF) (k := ?_)
        | refine TL.q (h := .indexR) (k := ?_)
        | refine TL.q (h := .load) (k := ?_)
        | refine TL.q (h := .loadEp) (k := ?_)
        | (refine TL.callF (h := book_Within _ _ _ (by omega) (by first | assumption | rfl | omega | (simp at *; omega))) (k := ?_); rintro _ _ ⟨rfl, rfl⟩)
        | refine TL.q (h := .neB) (k := ?_)
        | (refine TL.e (h := .app) (k := ?_); rintro _ _ ⟨_, rfl, rfl⟩)
        | (refine TL.e (h := .appS) (k := ?_); rintro _ _ ⟨_, rfl, rfl⟩)
        | refine TL.q (h := .add) (k := ?_)
        | refine TL.q (h := .catS) (k := ?_)
        | (refine TL.callF (h := known22) (k := ?_); rintro _ _ ⟨rfl, rfl⟩)
        | refine TL.q (h := .binI) (k := ?_)
        | refine TL.q (h := .binS) (k := ?_)
        | refine TL.q (h := .pickB) (k := ?_))
      refine RndI.next (m' := ws.length - (i + 1)) (by omega) ⟨i + 1, wv3, st'.recv (ansW w.op (i + 1)), rfl, by omega, hst', rfl, rfl⟩ (by (repeat (first | exact AllIs.nil | refine AllIs.cons (by (simp only [St.ev, slk, Nat.reduceBEq, cond_true, cond_false]; first | done | rfl)) ?_))) (by (repeat (first | exact Picks.nil | (apply Picks.cons; (repeat (first | exact Pick.here | apply Pick.there))))))
    · skip
      repeat (first
        | with_reducible apply T.seq
        | with_reducible apply T.region
        | with_reducible apply TL.nil
        | with_reducible apply Thn.normal
        | with_reducible apply Thn.ret
        | with_reducible apply Thn.exit
        | with_reducible apply Blk.normal
        | with_reducible apply Blk.ret
        | ((with_reducible refine Blk.exitE ?_ ?_); · rfl)
        | ((with_reducible refine Blk.exitN ?_ ?_); · rfl)
        | with_reducible apply Rnd.ret
        | with_reducible apply Rnd.exit
        | with_reducible apply RndI.ret
        | with_reducible apply RndI.exit
        | with_reducible apply ThnI.ret
        | with_reducible apply ThnI.exit
        | with_reducible apply T.skip
        | with_reducible apply T.block
        | with_reducible apply T.ret
        | with_reducible apply T.exit
        | refine T.condT (h := ?_)
        | refine T.condF (h := ?_)
        | refine TL.pass (k := ?_)
        | refine TL.passN (k := ?_)
        | refine TL.take (k := ?_)
        | refine TL.q (h := .assign) (k := ?_)
        | refine TL.q (h := .build) (k := ?_)
        | (refine TL.e (h := .al) (k := ?_); rintro _ _ ⟨_, rfl, rfl⟩)
        | refine TL.u (h := .st) (k := ?_)
        | refine TL.u (h := .stA) (k := ?_)
        | refine TL.q (h := .loadA) (k := ?_)
        | refine TL.q (h := .loadEpA) (k := ?_)
        | (refine TL.e (h := .bs) (k := ?_); rintro _ _ ⟨_, rfl, rfl⟩)
        | refine TL.q (h := .move) (k := ?_)
        | refine TL.q (h := .eqNil) (k := ?_)
        | refine TL.q (h := .lenR) (k := ?_)
        | refine TL.q (h := .lenS) (k := ?_)
        | refine TL.q (h := .pickT) (k := ?_)
        | refine TL.q (h := .pickF) (k := ?_)
        | refine TL.q (h := .indexR) (k := ?_)
        | refine TL.q (h := .load) (k := ?_)
        | refine TL.q (h := .loadEp) (k := ?_)
        | (refine TL.callF (h := book_Within _ _ _ (by omega) (by first | assumption | rfl | omega | (simp at *; omega))) (k := ?_); rintro _ _ ⟨rfl, rfl⟩)
        | refine TL.q (h := .neB) (k := ?_)
        | (refine TL.e (h := .app) (k := ?_); rintro _ _ ⟨_, rfl, rfl⟩)
        | (refine TL.e (h := .appS) (k := ?_); rintro _ _ ⟨_, rfl, rfl⟩)
        | refine TL.q (h := .add) (k := ?_)
        | refine TL.q (h := .catS) (k := ?_)
        | (refine TL.callF (h := known22) (k := ?_); rintro _ _ ⟨rfl, rfl⟩)
        | refine TL.q (h := .binI) (k := ?_)
        | refine TL.q (h := .binS) (k := ?_)
        | refine TL.q (h := .pickB) (k := ?_))
      (first | refine RetQ.retI (L := [row m 3 1 x.v (xs.map intC)]) (ResIs.r1 Try.results10 (RV.tmp)) (by (repeat (first | exact Picks.nil | (apply Picks.cons; (repeat (first | exact Pick.here | apply Pick.there)))))) ?_ | refine RetQ.norI (L := [row m 3 1 x.v (xs.map intC)]) (ResIs.r1 Try.results10 (RV.tmp)) (by (repeat (first | exact Picks.nil | (apply Picks.cons; (repeat (first | exact Pick.here | apply Pick.there)))))) ?_)
      exact ⟨rfl, rfl⟩
end Go.Proofs.Ytpbomaelkpjbbaa

