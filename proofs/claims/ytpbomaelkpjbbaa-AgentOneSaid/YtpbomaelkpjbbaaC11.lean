import Derived.Test.YtpbomaelkpjbbaaC10
namespace Go.Proofs.Ytpbomaelkpjbbaa
open Go.Fw
attribute [local irreducible] T TL TG Thn Blk Rnd RndI RetQ OpV OpE OpU OpK Ctr row cel ep
namespace K22
def kA : ByteArray := ⟨#[97]⟩
def kB : ByteArray := ⟨#[98]⟩
def s0 : MAgent := MAgent.new kA kB [3, 4]
def s1 : MAgent := s0.want 1 30 1
def s2 : MAgent := s1.want 2 1 1
def s3 : MAgent := (s2.ticks 1).2
def m9 : MMsg := { kind := 2, op := 1, tag := 9, app := kA, id := kB }
def m1 : MMsg := { kind := 2, op := 1, tag := 1, app := kA, id := kB }
def s5 : MAgent := s3.recv m1
def s6 : MAgent := (s5.ticks 1).2
def s7 : MAgent := (s6.ticks 9).2
def mm1 : MMsg := { kind := 1, op := 1, status := 1, tag := 1, n := 30, app := kA, id := kB }
theorem o3 : (s2.ticks 1).1 = [(mm1, 3)] := rfl
theorem ok2 : s2.ok := ⟨by decide, ⟨by decide, by decide⟩, ⟨by decide, by decide⟩, by decide, by decide, by decide, by decide, by decide⟩
def mm6 : MMsg := { kind := 1, op := 5, tag := 2, seq := -1 }
theorem o6 : (s5.ticks 1).1 = [(mm6, 3)] := rfl
def mm7 : MMsg := { kind := 1, op := 1, tag := 3, n := 30, status := 1, app := kA, id := kB }
theorem o7 : (s6.ticks 9).1 = [(mm7, 4)] := rfl
theorem ok6 : s6.ok := ⟨by decide, ⟨by decide, by decide⟩, ⟨by decide, by decide⟩, by decide, by decide, by decide, by decide, by decide⟩
theorem ok7 : s7.ok := ⟨by decide, ⟨by decide, by decide⟩, ⟨by decide, by decide⟩, by decide, by decide, by decide, by decide, by decide⟩
theorem ok5 : s5.ok := ⟨by decide, ⟨by decide, by decide⟩, ⟨by decide, by decide⟩, by decide, by decide, by decide, by decide, by decide⟩
end K22
open K22
set_option maxHeartbeats 4000000 in
theorem known22 : Ctr Try.prog 54 #[] [] fun v L => v = .bool true ∧ L = [] := by
  refine Ctr.of (n := 133) (args := []) Try.func54 rfl rfl rfl fun F => ?_
  simp only [List.zipIdx_cons, List.zipIdx_nil, List.map_cons, List.map_nil, Nat.zero_add, Nat.reduceAdd, List.cons_append, List.nil_append]
  repeat (first
    | with_reducible apply T.seq
    | with_reducible apply T.region
    | with_reducible apply TL.nil
    | with_reducible apply Thn.normal
    | with_reducible apply Thn.ret
    | with_reducible apply Thn.exit
    | with_reducible apply Blk.normal
    | with_reducible apply Blk.ret
    | ((with_reducible refine Blk.exitE ?_ ?_); · rfl)
    | ((with_reducible refine Blk.exitN ?_ ?_); · rfl)
    | with_reducible apply Rnd.ret
    | with_reducible apply Rnd.exit
    | with_reducible apply RndI.ret
    | with_reducible apply RndI.exit
    | with_reducible apply ThnI.ret
    | with_reducible apply ThnI.exit
    | with_reducible apply T.skip
    | with_reducible apply T.block
    | with_reducible apply T.ret
    | with_reducible apply T.exit
    | refine T.condT (h := ?_)
    | refine T.condF (h := ?_)
    | refine TL.pass (k := ?_)
    | refine TL.passN (k := ?_)
    | refine TL.take (k := ?_)
    | refine TL.q (h := .assign) (k := ?_)
    | refine TL.q (h := .build) (k := ?_)
    | (refine TL.e (h := .al) (k := ?_); rintro _ _ ⟨_, rfl, rfl⟩)
    | refine TL.u (h := .st) (k := ?_)
    | refine TL.u (h := .stA) (k := ?_)
    | refine TL.u (h := .stEp) (k := ?_)
    | refine TL.u (h := .stEpA) (k := ?_)
    | refine TL.q (h := .loadA) (k := ?_)
    | refine TL.q (h := .loadEpA) (k := ?_)
    | (refine TL.e (h := .bs) (k := ?_); rintro _ _ ⟨_, rfl, rfl⟩)
    | refine TL.q (h := .move) (k := ?_)
    | refine TL.q (h := .eqNil) (k := ?_)
    | refine TL.q (h := .neNil) (k := ?_)
    | refine TL.q (h := .pickT) (k := ?_)
    | refine TL.q (h := .pickF) (k := ?_)
    | refine TL.q (h := .lenR) (k := ?_)
    | refine TL.q (h := .lenS) (k := ?_)
    | refine TL.q (h := .indexR) (k := ?_)
    | refine TL.q (h := .fieldAddr) (k := ?_)
    | refine TL.q (h := .fieldEp) (k := ?_)
    | refine TL.q (h := .load) (k := ?_)
    | refine TL.q (h := .loadEp) (k := ?_)
    | (refine TL.callF (h := agent_Server _ _ _ _ _ _ _ _ (by first | assumption | rfl | omega | (simp at *; omega)) (by first | assumption | rfl | omega | (simp at *; omega)) (by first | assumption | rfl | omega | (simp at *; omega))) (k := ?_); rintro _ _ ⟨rfl, rfl⟩)
    | refine TL.q (h := .not) (k := ?_)
    | refine TL.q (h := .pickB) (k := ?_)
    | refine TL.q (h := .binI) (k := ?_))
  rename_i bk q
  refine TL.callF (h := agent_New kA kB true q [3, 4]) (k := ?_)
  rintro _ _ (⟨_, b, cb, sv, rfl, rfl⟩ | ⟨h, _, _⟩)
  rotate_left
  · exact absurd h (by decide)
  refine TL.parts (add_nil true 3 1) ?_
  repeat (first
    | with_reducible apply T.seq
    | with_reducible apply T.region
    | with_reducible apply TL.nil
    | with_reducible apply Thn.normal
    | with_reducible apply Thn.ret
    | with_reducible apply Thn.exit
    | with_reducible apply Blk.normal
    | with_reducible apply Blk.ret
    | ((with_reducible refine Blk.exitE ?_ ?_); · rfl)
    | ((with_reducible refine Blk.exitN ?_ ?_); · rfl)
    | with_reducible apply Rnd.ret
    | with_reducible apply Rnd.exit
    | with_reducible apply RndI.ret
    | with_reducible apply RndI.exit
    | with_reducible apply ThnI.ret
    | with_reducible apply ThnI.exit
    | with_reducible apply T.skip
    | with_reducible apply T.block
    | with_reducible apply T.ret
    | with_reducible apply T.exit
    | refine T.condT (h := ?_)
    | refine T.condF (h := ?_)
    | refine TL.pass (k := ?_)
    | refine TL.passN (k := ?_)
    | refine TL.take (k := ?_)
    | refine TL.q (h := .assign) (k := ?_)
    | refine TL.q (h := .build) (k := ?_)
    | (refine TL.e (h := .al) (k := ?_); rintro _ _ ⟨_, rfl, rfl⟩)
    | refine TL.u (h := .st) (k := ?_)
    | refine TL.u (h := .stA) (k := ?_)
    | refine TL.u (h := .stEp) (k := ?_)
    | refine TL.u (h := .stEpA) (k := ?_)
    | refine TL.q (h := .loadA) (k := ?_)
    | refine TL.q (h := .loadEpA) (k := ?_)
    | (refine TL.e (h := .bs) (k := ?_); rintro _ _ ⟨_, rfl, rfl⟩)
    | refine TL.q (h := .move) (k := ?_)
    | refine TL.q (h := .eqNil) (k := ?_)
    | refine TL.q (h := .neNil) (k := ?_)
    | refine TL.q (h := .pickT) (k := ?_)
    | refine TL.q (h := .pickF) (k := ?_)
    | refine TL.q (h := .lenR) (k := ?_)
    | refine TL.q (h := .lenS) (k := ?_)
    | refine TL.q (h := .indexR) (k := ?_)
    | refine TL.q (h := .fieldAddr) (k := ?_)
    | refine TL.q (h := .fieldEp) (k := ?_)
    | refine TL.q (h := .load) (k := ?_)
    | refine TL.q (h := .loadEp) (k := ?_)
    | (refine TL.callF (h := agent_Server _ _ _ _ _ _ _ _ (by first | assumption | rfl | omega | (simp at *; omega)) (by first | assumption | rfl | omega | (simp at *; omega)) (by first | assumption | rfl | omega | (simp at *; omega))) (k := ?_); rintro _ _ ⟨rfl, rfl⟩)
    | refine TL.q (h := .not) (k := ?_)
    | refine TL.q (h := .pickB) (k := ?_)
    | refine TL.q (h := .binI) (k := ?_))
  refine TL.callF (h := agent_New kA kB true Sl.nil []) (k := ?_)
  rintro _ _ (⟨h, _⟩ | ⟨_, rfl, rfl⟩)
  · exact absurd h (by decide)
  repeat (first
    | with_reducible apply T.seq
    | with_reducible apply T.region
    | with_reducible apply TL.nil
    | with_reducible apply Thn.normal
    | with_reducible apply Thn.ret
    | with_reducible apply Thn.exit
    | with_reducible apply Blk.normal
    | with_reducible apply Blk.ret
    | ((with_reducible refine Blk.exitE ?_ ?_); · rfl)
    | ((with_reducible refine Blk.exitN ?_ ?_); · rfl)
    | with_reducible apply Rnd.ret
    | with_reducible apply Rnd.exit
    | with_reducible apply RndI.ret
    | with_reducible apply RndI.exit
    | with_reducible apply ThnI.ret
    | with_reducible apply ThnI.exit
    | with_reducible apply T.skip
    | with_reducible apply T.block
    | with_reducible apply T.ret
    | with_reducible apply T.exit
    | refine T.condT (h := ?_)
    | refine T.condF (h := ?_)
    | refine TL.pass (k := ?_)
    | refine TL.passN (k := ?_)
    | refine TL.take (k := ?_)
    | refine TL.q (h := .assign) (k := ?_)
    | refine TL.q (h := .build) (k := ?_)
    | (refine TL.e (h := .al) (k := ?_); rintro _ _ ⟨_, rfl, rfl⟩)
    | refine TL.u (h := .st) (k := ?_)
    | refine TL.u (h := .stA) (k := ?_)
    | refine TL.u (h := .stEp) (k := ?_)
    | refine TL.u (h := .stEpA) (k := ?_)
    | refine TL.q (h := .loadA) (k := ?_)
    | refine TL.q (h := .loadEpA) (k := ?_)
    | (refine TL.e (h := .bs) (k := ?_); rintro _ _ ⟨_, rfl, rfl⟩)
    | refine TL.q (h := .move) (k := ?_)
    | refine TL.q (h := .eqNil) (k := ?_)
    | refine TL.q (h := .neNil) (k := ?_)
    | refine TL.q (h := .pickT) (k := ?_)
    | refine TL.q (h := .pickF) (k := ?_)
    | refine TL.q (h := .lenR) (k := ?_)
    | refine TL.q (h := .lenS) (k := ?_)
    | refine TL.q (h := .indexR) (k := ?_)
    | refine TL.q (h := .fieldAddr) (k := ?_)
    | refine TL.q (h := .fieldEp) (k := ?_)
    | refine TL.q (h := .load) (k := ?_)
    | refine TL.q (h := .loadEp) (k := ?_)
    | (refine TL.callF (h := agent_Server _ _ _ _ _ _ _ _ (by first | assumption | rfl | omega | (simp at *; omega)) (by first | assumption | rfl | omega | (simp at *; omega)) (by first | assumption | rfl | omega | (simp at *; omega))) (k := ?_); rintro _ _ ⟨rfl, rfl⟩)
    | refine TL.q (h := .not) (k := ?_)
    | refine TL.q (h := .pickB) (k := ?_)
    | refine TL.q (h := .binI) (k := ?_))
  rename_i q2
  refine TL.callF (h := agent_New ⟨#[]⟩ ⟨#[]⟩ true q2 [1]) (k := ?_)
  rintro _ _ (⟨h, _⟩ | ⟨_, rfl, rfl⟩)
  · exact absurd h (by decide)
  repeat (first
    | with_reducible apply T.seq
    | with_reducible apply T.region
    | with_reducible apply TL.nil
    | with_reducible apply Thn.normal
    | with_reducible apply Thn.ret
    | with_reducible apply Thn.exit
    | with_reducible apply Blk.normal
    | with_reducible apply Blk.ret
    | ((with_reducible refine Blk.exitE ?_ ?_); · rfl)
    | ((with_reducible refine Blk.exitN ?_ ?_); · rfl)
    | with_reducible apply Rnd.ret
    | with_reducible apply Rnd.exit
    | with_reducible apply RndI.ret
    | with_reducible apply RndI.exit
    | with_reducible apply ThnI.ret
    | with_reducible apply ThnI.exit
    | with_reducible apply T.skip
    | with_reducible apply T.block
    | with_reducible apply T.ret
    | with_reducible apply T.exit
    | refine T.condT (h := ?_)
    | refine T.condF (h := ?_)
    | refine TL.pass (k := ?_)
    | refine TL.passN (k := ?_)
    | refine TL.take (k := ?_)
    | refine TL.q (h := .assign) (k := ?_)
    | refine TL.q (h := .build) (k := ?_)
    | (refine TL.e (h := .al) (k := ?_); rintro _ _ ⟨_, rfl, rfl⟩)
    | refine TL.u (h := .st) (k := ?_)
    | refine TL.u (h := .stA) (k := ?_)
    | refine TL.u (h := .stEp) (k := ?_)
    | refine TL.u (h := .stEpA) (k := ?_)
    | refine TL.q (h := .loadA) (k := ?_)
    | refine TL.q (h := .loadEpA) (k := ?_)
    | (refine TL.e (h := .bs) (k := ?_); rintro _ _ ⟨_, rfl, rfl⟩)
    | refine TL.q (h := .move) (k := ?_)
    | refine TL.q (h := .eqNil) (k := ?_)
    | refine TL.q (h := .neNil) (k := ?_)
    | refine TL.q (h := .pickT) (k := ?_)
    | refine TL.q (h := .pickF) (k := ?_)
    | refine TL.q (h := .lenR) (k := ?_)
    | refine TL.q (h := .lenS) (k := ?_)
    | refine TL.q (h := .indexR) (k := ?_)
    | refine TL.q (h := .fieldAddr) (k := ?_)
    | refine TL.q (h := .fieldEp) (k := ?_)
    | refine TL.q (h := .load) (k := ?_)
    | refine TL.q (h := .loadEp) (k := ?_)
    | (refine TL.callF (h := agent_Server _ _ _ _ _ _ _ _ (by first | assumption | rfl | omega | (simp at *; omega)) (by first | assumption | rfl | omega | (simp at *; omega)) (by first | assumption | rfl | omega | (simp at *; omega))) (k := ?_); rintro _ _ ⟨rfl, rfl⟩)
    | refine TL.q (h := .not) (k := ?_)
    | refine TL.q (h := .pickB) (k := ?_)
    | refine TL.q (h := .binI) (k := ?_))
  refine TL.callF (h := agent_Want b s0 sv cb Sl.nil true 1 30 1) (k := ?_)
  rintro _ _ ⟨rfl, wv1, rfl⟩
  repeat (first
    | with_reducible apply T.seq
    | with_reducible apply T.region
    | with_reducible apply TL.nil
    | with_reducible apply Thn.normal
    | with_reducible apply Thn.ret
    | with_reducible apply Thn.exit
    | with_reducible apply Blk.normal
    | with_reducible apply Blk.ret
    | ((with_reducible refine Blk.exitE ?_ ?_); · rfl)
    | ((with_reducible refine Blk.exitN ?_ ?_); · rfl)
    | with_reducible apply Rnd.ret
    | with_reducible apply Rnd.exit
    | with_reducible apply RndI.ret
    | with_reducible apply RndI.exit
    | with_reducible apply ThnI.ret
    | with_reducible apply ThnI.exit
    | with_reducible apply T.skip
    | with_reducible apply T.block
    | with_reducible apply T.ret
    | with_reducible apply T.exit
    | refine T.condT (h := ?_)
    | refine T.condF (h := ?_)
    | refine TL.pass (k := ?_)
    | refine TL.passN (k := ?_)
    | refine TL.take (k := ?_)
    | refine TL.q (h := .assign) (k := ?_)
    | refine TL.q (h := .build) (k := ?_)
    | (refine TL.e (h := .al) (k := ?_); rintro _ _ ⟨_, rfl, rfl⟩)
    | refine TL.u (h := .st) (k := ?_)
    | refine TL.u (h := .stA) (k := ?_)
    | refine TL.u (h := .stEp) (k := ?_)
    | refine TL.u (h := .stEpA) (k := ?_)
    | refine TL.q (h := .loadA) (k := ?_)
    | refine TL.q (h := .loadEpA) (k := ?_)
    | (refine TL.e (h := .bs) (k := ?_); rintro _ _ ⟨_, rfl, rfl⟩)
    | refine TL.q (h := .move) (k := ?_)
    | refine TL.q (h := .eqNil) (k := ?_)
    | refine TL.q (h := .neNil) (k := ?_)
    | refine TL.q (h := .pickT) (k := ?_)
    | refine TL.q (h := .pickF) (k := ?_)
    | refine TL.q (h := .lenR) (k := ?_)
    | refine TL.q (h := .lenS) (k := ?_)
    | refine TL.q (h := .indexR) (k := ?_)
    | refine TL.q (h := .fieldAddr) (k := ?_)
    | refine TL.q (h := .fieldEp) (k := ?_)
    | refine TL.q (h := .load) (k := ?_)
    | refine TL.q (h := .loadEp) (k := ?_)
    | (refine TL.callF (h := agent_Server _ _ _ _ _ _ _ _ (by first | assumption | rfl | omega | (simp at *; omega)) (by first | assumption | rfl | omega | (simp at *; omega)) (by first | assumption | rfl | omega | (simp at *; omega))) (k := ?_); rintro _ _ ⟨rfl, rfl⟩)
    | refine TL.q (h := .not) (k := ?_)
    | refine TL.q (h := .pickB) (k := ?_)
    | refine TL.q (h := .binI) (k := ?_))
  refine TL.callF (h := agent_Want b s1 sv cb wv1 true 2 1 1) (k := ?_)
  rintro _ _ ⟨rfl, wv2, rfl⟩
  repeat (first
    | with_reducible apply T.seq
    | with_reducible apply T.region
    | with_reducible apply TL.nil
    | with_reducible apply Thn.normal
    | with_reducible apply Thn.ret
    | with_reducible apply Thn.exit
    | with_reducible apply Blk.normal
    | with_reducible apply Blk.ret
    | ((with_reducible refine Blk.exitE ?_ ?_); · rfl)
    | ((with_reducible refine Blk.exitN ?_ ?_); · rfl)
    | with_reducible apply Rnd.ret
    | with_reducible apply Rnd.exit
    | with_reducible apply RndI.ret
    | with_reducible apply RndI.exit
    | with_reducible apply ThnI.ret
    | with_reducible apply ThnI.exit
    | with_reducible apply T.skip
    | with_reducible apply T.block
    | with_reducible apply T.ret
    | with_reducible apply T.exit
    | refine T.condT (h := ?_)
    | refine T.condF (h := ?_)
    | refine TL.pass (k := ?_)
    | refine TL.passN (k := ?_)
    | refine TL.take (k := ?_)
    | refine TL.q (h := .assign) (k := ?_)
    | refine TL.q (h := .build) (k := ?_)
    | (refine TL.e (h := .al) (k := ?_); rintro _ _ ⟨_, rfl, rfl⟩)
    | refine TL.u (h := .st) (k := ?_)
    | refine TL.u (h := .stA) (k := ?_)
    | refine TL.u (h := .stEp) (k := ?_)
    | refine TL.u (h := .stEpA) (k := ?_)
    | refine TL.q (h := .loadA) (k := ?_)
    | refine TL.q (h := .loadEpA) (k := ?_)
    | (refine TL.e (h := .bs) (k := ?_); rintro _ _ ⟨_, rfl, rfl⟩)
    | refine TL.q (h := .move) (k := ?_)
    | refine TL.q (h := .eqNil) (k := ?_)
    | refine TL.q (h := .neNil) (k := ?_)
    | refine TL.q (h := .pickT) (k := ?_)
    | refine TL.q (h := .pickF) (k := ?_)
    | refine TL.q (h := .lenR) (k := ?_)
    | refine TL.q (h := .lenS) (k := ?_)
    | refine TL.q (h := .indexR) (k := ?_)
    | refine TL.q (h := .fieldAddr) (k := ?_)
    | refine TL.q (h := .fieldEp) (k := ?_)
    | refine TL.q (h := .load) (k := ?_)
    | refine TL.q (h := .loadEp) (k := ?_)
    | (refine TL.callF (h := agent_Server _ _ _ _ _ _ _ _ (by first | assumption | rfl | omega | (simp at *; omega)) (by first | assumption | rfl | omega | (simp at *; omega)) (by first | assumption | rfl | omega | (simp at *; omega))) (k := ?_); rintro _ _ ⟨rfl, rfl⟩)
    | refine TL.q (h := .not) (k := ?_)
    | refine TL.q (h := .pickB) (k := ?_)
    | refine TL.q (h := .binI) (k := ?_))
  refine TL.callF (h := agent_Tick b s2 sv cb wv2 true 1 1 rfl ok2 (by decide)) (k := ?_)
  rintro _ _ ⟨ov, wv3, rfl, rfl⟩
  rw [o3]
  simp only [List.map_cons, List.map_nil]
  have hc0 : [sentC (mm1, 3)][0]? = some (sentC (mm1, 3)) := rfl
  repeat (first
    | with_reducible apply T.seq
    | with_reducible apply T.region
    | with_reducible apply TL.nil
    | with_reducible apply Thn.normal
    | with_reducible apply Thn.ret
    | with_reducible apply Thn.exit
    | with_reducible apply Blk.normal
    | with_reducible apply Blk.ret
    | ((with_reducible refine Blk.exitE ?_ ?_); · rfl)
    | ((with_reducible refine Blk.exitN ?_ ?_); · rfl)
    | with_reducible apply Rnd.ret
    | with_reducible apply Rnd.exit
    | with_reducible apply RndI.ret
    | with_reducible apply RndI.exit
    | with_reducible apply ThnI.ret
    | with_reducible apply ThnI.exit
    | with_reducible apply T.skip
    | with_reducible apply T.block
    | with_reducible apply T.ret
    | with_reducible apply T.exit
    | refine T.condT (h := ?_)
    | refine T.condF (h := ?_)
    | refine TL.pass (k := ?_)
    | refine TL.passN (k := ?_)
    | refine TL.take (k := ?_)
    | refine TL.q (h := .assign) (k := ?_)
    | refine TL.q (h := .build) (k := ?_)
    | (refine TL.e (h := .al) (k := ?_); rintro _ _ ⟨_, rfl, rfl⟩)
    | refine TL.u (h := .st) (k := ?_)
    | refine TL.u (h := .stA) (k := ?_)
    | refine TL.u (h := .stEp) (k := ?_)
    | refine TL.u (h := .stEpA) (k := ?_)
    | refine TL.q (h := .loadA) (k := ?_)
    | refine TL.q (h := .loadEpA) (k := ?_)
    | (refine TL.e (h := .bs) (k := ?_); rintro _ _ ⟨_, rfl, rfl⟩)
    | refine TL.q (h := .move) (k := ?_)
    | refine TL.q (h := .eqNil) (k := ?_)
    | refine TL.q (h := .neNil) (k := ?_)
    | refine TL.q (h := .pickT) (k := ?_)
    | refine TL.q (h := .pickF) (k := ?_)
    | refine TL.q (h := .lenR) (k := ?_)
    | refine TL.q (h := .lenS) (k := ?_)
    | refine TL.q (h := .indexR) (k := ?_)
    | refine TL.q (h := .fieldAddr) (k := ?_)
    | refine TL.q (h := .fieldEp) (k := ?_)
    | refine TL.q (h := .load) (k := ?_)
    | refine TL.q (h := .loadEp) (k := ?_)
    | (refine TL.callF (h := agent_Server _ _ _ _ _ _ _ _ (by first | assumption | rfl | omega | (simp at *; omega)) (by first | assumption | rfl | omega | (simp at *; omega)) (by first | assumption | rfl | omega | (simp at *; omega))) (k := ?_); rintro _ _ ⟨rfl, rfl⟩)
    | refine TL.q (h := .not) (k := ?_)
    | refine TL.q (h := .pickB) (k := ?_)
    | refine TL.q (h := .binI) (k := ?_))
  refine TL.callF (h := agent_Waits b s3 sv cb wv3 true) (k := ?_)
  rintro _ _ ⟨rfl, rfl⟩
  repeat (first
    | with_reducible apply T.seq
    | with_reducible apply T.region
    | with_reducible apply TL.nil
    | with_reducible apply Thn.normal
    | with_reducible apply Thn.ret
    | with_reducible apply Thn.exit
    | with_reducible apply Blk.normal
    | with_reducible apply Blk.ret
    | ((with_reducible refine Blk.exitE ?_ ?_); · rfl)
    | ((with_reducible refine Blk.exitN ?_ ?_); · rfl)
    | with_reducible apply Rnd.ret
    | with_reducible apply Rnd.exit
    | with_reducible apply RndI.ret
    | with_reducible apply RndI.exit
    | with_reducible apply ThnI.ret
    | with_reducible apply ThnI.exit
    | with_reducible apply T.skip
    | with_reducible apply T.block
    | with_reducible apply T.ret
    | with_reducible apply T.exit
    | refine T.condT (h := ?_)
    | refine T.condF (h := ?_)
    | refine TL.pass (k := ?_)
    | refine TL.passN (k := ?_)
    | refine TL.take (k := ?_)
    | refine TL.q (h := .assign) (k := ?_)
    | refine TL.q (h := .build) (k := ?_)
    | (refine TL.e (h := .al) (k := ?_); rintro _ _ ⟨_, rfl, rfl⟩)
    | refine TL.u (h := .st) (k := ?_)
    | refine TL.u (h := .stA) (k := ?_)
    | refine TL.u (h := .stEp) (k := ?_)
    | refine TL.u (h := .stEpA) (k := ?_)
    | refine TL.q (h := .loadA) (k := ?_)
    | refine TL.q (h := .loadEpA) (k := ?_)
    | (refine TL.e (h := .bs) (k := ?_); rintro _ _ ⟨_, rfl, rfl⟩)
    | refine TL.q (h := .move) (k := ?_)
    | refine TL.q (h := .eqNil) (k := ?_)
    | refine TL.q (h := .neNil) (k := ?_)
    | refine TL.q (h := .pickT) (k := ?_)
    | refine TL.q (h := .pickF) (k := ?_)
    | refine TL.q (h := .lenR) (k := ?_)
    | refine TL.q (h := .lenS) (k := ?_)
    | refine TL.q (h := .indexR) (k := ?_)
    | refine TL.q (h := .fieldAddr) (k := ?_)
    | refine TL.q (h := .fieldEp) (k := ?_)
    | refine TL.q (h := .load) (k := ?_)
    | refine TL.q (h := .loadEp) (k := ?_)
    | (refine TL.callF (h := agent_Server _ _ _ _ _ _ _ _ (by first | assumption | rfl | omega | (simp at *; omega)) (by first | assumption | rfl | omega | (simp at *; omega)) (by first | assumption | rfl | omega | (simp at *; omega))) (k := ?_); rintro _ _ ⟨rfl, rfl⟩)
    | refine TL.q (h := .not) (k := ?_)
    | refine TL.q (h := .pickB) (k := ?_)
    | refine TL.q (h := .binI) (k := ?_))
  refine TL.callF (h := agent_Receive b s3 sv cb wv3 true 3 m9 3 rfl rfl rfl) (k := ?_)
  rintro _ _ (⟨h, rfl, rfl⟩ | ⟨_, rfl, rfl⟩)
  · exact absurd h (by decide)
  repeat (first
    | with_reducible apply T.seq
    | with_reducible apply T.region
    | with_reducible apply TL.nil
    | with_reducible apply Thn.normal
    | with_reducible apply Thn.ret
    | with_reducible apply Thn.exit
    | with_reducible apply Blk.normal
    | with_reducible apply Blk.ret
    | ((with_reducible refine Blk.exitE ?_ ?_); · rfl)
    | ((with_reducible refine Blk.exitN ?_ ?_); · rfl)
    | with_reducible apply Rnd.ret
    | with_reducible apply Rnd.exit
    | with_reducible apply RndI.ret
    | with_reducible apply RndI.exit
    | with_reducible apply ThnI.ret
    | with_reducible apply ThnI.exit
    | with_reducible apply T.skip
    | with_reducible apply T.block
    | with_reducible apply T.ret
    | with_reducible apply T.exit
    | refine T.condT (h := ?_)
    | refine T.condF (h := ?_)
    | refine TL.pass (k := ?_)
    | refine TL.passN (k := ?_)
    | refine TL.take (k := ?_)
    | refine TL.q (h := .assign) (k := ?_)
    | refine TL.q (h := .build) (k := ?_)
    | (refine TL.e (h := .al) (k := ?_); rintro _ _ ⟨_, rfl, rfl⟩)
    | refine TL.u (h := .st) (k := ?_)
    | refine TL.u (h := .stA) (k := ?_)
    | refine TL.u (h := .stEp) (k := ?_)
    | refine TL.u (h := .stEpA) (k := ?_)
    | refine TL.q (h := .loadA) (k := ?_)
    | refine TL.q (h := .loadEpA) (k := ?_)
    | (refine TL.e (h := .bs) (k := ?_); rintro _ _ ⟨_, rfl, rfl⟩)
    | refine TL.q (h := .move) (k := ?_)
    | refine TL.q (h := .eqNil) (k := ?_)
    | refine TL.q (h := .neNil) (k := ?_)
    | refine TL.q (h := .pickT) (k := ?_)
    | refine TL.q (h := .pickF) (k := ?_)
    | refine TL.q (h := .lenR) (k := ?_)
    | refine TL.q (h := .lenS) (k := ?_)
    | refine TL.q (h := .indexR) (k := ?_)
    | refine TL.q (h := .fieldAddr) (k := ?_)
    | refine TL.q (h := .fieldEp) (k := ?_)
    | refine TL.q (h := .load) (k := ?_)
    | refine TL.q (h := .loadEp) (k := ?_)
    | (refine TL.callF (h := agent_Server _ _ _ _ _ _ _ _ (by first | assumption | rfl | omega | (simp at *; omega)) (by first | assumption | rfl | omega | (simp at *; omega)) (by first | assumption | rfl | omega | (simp at *; omega))) (k := ?_); rintro _ _ ⟨rfl, rfl⟩)
    | refine TL.q (h := .not) (k := ?_)
    | refine TL.q (h := .pickB) (k := ?_)
    | refine TL.q (h := .binI) (k := ?_))
  refine TL.callF (h := agent_Receive b s3 sv cb wv3 true 3 m1 3 rfl rfl rfl) (k := ?_)
  rintro _ _ (⟨_, rfl, rfl⟩ | ⟨h, rfl, rfl⟩)
  rotate_left
  · exact absurd h (by decide)
  repeat (first
    | with_reducible apply T.seq
    | with_reducible apply T.region
    | with_reducible apply TL.nil
    | with_reducible apply Thn.normal
    | with_reducible apply Thn.ret
    | with_reducible apply Thn.exit
    | with_reducible apply Blk.normal
    | with_reducible apply Blk.ret
    | ((with_reducible refine Blk.exitE ?_ ?_); · rfl)
    | ((with_reducible refine Blk.exitN ?_ ?_); · rfl)
    | with_reducible apply Rnd.ret
    | with_reducible apply Rnd.exit
    | with_reducible apply RndI.ret
    | with_reducible apply RndI.exit
    | with_reducible apply ThnI.ret
    | with_reducible apply ThnI.exit
    | with_reducible apply T.skip
    | with_reducible apply T.block
    | with_reducible apply T.ret
    | with_reducible apply T.exit
    | refine T.condT (h := ?_)
    | refine T.condF (h := ?_)
    | refine TL.pass (k := ?_)
    | refine TL.passN (k := ?_)
    | refine TL.take (k := ?_)
    | refine TL.q (h := .assign) (k := ?_)
    | refine TL.q (h := .build) (k := ?_)
    | (refine TL.e (h := .al) (k := ?_); rintro _ _ ⟨_, rfl, rfl⟩)
    | refine TL.u (h := .st) (k := ?_)
    | refine TL.u (h := .stA) (k := ?_)
    | refine TL.u (h := .stEp) (k := ?_)
    | refine TL.u (h := .stEpA) (k := ?_)
    | refine TL.q (h := .loadA) (k := ?_)
    | refine TL.q (h := .loadEpA) (k := ?_)
    | (refine TL.e (h := .bs) (k := ?_); rintro _ _ ⟨_, rfl, rfl⟩)
    | refine TL.q (h := .move) (k := ?_)
    | refine TL.q (h := .eqNil) (k := ?_)
    | refine TL.q (h := .neNil) (k := ?_)
    | refine TL.q (h := .pickT) (k := ?_)
    | refine TL.q (h := .pickF) (k := ?_)
    | refine TL.q (h := .lenR) (k := ?_)
    | refine TL.q (h := .lenS) (k := ?_)
    | refine TL.q (h := .indexR) (k := ?_)
    | refine TL.q (h := .fieldAddr) (k := ?_)
    | refine TL.q (h := .fieldEp) (k := ?_)
    | refine TL.q (h := .load) (k := ?_)
    | refine TL.q (h := .loadEp) (k := ?_)
    | (refine TL.callF (h := agent_Server _ _ _ _ _ _ _ _ (by first | assumption | rfl | omega | (simp at *; omega)) (by first | assumption | rfl | omega | (simp at *; omega)) (by first | assumption | rfl | omega | (simp at *; omega))) (k := ?_); rintro _ _ ⟨rfl, rfl⟩)
    | refine TL.q (h := .not) (k := ?_)
    | refine TL.q (h := .pickB) (k := ?_)
    | refine TL.q (h := .binI) (k := ?_))
  refine TL.callF (h := agent_Tick b s5 sv cb wv3 true 1 1 rfl ok5 (by decide)) (k := ?_)
  rintro _ _ ⟨ov2, wv4, rfl, rfl⟩
  rw [o6]
  simp only [List.map_cons, List.map_nil]
  have hc6 : [sentC (mm6, 3)][0]? = some (sentC (mm6, 3)) := rfl
  repeat (first
    | with_reducible apply T.seq
    | with_reducible apply T.region
    | with_reducible apply TL.nil
    | with_reducible apply Thn.normal
    | with_reducible apply Thn.ret
    | with_reducible apply Thn.exit
    | with_reducible apply Blk.normal
    | with_reducible apply Blk.ret
    | ((with_reducible refine Blk.exitE ?_ ?_); · rfl)
    | ((with_reducible refine Blk.exitN ?_ ?_); · rfl)
    | with_reducible apply Rnd.ret
    | with_reducible apply Rnd.exit
    | with_reducible apply RndI.ret
    | with_reducible apply RndI.exit
    | with_reducible apply ThnI.ret
    | with_reducible apply ThnI.exit
    | with_reducible apply T.skip
    | with_reducible apply T.block
    | with_reducible apply T.ret
    | with_reducible apply T.exit
    | refine T.condT (h := ?_)
    | refine T.condF (h := ?_)
    | refine TL.pass (k := ?_)
    | refine TL.passN (k := ?_)
    | refine TL.take (k := ?_)
    | refine TL.q (h := .assign) (k := ?_)
    | refine TL.q (h := .build) (k := ?_)
    | (refine TL.e (h := .al) (k := ?_); rintro _ _ ⟨_, rfl, rfl⟩)
    | refine TL.u (h := .st) (k := ?_)
    | refine TL.u (h := .stA) (k := ?_)
    | refine TL.u (h := .stEp) (k := ?_)
    | refine TL.u (h := .stEpA) (k := ?_)
    | refine TL.q (h := .loadA) (k := ?_)
    | refine TL.q (h := .loadEpA) (k := ?_)
    | (refine TL.e (h := .bs) (k := ?_); rintro _ _ ⟨_, rfl, rfl⟩)
    | refine TL.q (h := .move) (k := ?_)
    | refine TL.q (h := .eqNil) (k := ?_)
    | refine TL.q (h := .neNil) (k := ?_)
    | refine TL.q (h := .pickT) (k := ?_)
    | refine TL.q (h := .pickF) (k := ?_)
    | refine TL.q (h := .lenR) (k := ?_)
    | refine TL.q (h := .lenS) (k := ?_)
    | refine TL.q (h := .indexR) (k := ?_)
    | refine TL.q (h := .fieldAddr) (k := ?_)
    | refine TL.q (h := .fieldEp) (k := ?_)
    | refine TL.q (h := .load) (k := ?_)
    | refine TL.q (h := .loadEp) (k := ?_)
    | (refine TL.callF (h := agent_Server _ _ _ _ _ _ _ _ (by first | assumption | rfl | omega | (simp at *; omega)) (by first | assumption | rfl | omega | (simp at *; omega)) (by first | assumption | rfl | omega | (simp at *; omega))) (k := ?_); rintro _ _ ⟨rfl, rfl⟩)
    | refine TL.q (h := .not) (k := ?_)
    | refine TL.q (h := .pickB) (k := ?_)
    | refine TL.q (h := .binI) (k := ?_))
  refine TL.callF (h := agent_Tick b s6 sv cb wv4 true 9 9 rfl ok6 (by decide)) (k := ?_)
  rintro _ _ ⟨ov3, wv5, rfl, rfl⟩
  rw [o7]
  simp only [List.map_cons, List.map_nil]
  repeat (first
    | with_reducible apply T.seq
    | with_reducible apply T.region
    | with_reducible apply TL.nil
    | with_reducible apply Thn.normal
    | with_reducible apply Thn.ret
    | with_reducible apply Thn.exit
    | with_reducible apply Blk.normal
    | with_reducible apply Blk.ret
    | ((with_reducible refine Blk.exitE ?_ ?_); · rfl)
    | ((with_reducible refine Blk.exitN ?_ ?_); · rfl)
    | with_reducible apply Rnd.ret
    | with_reducible apply Rnd.exit
    | with_reducible apply RndI.ret
    | with_reducible apply RndI.exit
    | with_reducible apply ThnI.ret
    | with_reducible apply ThnI.exit
    | with_reducible apply T.skip
    | with_reducible apply T.block
    | with_reducible apply T.ret
    | with_reducible apply T.exit
    | refine T.condT (h := ?_)
    | refine T.condF (h := ?_)
    | refine TL.pass (k := ?_)
    | refine TL.passN (k := ?_)
    | refine TL.take (k := ?_)
    | refine TL.q (h := .assign) (k := ?_)
    | refine TL.q (h := .build) (k := ?_)
    | (refine TL.e (h := .al) (k := ?_); rintro _ _ ⟨_, rfl, rfl⟩)
    | refine TL.u (h := .st) (k := ?_)
    | refine TL.u (h := .stA) (k := ?_)
    | refine TL.u (h := .stEp) (k := ?_)
    | refine TL.u (h := .stEpA) (k := ?_)
    | refine TL.q (h := .loadA) (k := ?_)
    | refine TL.q (h := .loadEpA) (k := ?_)
    | (refine TL.e (h := .bs) (k := ?_); rintro _ _ ⟨_, rfl, rfl⟩)
    | refine TL.q (h := .move) (k := ?_)
    | refine TL.q (h := .eqNil) (k := ?_)
    | refine TL.q (h := .neNil) (k := ?_)
    | refine TL.q (h := .pickT) (k := ?_)
    | refine TL.q (h := .pickF) (k := ?_)
    | refine TL.q (h := .lenR) (k := ?_)
    | refine TL.q (h := .lenS) (k := ?_)
    | refine TL.q (h := .indexR) (k := ?_)
    | refine TL.q (h := .fieldAddr) (k := ?_)
    | refine TL.q (h := .fieldEp) (k := ?_)
    | refine TL.q (h := .load) (k := ?_)
    | refine TL.q (h := .loadEp) (k := ?_)
    | (refine TL.callF (h := agent_Server _ _ _ _ _ _ _ _ (by first | assumption | rfl | omega | (simp at *; omega)) (by first | assumption | rfl | omega | (simp at *; omega)) (by first | assumption | rfl | omega | (simp at *; omega))) (k := ?_); rintro _ _ ⟨rfl, rfl⟩)
    | refine TL.q (h := .not) (k := ?_)
    | refine TL.q (h := .pickB) (k := ?_)
    | refine TL.q (h := .binI) (k := ?_))
  refine TL.callF (h := agent_Tick b s7 sv cb wv5 true 0 0 rfl ok7 (by decide)) (k := ?_)
  rintro _ _ ⟨ov4, wv6, rfl, rfl⟩
  repeat (first
    | with_reducible apply T.seq
    | with_reducible apply T.region
    | with_reducible apply TL.nil
    | with_reducible apply Thn.normal
    | with_reducible apply Thn.ret
    | with_reducible apply Thn.exit
    | with_reducible apply Blk.normal
    | with_reducible apply Blk.ret
    | ((with_reducible refine Blk.exitE ?_ ?_); · rfl)
    | ((with_reducible refine Blk.exitN ?_ ?_); · rfl)
    | with_reducible apply Rnd.ret
    | with_reducible apply Rnd.exit
    | with_reducible apply RndI.ret
    | with_reducible apply RndI.exit
    | with_reducible apply ThnI.ret
    | with_reducible apply ThnI.exit
    | with_reducible apply T.skip
    | with_reducible apply T.block
    | with_reducible apply T.ret
    | with_reducible apply T.exit
    | refine T.condT (h := ?_)
    | refine T.condF (h := ?_)
    | refine TL.pass (k := ?_)
    | refine TL.passN (k := ?_)
    | refine TL.take (k := ?_)
    | refine TL.q (h := .assign) (k := ?_)
    | refine TL.q (h := .build) (k := ?_)
    | (refine TL.e (h := .al) (k := ?_); rintro _ _ ⟨_, rfl, rfl⟩)
    | refine TL.u (h := .st) (k := ?_)
    | refine TL.u (h := .stA) (k := ?_)
    | refine TL.u (h := .stEp) (k := ?_)
    | refine TL.u (h := .stEpA) (k := ?_)
    | refine TL.q (h := .loadA) (k := ?_)
    | refine TL.q (h := .loadEpA) (k := ?_)
    | (refine TL.e (h := .bs) (k := ?_); rintro _ _ ⟨_, rfl, rfl⟩)
    | refine TL.q (h := .move) (k := ?_)
    | refine TL.q (h := .eqNil) (k := ?_)
    | refine TL.q (h := .neNil) (k := ?_)
    | refine TL.q (h := .pickT) (k := ?_)
    | refine TL.q (h := .pickF) (k := ?_)
    | refine TL.q (h := .lenR) (k := ?_)
    | refine TL.q (h := .lenS) (k := ?_)
    | refine TL.q (h := .indexR) (k := ?_)
    | refine TL.q (h := .fieldAddr) (k := ?_)
    | refine TL.q (h := .fieldEp) (k := ?_)
    | refine TL.q (h := .load) (k := ?_)
    | refine TL.q (h := .loadEp) (k := ?_)
    | (refine TL.callF (h := agent_Server _ _ _ _ _ _ _ _ (by first | assumption | rfl | omega | (simp at *; omega)) (by first | assumption | rfl | omega | (simp at *; omega)) (by first | assumption | rfl | omega | (simp at *; omega))) (k := ?_); rintro _ _ ⟨rfl, rfl⟩)
    | refine TL.q (h := .not) (k := ?_)
    | refine TL.q (h := .pickB) (k := ?_)
    | refine TL.q (h := .binI) (k := ?_))
  refine TL.callF (h := agent_Known b (s7.ticks 0).2 sv cb wv6 true) (k := ?_)
  rintro _ _ ⟨rfl, rfl⟩
  repeat (first
    | with_reducible apply T.seq
    | with_reducible apply T.region
    | with_reducible apply TL.nil
    | with_reducible apply Thn.normal
    | with_reducible apply Thn.ret
    | with_reducible apply Thn.exit
    | with_reducible apply Blk.normal
    | with_reducible apply Blk.ret
    | ((with_reducible refine Blk.exitE ?_ ?_); · rfl)
    | ((with_reducible refine Blk.exitN ?_ ?_); · rfl)
    | with_reducible apply Rnd.ret
    | with_reducible apply Rnd.exit
    | with_reducible apply RndI.ret
    | with_reducible apply RndI.exit
    | with_reducible apply ThnI.ret
    | with_reducible apply ThnI.exit
    | with_reducible apply T.skip
    | with_reducible apply T.block
    | with_reducible apply T.ret
    | with_reducible apply T.exit
    | refine T.condT (h := ?_)
    | refine T.condF (h := ?_)
    | refine TL.pass (k := ?_)
    | refine TL.passN (k := ?_)
    | refine TL.take (k := ?_)
    | refine TL.q (h := .assign) (k := ?_)
    | refine TL.q (h := .build) (k := ?_)
    | (refine TL.e (h := .al) (k := ?_); rintro _ _ ⟨_, rfl, rfl⟩)
    | refine TL.u (h := .st) (k := ?_)
    | refine TL.u (h := .stA) (k := ?_)
    | refine TL.u (h := .stEp) (k := ?_)
    | refine TL.u (h := .stEpA) (k := ?_)
    | refine TL.q (h := .loadA) (k := ?_)
    | refine TL.q (h := .loadEpA) (k := ?_)
    | (refine TL.e (h := .bs) (k := ?_); rintro _ _ ⟨_, rfl, rfl⟩)
    | refine TL.q (h := .move) (k := ?_)
    | refine TL.q (h := .eqNil) (k := ?_)
    | refine TL.q (h := .neNil) (k := ?_)
    | refine TL.q (h := .pickT) (k := ?_)
    | refine TL.q (h := .pickF) (k := ?_)
    | refine TL.q (h := .lenR) (k := ?_)
    | refine TL.q (h := .lenS) (k := ?_)
    | refine TL.q (h := .indexR) (k := ?_)
    | refine TL.q (h := .fieldAddr) (k := ?_)
    | refine TL.q (h := .fieldEp) (k := ?_)
    | refine TL.q (h := .load) (k := ?_)
    | refine TL.q (h := .loadEp) (k := ?_)
    | (refine TL.callF (h := agent_Server _ _ _ _ _ _ _ _ (by first | assumption | rfl | omega | (simp at *; omega)) (by first | assumption | rfl | omega | (simp at *; omega)) (by first | assumption | rfl | omega | (simp at *; omega))) (k := ?_); rintro _ _ ⟨rfl, rfl⟩)
    | refine TL.q (h := .not) (k := ?_)
    | refine TL.q (h := .pickB) (k := ?_)
    | refine TL.q (h := .binI) (k := ?_))
  (first | refine RetQ.retI (L := []) (ResIs.r1 Try.results54 (RV.tmp)) (by (repeat (first | exact Picks.nil | (apply Picks.cons; (repeat (first | exact Pick.here | apply Pick.there)))))) ?_ | refine RetQ.norI (L := []) (ResIs.r1 Try.results54 (RV.tmp)) (by (repeat (first | exact Picks.nil | (apply Picks.cons; (repeat (first | exact Pick.here | apply Pick.there)))))) ?_)
  exact ⟨rfl, rfl⟩
end Go.Proofs.Ytpbomaelkpjbbaa

