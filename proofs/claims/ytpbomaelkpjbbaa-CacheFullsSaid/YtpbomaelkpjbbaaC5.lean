import Derived.Test.YtpbomaelkpjbbaaC4
namespace Go.Proofs.Ytpbomaelkpjbbaa
open Go.Fw
attribute [local irreducible] T TL TG Thn Blk Rnd RndI RetQ OpV OpE OpU OpK Ctr row cel ep
structure MWant where
  op : Int
  n : Int
  status : Int
def MWant.C (w : MWant) : List Value := [.int .i64 w.op, .int .i64 w.n, .int .i64 w.status]
structure MMark where
  did : Bool
  at_ : Int
/-- A message without cards and keys. -/
structure MMsg where
  kind : Int := 0
  op : Int := 0
  status : Int := 0
  code : Int := 0
  tag : Int := 0
  n : Int := 0
  seq : Int := 0
  app : ByteArray := ⟨#[]⟩
  id : ByteArray := ⟨#[]⟩
  full : Bool := false
  sum : Int := 0
def MMsg.C (m : MMsg) : List Value := [.int .i64 m.kind, .int .i64 m.op, .int .i64 m.status, .int .i64 m.code, .int .i64 m.tag, .int .i64 m.n, .int .i64 m.seq, .string m.app, .string m.id, .bool m.full, .int .u32 m.sum, .slice none 0 0, .slice none 0 0]
def MMsg.V (m : MMsg) : Value := .agg m.C.toArray
structure MAgent where
  app : ByteArray
  id : ByteArray
  servers : List Int
  server : Nat
  now : Int
  since : Int
  wants : List MWant
  wishes : Bool
  card : MWant
  known : Bool
  waits : Bool
  ask : MMsg
  asked : Int
  beat : MMark
  fetch : MMark
def agC (st : MAgent) (sv : Sl) (cb : Nat) (wv : Sl) : List Value := [.string st.app, .string st.id, sv.v, .int .i64 st.server, .int .i64 st.now, .pointer (some ⟨cb, 0, none⟩), wv.v, .bool st.wishes, .int .i64 st.card.op, .int .i64 st.card.n, .int .i64 st.card.status, .bool st.known, .bool st.waits,
  .int .i64 st.ask.kind, .int .i64 st.ask.op, .int .i64 st.ask.status, .int .i64 st.ask.code, .int .i64 st.ask.tag, .int .i64 st.ask.n, .int .i64 st.ask.seq, .string st.ask.app, .string st.ask.id, .bool st.ask.full, .int .u32 st.ask.sum, .slice none 0 0, .slice none 0 0,
  .int .i64 st.asked, .bool st.beat.did, .int .i64 st.beat.at_, .bool st.fetch.did, .int .i64 st.fetch.at_]
theorem agent_Server (b : Nat) (c : List Value) (sv : Sl) (m m' : Bool) (xs : List Int) (s : Nat) (x : Int) (h2 : c[2]? = some sv.v) (h3 : c[3]? = some (.int .i64 s)) (hx : xs[s]? = some x) :
    Ctr Try.prog 104 #[.pointer (some ⟨b, 0, none⟩)] [cel m b 160 c, row m' 3 1 sv.v (xs.map intC)] fun v L => v = .int .i64 x ∧ L = [cel m b 160 c, row m' 3 1 sv.v (xs.map intC)] := by
  have hlt : s < xs.length := (List.getElem?_eq_some_iff.1 hx).1
  have hl : (xs.map intC).length = xs.length := by simp
  have hc : (xs.map intC)[s]? = some [.int .i64 x] := by simp [hx, intC]
  refine Ctr.of (n := 13) (args := [_]) Try.func104 rfl rfl rfl fun F => ?_
  simp only [List.zipIdx_cons, List.zipIdx_nil, List.map_cons, List.map_nil, Nat.zero_add, Nat.reduceAdd, List.cons_append, List.nil_append]
  repeat (first
    | with_reducible apply T.seq
    | with_reducible apply T.region
    | with_reducible apply TL.nil
    | with_reducible apply Thn.normal
    | with_reducible apply Thn.ret
    | with_reducible apply Thn.exit
    | with_reducible apply Blk.normal
    | with_reducible apply Blk.ret
    | ((with_reducible refine Blk.exitE ?_ ?_); · rfl)
    | ((with_reducible refine Blk.exitN ?_ ?_); · rfl)
    | with_reducible apply Rnd.ret
    | with_reducible apply Rnd.exit
    | with_reducible apply RndI.ret
    | with_reducible apply RndI.exit
    | with_reducible apply ThnI.ret
    | with_reducible apply ThnI.exit
    | with_reducible apply T.skip
    | with_reducible apply T.block
    | with_reducible apply T.ret
    | with_reducible apply T.exit
    | refine T.condT (h := ?_)
    | refine T.condF (h := ?_)
    | refine TL.pass (k := ?_)
    | refine TL.passN (k := ?_)
    | refine TL.take (k := ?_)
    | refine TL.q (h := .assign) (k := ?_))
  all_goals refine TG.start (i := 1) mixed rfl ?_
  all_goals (first
    | refine TG.q0 0 (ho := rfl) (hv := .yes (h := .move)) (k := ?_)
    | refine TG.lv 0 (ho := rfl) (hv := .move) (k := ?_))
  all_goals (first
    | refine TG.q0 1 (ho := rfl) (hv := .yes (h := .nilCheck)) (k := ?_)
    | refine TG.lv 1 (ho := rfl) (hv := .nilCheck) (k := ?_))
  all_goals (first
    | refine TG.q0 2 (ho := rfl) (hv := .yes (h := .fieldAddr)) (k := ?_)
    | refine TG.qFieldEp 2 (ho := rfl) (h := ?_)
    | refine TG.lv 2 (ho := rfl) (hv := .fieldAddr) (k := ?_)
    | refine TG.lv 2 (ho := rfl) (hv := .fieldEp) (k := ?_))
  all_goals (first
    | refine TG.qLoad 3 (ho := rfl) (k := ?_)
    | refine TG.qLoadEp 3 (ho := rfl) (h := ?_)
    | refine TG.lv 3 (ho := rfl) (hv := .load) (k := ?_)
    | refine TG.lv 3 (ho := rfl) (hv := .loadEp) (k := ?_))
  all_goals (first
    | refine TG.q0 4 (ho := rfl) (hv := .yes (h := .move)) (k := ?_)
    | refine TG.lv 4 (ho := rfl) (hv := .move) (k := ?_))
  all_goals (first
    | refine TG.q0 5 (ho := rfl) (hv := .yes (h := .nilCheck)) (k := ?_)
    | refine TG.lv 5 (ho := rfl) (hv := .nilCheck) (k := ?_))
  all_goals (first
    | refine TG.q0 6 (ho := rfl) (hv := .yes (h := .fieldAddr)) (k := ?_)
    | refine TG.qFieldEp 6 (ho := rfl) (h := ?_)
    | refine TG.lv 6 (ho := rfl) (hv := .fieldAddr) (k := ?_)
    | refine TG.lv 6 (ho := rfl) (hv := .fieldEp) (k := ?_))
  all_goals (first
    | refine TG.qLoad 7 (ho := rfl) (k := ?_)
    | refine TG.qLoadEp 7 (ho := rfl) (h := ?_)
    | refine TG.lv 7 (ho := rfl) (hv := .load) (k := ?_)
    | refine TG.lv 7 (ho := rfl) (hv := .loadEp) (k := ?_))
  all_goals (first
    | refine TG.qIndexR 8 (ho := rfl) (h := ?_)
    | refine TG.lv 8 (ho := rfl) (hv := .indexR) (k := ?_))
  all_goals (first
    | refine TG.qLoad 9 (ho := rfl) (k := ?_)
    | refine TG.qLoadEp 9 (ho := rfl) (h := ?_)
    | refine TG.lv 9 (ho := rfl) (hv := .load) (k := ?_)
    | refine TG.lv 9 (ho := rfl) (hv := .loadEp) (k := ?_))
  all_goals (first
    | refine TG.q0 10 (ho := rfl) (hv := .yes (h := .assign)) (k := ?_)
    | refine TG.lv 10 (ho := rfl) (hv := .assign) (k := ?_))
  all_goals apply TG.fin rfl
  repeat (first
    | with_reducible apply T.seq
    | with_reducible apply T.region
    | with_reducible apply TL.nil
    | with_reducible apply Thn.normal
    | with_reducible apply Thn.ret
    | with_reducible apply Thn.exit
    | with_reducible apply Blk.normal
    | with_reducible apply Blk.ret
    | ((with_reducible refine Blk.exitE ?_ ?_); · rfl)
    | ((with_reducible refine Blk.exitN ?_ ?_); · rfl)
    | with_reducible apply Rnd.ret
    | with_reducible apply Rnd.exit
    | with_reducible apply RndI.ret
    | with_reducible apply RndI.exit
    | with_reducible apply ThnI.ret
    | with_reducible apply ThnI.exit
    | with_reducible apply T.skip
    | with_reducible apply T.block
    | with_reducible apply T.ret
    | with_reducible apply T.exit
    | refine T.condT (h := ?_)
    | refine T.condF (h := ?_)
    | refine TL.pass (k := ?_)
    | refine TL.passN (k := ?_)
    | refine TL.take (k := ?_)
    | refine TL.q (h := .assign) (k := ?_))
  first | refine RetQ.retI (L := [_, _]) (ResIs.r1 Try.results104 (RV.tmp)) (by (repeat (first | exact Picks.nil | (apply Picks.cons; (repeat (first | exact Pick.here | apply Pick.there)))))) ⟨rfl, rfl⟩ | refine RetQ.norI (L := [_, _]) (ResIs.r1 Try.results104 (RV.tmp)) (by (repeat (first | exact Picks.nil | (apply Picks.cons; (repeat (first | exact Pick.here | apply Pick.there)))))) ⟨rfl, rfl⟩
theorem agent_Waits (b : Nat) (st : MAgent) (sv : Sl) (cb : Nat) (wv : Sl) (m : Bool) :
    Ctr Try.prog 53 #[.pointer (some ⟨b, 0, none⟩)] [cel m b 160 (agC st sv cb wv)] fun v L => v = .bool st.waits ∧ L = [cel m b 160 (agC st sv cb wv)] := by
  simp only [agC]
  refine Ctr.of (n := 7) (args := [_]) Try.func53 rfl rfl rfl fun F => ?_
  simp only [List.zipIdx_cons, List.zipIdx_nil, List.map_cons, List.map_nil, Nat.zero_add, Nat.reduceAdd, List.cons_append, List.nil_append]
  repeat' (first
    | with_reducible apply T.seq
    | with_reducible apply T.region
    | with_reducible apply TL.nil
    | with_reducible apply Thn.normal
    | with_reducible apply Thn.ret
    | with_reducible apply Thn.exit
    | with_reducible apply Blk.normal
    | with_reducible apply Blk.ret
    | ((with_reducible refine Blk.exitE ?_ ?_); · rfl)
    | ((with_reducible refine Blk.exitN ?_ ?_); · rfl)
    | with_reducible apply Rnd.ret
    | with_reducible apply Rnd.exit
    | with_reducible apply RndI.ret
    | with_reducible apply RndI.exit
    | with_reducible apply ThnI.ret
    | with_reducible apply ThnI.exit
    | with_reducible apply T.skip
    | with_reducible apply T.block
    | with_reducible apply T.ret
    | with_reducible apply T.exit
    | refine T.condT (h := ?_)
    | refine T.condF (h := ?_)
    | refine TL.pass (k := ?_)
    | refine TL.passN (k := ?_)
    | refine TL.take (k := ?_)
    | refine TL.q (h := .assign) (k := ?_)
    | refine TL.q (h := .move) (k := ?_)
    | refine TL.q (h := .nilCheck) (k := ?_)
    | refine TL.q (h := .fieldAddr) (k := ?_)
    | refine TL.q (h := .fieldEp) (k := ?_)
    | refine TL.q (h := .load) (k := ?_)
    | refine TL.q (h := .loadEp) (k := ?_)
    | refine TL.gT (k := ?_)
    | refine TL.gF (k := ?_)
    | refine T.cT (h := ?_)
    | refine T.cF (h := ?_)
    | (refine TL.gcase (ht := fun _ => ?_) (hf := fun _ => ?_))
    | refine T.cond (by (simp only [St.ev, slk, Nat.reduceBEq, cond_true, cond_false]; first | done | rfl)) (fun _ => ?_) (fun _ => ?_))
  first | refine RetQ.retI (L := [_]) (ResIs.r1 Try.results53 (RV.tmp)) (by (repeat (first | exact Picks.nil | (apply Picks.cons; (repeat (first | exact Pick.here | apply Pick.there)))))) ⟨rfl, rfl⟩ | refine RetQ.norI (L := [_]) (ResIs.r1 Try.results53 (RV.tmp)) (by (repeat (first | exact Picks.nil | (apply Picks.cons; (repeat (first | exact Pick.here | apply Pick.there)))))) ⟨rfl, rfl⟩
theorem agent_Known (b : Nat) (st : MAgent) (sv : Sl) (cb : Nat) (wv : Sl) (m : Bool) :
    Ctr Try.prog 57 #[.pointer (some ⟨b, 0, none⟩)] [cel m b 160 (agC st sv cb wv)] fun v L => v = .bool st.known ∧ L = [cel m b 160 (agC st sv cb wv)] := by
  simp only [agC]
  refine Ctr.of (n := 7) (args := [_]) Try.func57 rfl rfl rfl fun F => ?_
  simp only [List.zipIdx_cons, List.zipIdx_nil, List.map_cons, List.map_nil, Nat.zero_add, Nat.reduceAdd, List.cons_append, List.nil_append]
  repeat' (first
    | with_reducible apply T.seq
    | with_reducible apply T.region
    | with_reducible apply TL.nil
    | with_reducible apply Thn.normal
    | with_reducible apply Thn.ret
    | with_reducible apply Thn.exit
    | with_reducible apply Blk.normal
    | with_reducible apply Blk.ret
    | ((with_reducible refine Blk.exitE ?_ ?_); · rfl)
    | ((with_reducible refine Blk.exitN ?_ ?_); · rfl)
    | with_reducible apply Rnd.ret
    | with_reducible apply Rnd.exit
    | with_reducible apply RndI.ret
    | with_reducible apply RndI.exit
    | with_reducible apply ThnI.ret
    | with_reducible apply ThnI.exit
    | with_reducible apply T.skip
    | with_reducible apply T.block
    | with_reducible apply T.ret
    | with_reducible apply T.exit
    | refine T.condT (h := ?_)
    | refine T.condF (h := ?_)
    | refine TL.pass (k := ?_)
    | refine TL.passN (k := ?_)
    | refine TL.take (k := ?_)
    | refine TL.q (h := .assign) (k := ?_)
    | refine TL.q (h := .move) (k := ?_)
    | refine TL.q (h := .nilCheck) (k := ?_)
    | refine TL.q (h := .fieldAddr) (k := ?_)
    | refine TL.q (h := .fieldEp) (k := ?_)
    | refine TL.q (h := .load) (k := ?_)
    | refine TL.q (h := .loadEp) (k := ?_)
    | refine TL.gT (k := ?_)
    | refine TL.gF (k := ?_)
    | refine T.cT (h := ?_)
    | refine T.cF (h := ?_)
    | (refine TL.gcase (ht := fun _ => ?_) (hf := fun _ => ?_))
    | refine T.cond (by (simp only [St.ev, slk, Nat.reduceBEq, cond_true, cond_false]; first | done | rfl)) (fun _ => ?_) (fun _ => ?_))
  first | refine RetQ.retI (L := [_]) (ResIs.r1 Try.results57 (RV.tmp)) (by (repeat (first | exact Picks.nil | (apply Picks.cons; (repeat (first | exact Pick.here | apply Pick.there)))))) ⟨rfl, rfl⟩ | refine RetQ.norI (L := [_]) (ResIs.r1 Try.results57 (RV.tmp)) (by (repeat (first | exact Picks.nil | (apply Picks.cons; (repeat (first | exact Pick.here | apply Pick.there)))))) ⟨rfl, rfl⟩
def MAgent.turn (st : MAgent) : MAgent := { st with waits := false, known := false, server := (st.server + 1) % st.servers.length, since := -1 }
def agL (b : Nat) (st : MAgent) (sv : Sl) (cb : Nat) (wv : Sl) (m' : Bool) : List SP := [cel true b 160 (agC st sv cb wv), row m' 3 1 sv.v (st.servers.map intC), cel true cb 106 [.slice none 0 0, .int .i64 st.since], row true 156 3 wv.v (st.wants.map MWant.C)]
theorem agent_turn (b : Nat) (st : MAgent) (sv : Sl) (cb : Nat) (wv : Sl) (m' : Bool) (hs : st.server < st.servers.length) (hl : st.servers.length ≤ 100) :
    Ctr Try.prog 101 #[.pointer (some ⟨b, 0, none⟩)] (agL b st sv cb wv m') fun v L => v = .tuple #[] ∧ L = agL b st.turn sv cb wv m' := by
  simp only [agL, agC]
  have hlm : (st.servers.map intC).length = st.servers.length := by simp
  have hne : ¬ ((st.servers.map intC).length : Int) = 0 := by omega
  have hmod : ((st.server : Int) + 1).tmod ((st.servers.map intC).length : Int) = (((st.server + 1) % st.servers.length : Nat) : Int) := by
    rw [hlm]; rfl
  refine Ctr.of (n := 27) (args := [_]) Try.func101 rfl rfl rfl fun F => ?_
  simp only [List.zipIdx_cons, List.zipIdx_nil, List.map_cons, List.map_nil, Nat.zero_add, Nat.reduceAdd, List.cons_append, List.nil_append]
  repeat (first
    | with_reducible apply T.seq
    | with_reducible apply T.region
    | with_reducible apply TL.nil
    | with_reducible apply Thn.normal
    | with_reducible apply Thn.ret
    | with_reducible apply Thn.exit
    | with_reducible apply Blk.normal
    | with_reducible apply Blk.ret
    | ((with_reducible refine Blk.exitE ?_ ?_); · rfl)
    | ((with_reducible refine Blk.exitN ?_ ?_); · rfl)
    | with_reducible apply Rnd.ret
    | with_reducible apply Rnd.exit
    | with_reducible apply RndI.ret
    | with_reducible apply RndI.exit
    | with_reducible apply ThnI.ret
    | with_reducible apply ThnI.exit
    | with_reducible apply T.skip
    | with_reducible apply T.block
    | with_reducible apply T.ret
    | with_reducible apply T.exit
    | refine T.condT (h := ?_)
    | refine T.condF (h := ?_)
    | refine TL.pass (k := ?_)
    | refine TL.passN (k := ?_)
    | refine TL.take (k := ?_)
    | refine TL.q (h := .move) (k := ?_)
    | refine TL.q (h := .nilCheck) (k := ?_)
    | refine TL.q (h := .fieldAddr) (k := ?_)
    | refine TL.q (h := .fieldEp) (k := ?_)
    | refine TL.u (h := .st) (k := ?_)
    | refine TL.u (h := .stA) (k := ?_)
    | refine TL.u (h := .stEp) (k := ?_)
    | refine TL.u (h := .stEpA) (k := ?_)
    | refine TL.q (h := .load) (k := ?_)
    | refine TL.q (h := .loadEp) (k := ?_)
    | (refine TL.callF (h := cache_Forget _ _ _) (k := ?_); rintro _ _ ⟨rfl, rfl⟩))
  all_goals refine TG.start (i := 1) mixed rfl ?_
  all_goals (first
    | refine TG.q0 0 (ho := rfl) (hv := .yes (h := .move)) (k := ?_)
    | refine TG.lv 0 (ho := rfl) (hv := .move) (k := ?_))
  all_goals (first
    | refine TG.q0 1 (ho := rfl) (hv := .yes (h := .move)) (k := ?_)
    | refine TG.lv 1 (ho := rfl) (hv := .move) (k := ?_))
  all_goals (first
    | refine TG.q0 2 (ho := rfl) (hv := .yes (h := .nilCheck)) (k := ?_)
    | refine TG.lv 2 (ho := rfl) (hv := .nilCheck) (k := ?_))
  all_goals (first
    | refine TG.q0 3 (ho := rfl) (hv := .yes (h := .fieldAddr)) (k := ?_)
    | refine TG.qFieldEp 3 (ho := rfl) (h := ?_)
    | refine TG.lv 3 (ho := rfl) (hv := .fieldAddr) (k := ?_)
    | refine TG.lv 3 (ho := rfl) (hv := .fieldEp) (k := ?_))
  all_goals (first
    | refine TG.qLoad 4 (ho := rfl) (k := ?_)
    | refine TG.qLoadEp 4 (ho := rfl) (h := ?_)
    | refine TG.lv 4 (ho := rfl) (hv := .load) (k := ?_)
    | refine TG.lv 4 (ho := rfl) (hv := .loadEp) (k := ?_))
  all_goals (first
    | refine TG.q0 5 (ho := rfl) (hv := .yes (h := .add)) (k := ?_)
    | refine TG.q0 5 (ho := rfl) (hv := .yes (h := .binI)) (k := ?_)
    | refine TG.q0 5 (ho := rfl) (hv := .yes (h := .catS)) (k := ?_)
    | refine TG.lv 5 (ho := rfl) (hv := .add) (k := ?_)
    | refine TG.lv 5 (ho := rfl) (hv := .binI) (k := ?_)
    | refine TG.lv 5 (ho := rfl) (hv := .catS) (k := ?_))
  all_goals (first
    | refine TG.q0 6 (ho := rfl) (hv := .yes (h := .move)) (k := ?_)
    | refine TG.lv 6 (ho := rfl) (hv := .move) (k := ?_))
  all_goals (first
    | refine TG.q0 7 (ho := rfl) (hv := .yes (h := .nilCheck)) (k := ?_)
    | refine TG.lv 7 (ho := rfl) (hv := .nilCheck) (k := ?_))
  all_goals (first
    | refine TG.q0 8 (ho := rfl) (hv := .yes (h := .fieldAddr)) (k := ?_)
    | refine TG.qFieldEp 8 (ho := rfl) (h := ?_)
    | refine TG.lv 8 (ho := rfl) (hv := .fieldAddr) (k := ?_)
    | refine TG.lv 8 (ho := rfl) (hv := .fieldEp) (k := ?_))
  all_goals (first
    | refine TG.qLoad 9 (ho := rfl) (k := ?_)
    | refine TG.qLoadEp 9 (ho := rfl) (h := ?_)
    | refine TG.lv 9 (ho := rfl) (hv := .load) (k := ?_)
    | refine TG.lv 9 (ho := rfl) (hv := .loadEp) (k := ?_))
  all_goals (first
    | refine TG.qLenR 10 (ho := rfl) (k := ?_)
    | refine TG.q0 10 (ho := rfl) (hv := .yes (h := .lenS)) (k := ?_)
    | refine TG.lv 10 (ho := rfl) (hv := .lenR) (k := ?_)
    | refine TG.lv 10 (ho := rfl) (hv := .lenS) (k := ?_))
  all_goals (first
    | refine TG.q0 11 (ho := rfl) (hv := .yes (h := .rem)) (k := ?_)
    | refine TG.lv 11 (ho := rfl) (hv := .rem) (k := ?_))
  all_goals (first
    | refine TG.q0 12 (ho := rfl) (hv := .yes (h := .nilCheck)) (k := ?_)
    | refine TG.lv 12 (ho := rfl) (hv := .nilCheck) (k := ?_))
  all_goals (first
    | refine TG.q0 13 (ho := rfl) (hv := .yes (h := .fieldAddr)) (k := ?_)
    | refine TG.qFieldEp 13 (ho := rfl) (h := ?_)
    | refine TG.lv 13 (ho := rfl) (hv := .fieldAddr) (k := ?_)
    | refine TG.lv 13 (ho := rfl) (hv := .fieldEp) (k := ?_))
  all_goals (first
    | refine TG.lu 14 (ho := rfl) (hK := .st) (k := ?_)
    | refine TG.lu 14 (ho := rfl) (hK := .stA) (k := ?_)
    | refine TG.lu 14 (ho := rfl) (hK := .stEp) (k := ?_)
    | refine TG.lu 14 (ho := rfl) (hK := .stEpA) (k := ?_))
  all_goals apply TG.fin rfl
  repeat (first
    | with_reducible apply T.seq
    | with_reducible apply T.region
    | with_reducible apply TL.nil
    | with_reducible apply Thn.normal
    | with_reducible apply Thn.ret
    | with_reducible apply Thn.exit
    | with_reducible apply Blk.normal
    | with_reducible apply Blk.ret
    | ((with_reducible refine Blk.exitE ?_ ?_); · rfl)
    | ((with_reducible refine Blk.exitN ?_ ?_); · rfl)
    | with_reducible apply Rnd.ret
    | with_reducible apply Rnd.exit
    | with_reducible apply RndI.ret
    | with_reducible apply RndI.exit
    | with_reducible apply ThnI.ret
    | with_reducible apply ThnI.exit
    | with_reducible apply T.skip
    | with_reducible apply T.block
    | with_reducible apply T.ret
    | with_reducible apply T.exit
    | refine T.condT (h := ?_)
    | refine T.condF (h := ?_)
    | refine TL.pass (k := ?_)
    | refine TL.passN (k := ?_)
    | refine TL.take (k := ?_)
    | refine TL.q (h := .move) (k := ?_)
    | refine TL.q (h := .nilCheck) (k := ?_)
    | refine TL.q (h := .fieldAddr) (k := ?_)
    | refine TL.q (h := .fieldEp) (k := ?_)
    | refine TL.u (h := .st) (k := ?_)
    | refine TL.u (h := .stA) (k := ?_)
    | refine TL.u (h := .stEp) (k := ?_)
    | refine TL.u (h := .stEpA) (k := ?_)
    | refine TL.q (h := .load) (k := ?_)
    | refine TL.q (h := .loadEp) (k := ?_)
    | (refine TL.callF (h := cache_Forget _ _ _) (k := ?_); rintro _ _ ⟨rfl, rfl⟩))
  rw [hmod]
  (first | refine RetQ.retI (L := agL b st.turn sv cb wv m') (ResIs.none Try.results101) (by (repeat (first | exact Picks.nil | (apply Picks.cons; (repeat (first | exact Pick.here | apply Pick.there)))))) ?_ | refine RetQ.norI (L := agL b st.turn sv cb wv m') (ResIs.none Try.results101) (by (repeat (first | exact Picks.nil | (apply Picks.cons; (repeat (first | exact Pick.here | apply Pick.there)))))) ?_)
  exact ⟨rfl, rfl⟩
def MAgent.reg (st : MAgent) : MMsg := { op := 1, n := st.card.n, status := st.card.status }
theorem agent_register (b : Nat) (st : MAgent) (sv : Sl) (cb : Nat) (wv : Sl) (m : Bool) :
    Ctr Try.prog 147 #[.pointer (some ⟨b, 0, none⟩)] [cel m b 160 (agC st sv cb wv)] fun v L => v = st.reg.V ∧ L = [cel m b 160 (agC st sv cb wv)] := by
  simp only [agC]
  refine Ctr.of (n := 14) (args := [_]) Try.func147 rfl rfl rfl fun F => ?_
  simp only [List.zipIdx_cons, List.zipIdx_nil, List.map_cons, List.map_nil, Nat.zero_add, Nat.reduceAdd, List.cons_append, List.nil_append]
  repeat (first
    | with_reducible apply T.seq
    | with_reducible apply T.region
    | with_reducible apply TL.nil
    | with_reducible apply Thn.normal
    | with_reducible apply Thn.ret
    | with_reducible apply Thn.exit
    | with_reducible apply Blk.normal
    | with_reducible apply Blk.ret
    | ((with_reducible refine Blk.exitE ?_ ?_); · rfl)
    | ((with_reducible refine Blk.exitN ?_ ?_); · rfl)
    | with_reducible apply Rnd.ret
    | with_reducible apply Rnd.exit
    | with_reducible apply RndI.ret
    | with_reducible apply RndI.exit
    | with_reducible apply ThnI.ret
    | with_reducible apply ThnI.exit
    | with_reducible apply T.skip
    | with_reducible apply T.block
    | with_reducible apply T.ret
    | with_reducible apply T.exit
    | refine T.condT (h := ?_)
    | refine T.condF (h := ?_)
    | refine TL.pass (k := ?_)
    | refine TL.passN (k := ?_)
    | refine TL.take (k := ?_)
    | (refine TL.e (h := .al) (k := ?_); rintro _ _ ⟨_, rfl, rfl⟩))
  all_goals refine TG.start (i := 1) mixed rfl ?_
  all_goals (first
    | refine TG.q0 0 (ho := rfl) (hv := .yes (h := .move)) (k := ?_)
    | refine TG.lv 0 (ho := rfl) (hv := .move) (k := ?_))
  all_goals (first
    | refine TG.q0 1 (ho := rfl) (hv := .yes (h := .nilCheck)) (k := ?_)
    | refine TG.lv 1 (ho := rfl) (hv := .nilCheck) (k := ?_))
  all_goals (first
    | refine TG.q0 2 (ho := rfl) (hv := .yes (h := .fieldAddr)) (k := ?_)
    | refine TG.qFieldEp 2 (ho := rfl) (h := ?_)
    | refine TG.lv 2 (ho := rfl) (hv := .fieldAddr) (k := ?_)
    | refine TG.lv 2 (ho := rfl) (hv := .fieldEp) (k := ?_))
  all_goals (first
    | refine TG.q0 3 (ho := rfl) (hv := .yes (h := .fieldAddr)) (k := ?_)
    | refine TG.qFieldEp 3 (ho := rfl) (h := ?_)
    | refine TG.lv 3 (ho := rfl) (hv := .fieldAddr) (k := ?_)
    | refine TG.lv 3 (ho := rfl) (hv := .fieldEp) (k := ?_))
  all_goals (first
    | refine TG.qLoad 4 (ho := rfl) (k := ?_)
    | refine TG.qLoadEp 4 (ho := rfl) (h := ?_)
    | refine TG.lv 4 (ho := rfl) (hv := .load) (k := ?_)
    | refine TG.lv 4 (ho := rfl) (hv := .loadEp) (k := ?_))
  all_goals (first
    | refine TG.q0 5 (ho := rfl) (hv := .yes (h := .move)) (k := ?_)
    | refine TG.lv 5 (ho := rfl) (hv := .move) (k := ?_))
  all_goals (first
    | refine TG.q0 6 (ho := rfl) (hv := .yes (h := .nilCheck)) (k := ?_)
    | refine TG.lv 6 (ho := rfl) (hv := .nilCheck) (k := ?_))
  all_goals (first
    | refine TG.q0 7 (ho := rfl) (hv := .yes (h := .fieldAddr)) (k := ?_)
    | refine TG.qFieldEp 7 (ho := rfl) (h := ?_)
    | refine TG.lv 7 (ho := rfl) (hv := .fieldAddr) (k := ?_)
    | refine TG.lv 7 (ho := rfl) (hv := .fieldEp) (k := ?_))
  all_goals (first
    | refine TG.q0 8 (ho := rfl) (hv := .yes (h := .fieldAddr)) (k := ?_)
    | refine TG.qFieldEp 8 (ho := rfl) (h := ?_)
    | refine TG.lv 8 (ho := rfl) (hv := .fieldAddr) (k := ?_)
    | refine TG.lv 8 (ho := rfl) (hv := .fieldEp) (k := ?_))
  all_goals (first
    | refine TG.qLoad 9 (ho := rfl) (k := ?_)
    | refine TG.qLoadEp 9 (ho := rfl) (h := ?_)
    | refine TG.lv 9 (ho := rfl) (hv := .load) (k := ?_)
    | refine TG.lv 9 (ho := rfl) (hv := .loadEp) (k := ?_))
  all_goals (first
    | refine TG.q0 10 (ho := rfl) (hv := .yes (h := .build)) (k := ?_)
    | refine TG.lv 10 (ho := rfl) (hv := .build) (k := ?_))
  all_goals (first
    | refine TG.lu 11 (ho := rfl) (hK := .st) (k := ?_)
    | refine TG.lu 11 (ho := rfl) (hK := .stA) (k := ?_)
    | refine TG.lu 11 (ho := rfl) (hK := .stEp) (k := ?_)
    | refine TG.lu 11 (ho := rfl) (hK := .stEpA) (k := ?_))
  all_goals apply TG.fin rfl
  repeat (first
    | with_reducible apply T.seq
    | with_reducible apply T.region
    | with_reducible apply TL.nil
    | with_reducible apply Thn.normal
    | with_reducible apply Thn.ret
    | with_reducible apply Thn.exit
    | with_reducible apply Blk.normal
    | with_reducible apply Blk.ret
    | ((with_reducible refine Blk.exitE ?_ ?_); · rfl)
    | ((with_reducible refine Blk.exitN ?_ ?_); · rfl)
    | with_reducible apply Rnd.ret
    | with_reducible apply Rnd.exit
    | with_reducible apply RndI.ret
    | with_reducible apply RndI.exit
    | with_reducible apply ThnI.ret
    | with_reducible apply ThnI.exit
    | with_reducible apply T.skip
    | with_reducible apply T.block
    | with_reducible apply T.ret
    | with_reducible apply T.exit
    | refine T.condT (h := ?_)
    | refine T.condF (h := ?_)
    | refine TL.pass (k := ?_)
    | refine TL.passN (k := ?_)
    | refine TL.take (k := ?_)
    | (refine TL.e (h := .al) (k := ?_); rintro _ _ ⟨_, rfl, rfl⟩))
  (first | refine RetQ.retI (L := [cel m b 160 (agC st sv cb wv)]) (ResIs.r1 Try.results147 (RV.cellA)) (by (repeat (first | exact Picks.nil | (apply Picks.cons; (repeat (first | exact Pick.here | apply Pick.there)))))) ?_ | refine RetQ.norI (L := [cel m b 160 (agC st sv cb wv)]) (ResIs.r1 Try.results147 (RV.cellA)) (by (repeat (first | exact Picks.nil | (apply Picks.cons; (repeat (first | exact Pick.here | apply Pick.there)))))) ?_)
  exact ⟨rfl, rfl⟩
def MAgent.wanted (st : MAgent) : MMsg × MAgent := match st.wants with
  | [] => ({}, st)
  | w :: ws => if w.op = 1 then ({ op := 1, n := w.n, status := w.status }, { st with wants := ws, card := w, wishes := true })
    else if w.op = 4 then ({ op := 4, status := w.status }, { st with wants := ws }) else ({ op := 3 }, { st with wants := ws, wishes := false })
theorem agent_wanted (b : Nat) (st : MAgent) (sv : Sl) (cb : Nat) (wv : Sl) (m' : Bool) (w : MWant) (ws : List MWant) (hw : st.wants = w :: ws) :
    Ctr Try.prog 145 #[.pointer (some ⟨b, 0, none⟩)] (agL b st sv cb wv m') fun v L => v = st.wanted.1.V ∧ ∃ wv', L = agL b st.wanted.2 sv cb wv' m' := by
  simp only [agL, agC, hw, List.map_cons]
  have hc : (w.C :: ws.map MWant.C)[0]? = some [.int .i64 w.op, .int .i64 w.n, .int .i64 w.status] := rfl
  refine Ctr.of (n := 40) (args := [_]) Try.func145 rfl rfl rfl fun F => ?_
  simp only [List.zipIdx_cons, List.zipIdx_nil, List.map_cons, List.map_nil, Nat.zero_add, Nat.reduceAdd, List.cons_append, List.nil_append]
  repeat (first
    | with_reducible apply T.seq
    | with_reducible apply T.region
    | with_reducible apply TL.nil
    | with_reducible apply Thn.normal
    | with_reducible apply Thn.ret
    | with_reducible apply Thn.exit
    | with_reducible apply Blk.normal
    | with_reducible apply Blk.ret
    | ((with_reducible refine Blk.exitE ?_ ?_); · rfl)
    | ((with_reducible refine Blk.exitN ?_ ?_); · rfl)
    | with_reducible apply Rnd.ret
    | with_reducible apply Rnd.exit
    | with_reducible apply RndI.ret
    | with_reducible apply RndI.exit
    | with_reducible apply ThnI.ret
    | with_reducible apply ThnI.exit
    | with_reducible apply T.skip
    | with_reducible apply T.block
    | with_reducible apply T.ret
    | with_reducible apply T.exit
    | refine T.condT (h := ?_)
    | refine T.condF (h := ?_)
    | refine TL.pass (k := ?_)
    | refine TL.passN (k := ?_)
    | refine TL.take (k := ?_)
    | (refine TL.e (h := .al) (k := ?_); rintro _ _ ⟨_, rfl, rfl⟩)
    | refine TL.q (h := .move) (k := ?_)
    | refine TL.q (h := .nilCheck) (k := ?_)
    | refine TL.q (h := .fieldAddr) (k := ?_)
    | refine TL.q (h := .fieldEp) (k := ?_)
    | refine TL.q (h := .load) (k := ?_)
    | refine TL.q (h := .loadEp) (k := ?_)
    | refine TL.q (h := .indexR) (k := ?_)
    | refine TL.q (h := .loadA) (k := ?_)
    | refine TL.q (h := .loadEpA) (k := ?_)
    | refine TL.u (h := .st) (k := ?_)
    | refine TL.u (h := .stA) (k := ?_)
    | refine TL.u (h := .stEp) (k := ?_)
    | refine TL.u (h := .stEpA) (k := ?_)
    | refine TL.q (h := .subNil) (k := ?_)
    | (refine TL.e (h := .subL) (k := ?_); rintro _ _ ⟨_, rfl, rfl⟩)
    | (refine TL.e (h := .subH) (k := ?_); rintro _ _ ⟨_, rfl, rfl⟩)
    | (refine TL.e (h := .subLH) (k := ?_); rintro _ _ ⟨_, rfl, rfl⟩)
    | (refine TL.e (h := .subHM) (k := ?_); rintro _ _ ⟨_, rfl, rfl⟩)
    | refine TL.q (h := .assign) (k := ?_)
    | refine TL.q (h := .build) (k := ?_)
    | refine TL.q (h := .binI) (k := ?_))
  rename_i bm bw q
  simp only [List.drop_succ_cons, List.drop_zero]
  refine T.cond (by (simp only [St.ev, slk, Nat.reduceBEq, cond_true, cond_false]; first | done | rfl)) (fun h1 => ?_) (fun h1 => ?_)
  · skip
    repeat (first
      | with_reducible apply T.seq
      | with_reducible apply T.region
      | with_reducible apply TL.nil
      | with_reducible apply Thn.normal
      | with_reducible apply Thn.ret
      | with_reducible apply Thn.exit
      | with_reducible apply Blk.normal
      | with_reducible apply Blk.ret
      | ((with_reducible refine Blk.exitE ?_ ?_); · rfl)
      | ((with_reducible refine Blk.exitN ?_ ?_); · rfl)
      | with_reducible apply Rnd.ret
      | with_reducible apply Rnd.exit
      | with_reducible apply RndI.ret
      | with_reducible apply RndI.exit
      | with_reducible apply ThnI.ret
      | with_reducible apply ThnI.exit
      | with_reducible apply T.skip
      | with_reducible apply T.block
      | with_reducible apply T.ret
      | with_reducible apply T.exit
      | refine T.condT (h := ?_)
      | refine T.condF (h := ?_)
      | refine TL.pass (k := ?_)
      | refine TL.passN (k := ?_)
      | refine TL.take (k := ?_)
      | (refine TL.e (h := .al) (k := ?_); rintro _ _ ⟨_, rfl, rfl⟩)
      | refine TL.q (h := .move) (k := ?_)
      | refine TL.q (h := .nilCheck) (k := ?_)
      | refine TL.q (h := .fieldAddr) (k := ?_)
      | refine TL.q (h := .fieldEp) (k := ?_)
      | refine TL.q (h := .load) (k := ?_)
      | refine TL.q (h := .loadEp) (k := ?_)
      | refine TL.q (h := .indexR) (k := ?_)
      | refine TL.q (h := .loadA) (k := ?_)
      | refine TL.q (h := .loadEpA) (k := ?_)
      | refine TL.u (h := .st) (k := ?_)
      | refine TL.u (h := .stA) (k := ?_)
      | refine TL.u (h := .stEp) (k := ?_)
      | refine TL.u (h := .stEpA) (k := ?_)
      | refine TL.q (h := .subNil) (k := ?_)
      | (refine TL.e (h := .subL) (k := ?_); rintro _ _ ⟨_, rfl, rfl⟩)
      | (refine TL.e (h := .subH) (k := ?_); rintro _ _ ⟨_, rfl, rfl⟩)
      | (refine TL.e (h := .subLH) (k := ?_); rintro _ _ ⟨_, rfl, rfl⟩)
      | (refine TL.e (h := .subHM) (k := ?_); rintro _ _ ⟨_, rfl, rfl⟩)
      | refine TL.q (h := .assign) (k := ?_)
      | refine TL.q (h := .build) (k := ?_)
      | refine TL.q (h := .binI) (k := ?_))
    refine TL.callF (h := agent_register b { st with wants := ws, card := w, wishes := true } sv cb q true) (k := ?_)
    rintro _ _ ⟨rfl, rfl⟩
    simp only [MMsg.V, MMsg.C, MAgent.reg, agC]
    repeat (first
      | with_reducible apply T.seq
      | with_reducible apply T.region
      | with_reducible apply TL.nil
      | with_reducible apply Thn.normal
      | with_reducible apply Thn.ret
      | with_reducible apply Thn.exit
      | with_reducible apply Blk.normal
      | with_reducible apply Blk.ret
      | ((with_reducible refine Blk.exitE ?_ ?_); · rfl)
      | ((with_reducible refine Blk.exitN ?_ ?_); · rfl)
      | with_reducible apply Rnd.ret
      | with_reducible apply Rnd.exit
      | with_reducible apply RndI.ret
      | with_reducible apply RndI.exit
      | with_reducible apply ThnI.ret
      | with_reducible apply ThnI.exit
      | with_reducible apply T.skip
      | with_reducible apply T.block
      | with_reducible apply T.ret
      | with_reducible apply T.exit
      | refine T.condT (h := ?_)
      | refine T.condF (h := ?_)
      | refine TL.pass (k := ?_)
      | refine TL.passN (k := ?_)
      | refine TL.take (k := ?_)
      | (refine TL.e (h := .al) (k := ?_); rintro _ _ ⟨_, rfl, rfl⟩)
      | refine TL.q (h := .move) (k := ?_)
      | refine TL.q (h := .nilCheck) (k := ?_)
      | refine TL.q (h := .fieldAddr) (k := ?_)
      | refine TL.q (h := .fieldEp) (k := ?_)
      | refine TL.q (h := .load) (k := ?_)
      | refine TL.q (h := .loadEp) (k := ?_)
      | refine TL.q (h := .indexR) (k := ?_)
      | refine TL.q (h := .loadA) (k := ?_)
      | refine TL.q (h := .loadEpA) (k := ?_)
      | refine TL.u (h := .st) (k := ?_)
      | refine TL.u (h := .stA) (k := ?_)
      | refine TL.u (h := .stEp) (k := ?_)
      | refine TL.u (h := .stEpA) (k := ?_)
      | refine TL.q (h := .subNil) (k := ?_)
      | (refine TL.e (h := .subL) (k := ?_); rintro _ _ ⟨_, rfl, rfl⟩)
      | (refine TL.e (h := .subH) (k := ?_); rintro _ _ ⟨_, rfl, rfl⟩)
      | (refine TL.e (h := .subLH) (k := ?_); rintro _ _ ⟨_, rfl, rfl⟩)
      | (refine TL.e (h := .subHM) (k := ?_); rintro _ _ ⟨_, rfl, rfl⟩)
      | refine TL.q (h := .assign) (k := ?_)
      | refine TL.q (h := .build) (k := ?_)
      | refine TL.q (h := .binI) (k := ?_))
    have h1' : w.op = 1 := by simpa using h1
    have hq : st.wanted = ({ op := 1, n := w.n, status := w.status }, { st with wants := ws, card := w, wishes := true }) := by simp only [MAgent.wanted, hw, h1', if_true]
    rw [hq]
    (first | refine RetQ.retI (L := agL b { st with wants := ws, card := w, wishes := true } sv cb q m') (ResIs.r1 Try.results145 (RV.cellA)) (by (repeat (first | exact Picks.nil | (apply Picks.cons; (repeat (first | exact Pick.here | apply Pick.there)))))) ?_ | refine RetQ.norI (L := agL b { st with wants := ws, card := w, wishes := true } sv cb q m') (ResIs.r1 Try.results145 (RV.cellA)) (by (repeat (first | exact Picks.nil | (apply Picks.cons; (repeat (first | exact Pick.here | apply Pick.there)))))) ?_)
    exact ⟨rfl, q, rfl⟩
  · have h1' : ¬ w.op = 1 := by simpa using h1
    repeat (first
      | with_reducible apply T.seq
      | with_reducible apply T.region
      | with_reducible apply TL.nil
      | with_reducible apply Thn.normal
      | with_reducible apply Thn.ret
      | with_reducible apply Thn.exit
      | with_reducible apply Blk.normal
      | with_reducible apply Blk.ret
      | ((with_reducible refine Blk.exitE ?_ ?_); · rfl)
      | ((with_reducible refine Blk.exitN ?_ ?_); · rfl)
      | with_reducible apply Rnd.ret
      | with_reducible apply Rnd.exit
      | with_reducible apply RndI.ret
      | with_reducible apply RndI.exit
      | with_reducible apply ThnI.ret
      | with_reducible apply ThnI.exit
      | with_reducible apply T.skip
      | with_reducible apply T.block
      | with_reducible apply T.ret
      | with_reducible apply T.exit
      | refine T.condT (h := ?_)
      | refine T.condF (h := ?_)
      | refine TL.pass (k := ?_)
      | refine TL.passN (k := ?_)
      | refine TL.take (k := ?_)
      | (refine TL.e (h := .al) (k := ?_); rintro _ _ ⟨_, rfl, rfl⟩)
      | refine TL.q (h := .move) (k := ?_)
      | refine TL.q (h := .nilCheck) (k := ?_)
      | refine TL.q (h := .fieldAddr) (k := ?_)
      | refine TL.q (h := .fieldEp) (k := ?_)
      | refine TL.q (h := .load) (k := ?_)
      | refine TL.q (h := .loadEp) (k := ?_)
      | refine TL.q (h := .indexR) (k := ?_)
      | refine TL.q (h := .loadA) (k := ?_)
      | refine TL.q (h := .loadEpA) (k := ?_)
      | refine TL.u (h := .st) (k := ?_)
      | refine TL.u (h := .stA) (k := ?_)
      | refine TL.u (h := .stEp) (k := ?_)
      | refine TL.u (h := .stEpA) (k := ?_)
      | refine TL.q (h := .subNil) (k := ?_)
      | (refine TL.e (h := .subL) (k := ?_); rintro _ _ ⟨_, rfl, rfl⟩)
      | (refine TL.e (h := .subH) (k := ?_); rintro _ _ ⟨_, rfl, rfl⟩)
      | (refine TL.e (h := .subLH) (k := ?_); rintro _ _ ⟨_, rfl, rfl⟩)
      | (refine TL.e (h := .subHM) (k := ?_); rintro _ _ ⟨_, rfl, rfl⟩)
      | refine TL.q (h := .assign) (k := ?_)
      | refine TL.q (h := .build) (k := ?_)
      | refine TL.q (h := .binI) (k := ?_))
    refine T.cond (by (simp only [St.ev, slk, Nat.reduceBEq, cond_true, cond_false]; first | done | rfl)) (fun h2 => ?_) (fun h2 => ?_)
    · skip
      repeat (first
        | with_reducible apply T.seq
        | with_reducible apply T.region
        | with_reducible apply TL.nil
        | with_reducible apply Thn.normal
        | with_reducible apply Thn.ret
        | with_reducible apply Thn.exit
        | with_reducible apply Blk.normal
        | with_reducible apply Blk.ret
        | ((with_reducible refine Blk.exitE ?_ ?_); · rfl)
        | ((with_reducible refine Blk.exitN ?_ ?_); · rfl)
        | with_reducible apply Rnd.ret
        | with_reducible apply Rnd.exit
        | with_reducible apply RndI.ret
        | with_reducible apply RndI.exit
        | with_reducible apply ThnI.ret
        | with_reducible apply ThnI.exit
        | with_reducible apply T.skip
        | with_reducible apply T.block
        | with_reducible apply T.ret
        | with_reducible apply T.exit
        | refine T.condT (h := ?_)
        | refine T.condF (h := ?_)
        | refine TL.pass (k := ?_)
        | refine TL.passN (k := ?_)
        | refine TL.take (k := ?_)
        | (refine TL.e (h := .al) (k := ?_); rintro _ _ ⟨_, rfl, rfl⟩)
        | refine TL.q (h := .move) (k := ?_)
        | refine TL.q (h := .nilCheck) (k := ?_)
        | refine TL.q (h := .fieldAddr) (k := ?_)
        | refine TL.q (h := .fieldEp) (k := ?_)
        | refine TL.q (h := .load) (k := ?_)
        | refine TL.q (h := .loadEp) (k := ?_)
        | refine TL.q (h := .indexR) (k := ?_)
        | refine TL.q (h := .loadA) (k := ?_)
        | refine TL.q (h := .loadEpA) (k := ?_)
        | refine TL.u (h := .st) (k := ?_)
        | refine TL.u (h := .stA) (k := ?_)
        | refine TL.u (h := .stEp) (k := ?_)
        | refine TL.u (h := .stEpA) (k := ?_)
        | refine TL.q (h := .subNil) (k := ?_)
        | (refine TL.e (h := .subL) (k := ?_); rintro _ _ ⟨_, rfl, rfl⟩)
        | (refine TL.e (h := .subH) (k := ?_); rintro _ _ ⟨_, rfl, rfl⟩)
        | (refine TL.e (h := .subLH) (k := ?_); rintro _ _ ⟨_, rfl, rfl⟩)
        | (refine TL.e (h := .subHM) (k := ?_); rintro _ _ ⟨_, rfl, rfl⟩)
        | refine TL.q (h := .assign) (k := ?_)
        | refine TL.q (h := .build) (k := ?_)
        | refine TL.q (h := .binI) (k := ?_))
      have h2' : w.op = 4 := by simpa using h2
      have hq : st.wanted = ({ op := 4, status := w.status }, { st with wants := ws }) := by simp [MAgent.wanted, hw, h1', h2']
      rw [hq]
      (first | refine RetQ.retI (L := agL b { st with wants := ws } sv cb q m') (ResIs.r1 Try.results145 (RV.cellA)) (by (repeat (first | exact Picks.nil | (apply Picks.cons; (repeat (first | exact Pick.here | apply Pick.there)))))) ?_ | refine RetQ.norI (L := agL b { st with wants := ws } sv cb q m') (ResIs.r1 Try.results145 (RV.cellA)) (by (repeat (first | exact Picks.nil | (apply Picks.cons; (repeat (first | exact Pick.here | apply Pick.there)))))) ?_)
      exact ⟨rfl, q, rfl⟩
    · skip
      repeat (first
        | with_reducible apply T.seq
        | with_reducible apply T.region
        | with_reducible apply TL.nil
        | with_reducible apply Thn.normal
        | with_reducible apply Thn.ret
        | with_reducible apply Thn.exit
        | with_reducible apply Blk.normal
        | with_reducible apply Blk.ret
        | ((with_reducible refine Blk.exitE ?_ ?_); · rfl)
        | ((with_reducible refine Blk.exitN ?_ ?_); · rfl)
        | with_reducible apply Rnd.ret
        | with_reducible apply Rnd.exit
        | with_reducible apply RndI.ret
        | with_reducible apply RndI.exit
        | with_reducible apply ThnI.ret
        | with_reducible apply ThnI.exit
        | with_reducible apply T.skip
        | with_reducible apply T.block
        | with_reducible apply T.ret
        | with_reducible apply T.exit
        | refine T.condT (h := ?_)
        | refine T.condF (h := ?_)
        | refine TL.pass (k := ?_)
        | refine TL.passN (k := ?_)
        | refine TL.take (k := ?_)
        | (refine TL.e (h := .al) (k := ?_); rintro _ _ ⟨_, rfl, rfl⟩)
        | refine TL.q (h := .move) (k := ?_)
        | refine TL.q (h := .nilCheck) (k := ?_)
        | refine TL.q (h := .fieldAddr) (k := ?_)
        | refine TL.q (h := .fieldEp) (k := ?_)
        | refine TL.q (h := .load) (k := ?_)
        | refine TL.q (h := .loadEp) (k := ?_)
        | refine TL.q (h := .indexR) (k := ?_)
        | refine TL.q (h := .loadA) (k := ?_)
        | refine TL.q (h := .loadEpA) (k := ?_)
        | refine TL.u (h := .st) (k := ?_)
        | refine TL.u (h := .stA) (k := ?_)
        | refine TL.u (h := .stEp) (k := ?_)
        | refine TL.u (h := .stEpA) (k := ?_)
        | refine TL.q (h := .subNil) (k := ?_)
        | (refine TL.e (h := .subL) (k := ?_); rintro _ _ ⟨_, rfl, rfl⟩)
        | (refine TL.e (h := .subH) (k := ?_); rintro _ _ ⟨_, rfl, rfl⟩)
        | (refine TL.e (h := .subLH) (k := ?_); rintro _ _ ⟨_, rfl, rfl⟩)
        | (refine TL.e (h := .subHM) (k := ?_); rintro _ _ ⟨_, rfl, rfl⟩)
        | refine TL.q (h := .assign) (k := ?_)
        | refine TL.q (h := .build) (k := ?_)
        | refine TL.q (h := .binI) (k := ?_))
      have h2' : ¬ w.op = 4 := by simpa using h2
      have hq : st.wanted = ({ op := 3 }, { st with wants := ws, wishes := false }) := by simp only [MAgent.wanted, hw, h1', h2', if_false]
      rw [hq]
      (first | refine RetQ.retI (L := agL b { st with wants := ws, wishes := false } sv cb q m') (ResIs.r1 Try.results145 (RV.cellA)) (by (repeat (first | exact Picks.nil | (apply Picks.cons; (repeat (first | exact Pick.here | apply Pick.there)))))) ?_ | refine RetQ.norI (L := agL b { st with wants := ws, wishes := false } sv cb q m') (ResIs.r1 Try.results145 (RV.cellA)) (by (repeat (first | exact Picks.nil | (apply Picks.cons; (repeat (first | exact Pick.here | apply Pick.there)))))) ?_)
      exact ⟨rfl, q, rfl⟩
def MMark.due (k : MMark) (now ticks : Int) : Bool := !k.did || decide (now - k.at_ ≥ ticks)
def MMark.ok (k : MMark) (now : Int) : Prop := 0 ≤ k.at_ ∧ k.at_ ≤ now
def MAgent.next (st : MAgent) : Option MMsg × MAgent :=
  if st.wants ≠ [] then (some st.wanted.1, st.wanted.2)
  else if st.wishes = true ∧ st.beat.due st.now 10 = true ∧ st.known = true then (some { op := 2 }, st)
  else if st.wishes = true ∧ st.beat.due st.now 10 = true then (some st.reg, st)
  else if st.fetch.due st.now 25 = true then (some { op := 5, seq := st.since }, st)
  else (none, st)
theorem next2 {st : MAgent} (hw : st.wants = []) : st.next.2 = st := by
  unfold MAgent.next
  simp only [hw, ne_eq, not_true_eq_false, if_false]
  repeat' split
  all_goals rfl
set_option maxHeartbeats 1000000 in
theorem agent_next (b : Nat) (st : MAgent) (sv : Sl) (cb : Nat) (wv : Sl) (m' : Bool) (hn : 0 ≤ st.now ∧ st.now ≤ 1000000000000) (hb : st.beat.ok st.now) (hf : st.fetch.ok st.now) (hwl : st.wants.length ≤ 1000) :
    Ctr Try.prog 102 #[.pointer (some ⟨b, 0, none⟩)] (agL b st sv cb wv m') fun v L => v = .tuple #[(st.next.1.getD {}).V, .bool st.next.1.isSome] ∧ ∃ wv', L = agL b st.next.2 sv cb wv' m' := by
  obtain ⟨hb1, hb2⟩ := hb
  obtain ⟨hf1, hf2⟩ := hf
  simp only [agL, agC]
  refine Ctr.of (n := 71) (args := [_]) Try.func102 rfl rfl rfl fun F => ?_
  simp only [List.zipIdx_cons, List.zipIdx_nil, List.map_cons, List.map_nil, Nat.zero_add, Nat.reduceAdd, List.cons_append, List.nil_append]
  repeat (first
    | with_reducible apply T.seq
    | with_reducible apply T.region
    | with_reducible apply TL.nil
    | with_reducible apply Thn.normal
    | with_reducible apply Thn.ret
    | with_reducible apply Thn.exit
    | with_reducible apply Blk.normal
    | with_reducible apply Blk.ret
    | ((with_reducible refine Blk.exitE ?_ ?_); · rfl)
    | ((with_reducible refine Blk.exitN ?_ ?_); · rfl)
    | with_reducible apply Rnd.ret
    | with_reducible apply Rnd.exit
    | with_reducible apply RndI.ret
    | with_reducible apply RndI.exit
    | with_reducible apply ThnI.ret
    | with_reducible apply ThnI.exit
    | with_reducible apply T.skip
    | with_reducible apply T.block
    | with_reducible apply T.ret
    | with_reducible apply T.exit
    | refine T.condT (h := ?_)
    | refine T.condF (h := ?_)
    | refine TL.pass (k := ?_)
    | refine TL.passN (k := ?_)
    | refine TL.take (k := ?_)
    | (refine TL.e (h := .al) (k := ?_); rintro _ _ ⟨_, rfl, rfl⟩)
    | refine TL.q (h := .assign) (k := ?_)
    | refine TL.q (h := .move) (k := ?_)
    | refine TL.q (h := .nilCheck) (k := ?_)
    | refine TL.q (h := .fieldAddr) (k := ?_)
    | refine TL.q (h := .fieldEp) (k := ?_)
    | refine TL.q (h := .load) (k := ?_)
    | refine TL.q (h := .loadEp) (k := ?_)
    | refine TL.q (h := .lenR) (k := ?_)
    | refine TL.q (h := .lenS) (k := ?_)
    | refine TL.u (h := .st) (k := ?_)
    | refine TL.u (h := .stA) (k := ?_)
    | refine TL.u (h := .stEp) (k := ?_)
    | refine TL.u (h := .stEpA) (k := ?_)
    | refine TL.q (h := .build) (k := ?_)
    | (refine TL.callF (h := agent_register _ _ _ _ _ _) (k := ?_); rintro _ _ ⟨rfl, rfl⟩)
    | (refine TL.callF (h := cache_Since _ _ _ _) (k := ?_); rintro _ _ ⟨rfl, rfl⟩)
    | refine TL.q (h := .binI) (k := ?_)
    | refine TL.q (h := .binS) (k := ?_))
  refine T.condD (ht := fun h1 => ?_) (hf := fun h1 => ?_)
  · obtain ⟨w, ws, hw⟩ : ∃ w ws, st.wants = w :: ws := by
      cases h : st.wants with
      | nil => rw [h] at h1; simp at h1
      | cons w ws => exact ⟨w, ws, rfl⟩
    repeat (first
      | with_reducible apply T.seq
      | with_reducible apply T.region
      | with_reducible apply TL.nil
      | with_reducible apply Thn.normal
      | with_reducible apply Thn.ret
      | with_reducible apply Thn.exit
      | with_reducible apply Blk.normal
      | with_reducible apply Blk.ret
      | ((with_reducible refine Blk.exitE ?_ ?_); · rfl)
      | ((with_reducible refine Blk.exitN ?_ ?_); · rfl)
      | with_reducible apply Rnd.ret
      | with_reducible apply Rnd.exit
      | with_reducible apply RndI.ret
      | with_reducible apply RndI.exit
      | with_reducible apply ThnI.ret
      | with_reducible apply ThnI.exit
      | with_reducible apply T.skip
      | with_reducible apply T.block
      | with_reducible apply T.ret
      | with_reducible apply T.exit
      | refine T.condT (h := ?_)
      | refine T.condF (h := ?_)
      | refine TL.pass (k := ?_)
      | refine TL.passN (k := ?_)
      | refine TL.take (k := ?_)
      | (refine TL.e (h := .al) (k := ?_); rintro _ _ ⟨_, rfl, rfl⟩)
      | refine TL.q (h := .assign) (k := ?_)
      | refine TL.q (h := .move) (k := ?_)
      | refine TL.q (h := .nilCheck) (k := ?_)
      | refine TL.q (h := .fieldAddr) (k := ?_)
      | refine TL.q (h := .fieldEp) (k := ?_)
      | refine TL.q (h := .load) (k := ?_)
      | refine TL.q (h := .loadEp) (k := ?_)
      | refine TL.q (h := .lenR) (k := ?_)
      | refine TL.q (h := .lenS) (k := ?_)
      | refine TL.u (h := .st) (k := ?_)
      | refine TL.u (h := .stA) (k := ?_)
      | refine TL.u (h := .stEp) (k := ?_)
      | refine TL.u (h := .stEpA) (k := ?_)
      | refine TL.q (h := .build) (k := ?_)
      | (refine TL.callF (h := agent_register _ _ _ _ _ _) (k := ?_); rintro _ _ ⟨rfl, rfl⟩)
      | (refine TL.callF (h := cache_Since _ _ _ _) (k := ?_); rintro _ _ ⟨rfl, rfl⟩)
      | refine TL.q (h := .binI) (k := ?_)
      | refine TL.q (h := .binS) (k := ?_))
    refine TL.callF (h := agent_wanted b st sv cb wv m' w ws hw) (k := ?_)
    rintro _ _ ⟨rfl, wv', rfl⟩
    simp only [MMsg.V, MMsg.C, agL, agC]
    repeat (first
      | with_reducible apply T.seq
      | with_reducible apply T.region
      | with_reducible apply TL.nil
      | with_reducible apply Thn.normal
      | with_reducible apply Thn.ret
      | with_reducible apply Thn.exit
      | with_reducible apply Blk.normal
      | with_reducible apply Blk.ret
      | ((with_reducible refine Blk.exitE ?_ ?_); · rfl)
      | ((with_reducible refine Blk.exitN ?_ ?_); · rfl)
      | with_reducible apply Rnd.ret
      | with_reducible apply Rnd.exit
      | with_reducible apply RndI.ret
      | with_reducible apply RndI.exit
      | with_reducible apply ThnI.ret
      | with_reducible apply ThnI.exit
      | with_reducible apply T.skip
      | with_reducible apply T.block
      | with_reducible apply T.ret
      | with_reducible apply T.exit
      | refine T.condT (h := ?_)
      | refine T.condF (h := ?_)
      | refine TL.pass (k := ?_)
      | refine TL.passN (k := ?_)
      | refine TL.take (k := ?_)
      | (refine TL.e (h := .al) (k := ?_); rintro _ _ ⟨_, rfl, rfl⟩)
      | refine TL.q (h := .assign) (k := ?_)
      | refine TL.q (h := .move) (k := ?_)
      | refine TL.q (h := .nilCheck) (k := ?_)
      | refine TL.q (h := .fieldAddr) (k := ?_)
      | refine TL.q (h := .fieldEp) (k := ?_)
      | refine TL.q (h := .load) (k := ?_)
      | refine TL.q (h := .loadEp) (k := ?_)
      | refine TL.q (h := .lenR) (k := ?_)
      | refine TL.q (h := .lenS) (k := ?_)
      | refine TL.u (h := .st) (k := ?_)
      | refine TL.u (h := .stA) (k := ?_)
      | refine TL.u (h := .stEp) (k := ?_)
      | refine TL.u (h := .stEpA) (k := ?_)
      | refine TL.q (h := .build) (k := ?_)
      | (refine TL.callF (h := agent_register _ _ _ _ _ _) (k := ?_); rintro _ _ ⟨rfl, rfl⟩)
      | (refine TL.callF (h := cache_Since _ _ _ _) (k := ?_); rintro _ _ ⟨rfl, rfl⟩)
      | refine TL.q (h := .binI) (k := ?_)
      | refine TL.q (h := .binS) (k := ?_))
    have hq : st.next = (some st.wanted.1, st.wanted.2) := by simp [MAgent.next, hw]
    rw [hq]
    (first | refine RetQ.retI (L := agL b st.wanted.2 sv cb wv' m') (ResIs.r2 Try.results102 (RV.cellA) (RV.tmp)) (by (repeat (first | exact Picks.nil | (apply Picks.cons; (repeat (first | exact Pick.here | apply Pick.there)))))) ?_ | refine RetQ.norI (L := agL b st.wanted.2 sv cb wv' m') (ResIs.r2 Try.results102 (RV.cellA) (RV.tmp)) (by (repeat (first | exact Picks.nil | (apply Picks.cons; (repeat (first | exact Pick.here | apply Pick.there)))))) ?_)
    exact ⟨rfl, wv', rfl⟩
  · have hw : st.wants = [] := by
      cases h : st.wants with
      | nil => rfl
      | cons w ws => rw [h] at h1; simp at h1
    repeat' (first
      | with_reducible apply T.seq
      | with_reducible apply T.region
      | with_reducible apply TL.nil
      | with_reducible apply Thn.normal
      | with_reducible apply Thn.ret
      | with_reducible apply Thn.exit
      | with_reducible apply Blk.normal
      | with_reducible apply Blk.ret
      | ((with_reducible refine Blk.exitE ?_ ?_); · rfl)
      | ((with_reducible refine Blk.exitN ?_ ?_); · rfl)
      | with_reducible apply Rnd.ret
      | with_reducible apply Rnd.exit
      | with_reducible apply RndI.ret
      | with_reducible apply RndI.exit
      | with_reducible apply ThnI.ret
      | with_reducible apply ThnI.exit
      | with_reducible apply T.skip
      | with_reducible apply T.block
      | with_reducible apply T.ret
      | with_reducible apply T.exit
      | refine T.condT (h := ?_)
      | refine T.condF (h := ?_)
      | refine TL.pass (k := ?_)
      | refine TL.passN (k := ?_)
      | refine TL.take (k := ?_)
      | (refine TL.e (h := .al) (k := ?_); rintro _ _ ⟨_, rfl, rfl⟩)
      | refine TL.q (h := .assign) (k := ?_)
      | refine TL.q (h := .move) (k := ?_)
      | refine TL.q (h := .nilCheck) (k := ?_)
      | refine TL.q (h := .fieldAddr) (k := ?_)
      | refine TL.q (h := .fieldEp) (k := ?_)
      | refine TL.q (h := .load) (k := ?_)
      | refine TL.q (h := .loadEp) (k := ?_)
      | refine TL.q (h := .lenR) (k := ?_)
      | refine TL.q (h := .lenS) (k := ?_)
      | refine TL.u (h := .st) (k := ?_)
      | refine TL.u (h := .stA) (k := ?_)
      | refine TL.u (h := .stEp) (k := ?_)
      | refine TL.u (h := .stEpA) (k := ?_)
      | refine TL.q (h := .build) (k := ?_)
      | (refine TL.callF (h := agent_register _ _ _ _ _ _) (k := ?_); rintro _ _ ⟨rfl, rfl⟩)
      | (refine TL.callF (h := cache_Since _ _ _ _) (k := ?_); rintro _ _ ⟨rfl, rfl⟩)
      | refine TL.q (h := .binI) (k := ?_)
      | refine TL.q (h := .binS) (k := ?_)
      | (skip
         all_goals refine TG.start (i := 3) mixed rfl ?_
         all_goals (first
           | refine TG.q0 0 (ho := rfl) (hv := .yes (h := .move)) (k := ?_)
           | refine TG.lv 0 (ho := rfl) (hv := .move) (k := ?_))
         all_goals (first
           | refine TG.q0 1 (ho := rfl) (hv := .yes (h := .nilCheck)) (k := ?_)
           | refine TG.lv 1 (ho := rfl) (hv := .nilCheck) (k := ?_))
         all_goals (first
           | refine TG.q0 2 (ho := rfl) (hv := .yes (h := .fieldAddr)) (k := ?_)
           | refine TG.qFieldEp 2 (ho := rfl) (h := ?_)
           | refine TG.lv 2 (ho := rfl) (hv := .fieldAddr) (k := ?_)
           | refine TG.lv 2 (ho := rfl) (hv := .fieldEp) (k := ?_))
         all_goals (first
           | refine TG.qLoad 3 (ho := rfl) (k := ?_)
           | refine TG.qLoadEp 3 (ho := rfl) (h := ?_)
           | refine TG.lv 3 (ho := rfl) (hv := .load) (k := ?_)
           | refine TG.lv 3 (ho := rfl) (hv := .loadEp) (k := ?_))
         all_goals (first
           | refine TG.q0 4 (ho := rfl) (hv := .yes (h := .move)) (k := ?_)
           | refine TG.lv 4 (ho := rfl) (hv := .move) (k := ?_))
         all_goals try (first | refine TG.litT 18 (k := ?_) | refine TG.litF 18 (k := ?_) | refine TG.lit 18 (fun _ => ?_) (fun _ => ?_))
         all_goals (first
           | refine TG.q0 5 (ho := rfl) (hv := .no) (k := ?_)
           | refine TG.q0 5 (ho := rfl) (hv := .yes (h := .move)) (k := ?_)
           | refine TG.lv 5 (ho := rfl) (hv := .move) (k := ?_))
         all_goals (first
           | refine TG.q0 6 (ho := rfl) (hv := .no) (k := ?_)
           | refine TG.q0 6 (ho := rfl) (hv := .yes (h := .nilCheck)) (k := ?_)
           | refine TG.lv 6 (ho := rfl) (hv := .nilCheck) (k := ?_))
         all_goals (first
           | refine TG.q0 7 (ho := rfl) (hv := .no) (k := ?_)
           | refine TG.q0 7 (ho := rfl) (hv := .yes (h := .fieldAddr)) (k := ?_)
           | refine TG.qFieldEp 7 (ho := rfl) (h := ?_)
           | refine TG.lv 7 (ho := rfl) (hv := .fieldAddr) (k := ?_)
           | refine TG.lv 7 (ho := rfl) (hv := .fieldEp) (k := ?_))
         all_goals (first
           | refine TG.q0 8 (ho := rfl) (hv := .no) (k := ?_)
           | refine TG.qLoadA 8 (ho := rfl) (k := ?_)
           | refine TG.qLoadEpA 8 (ho := rfl) (h := ?_)
           | refine TG.lv 8 (ho := rfl) (hv := .loadA) (k := ?_)
           | refine TG.lv 8 (ho := rfl) (hv := .loadEpA) (k := ?_))
         all_goals (first
           | refine TG.q0 9 (ho := rfl) (hv := .no) (k := ?_)
           | refine TG.q0 9 (ho := rfl) (hv := .yes (h := .move)) (k := ?_)
           | refine TG.lv 9 (ho := rfl) (hv := .move) (k := ?_))
         all_goals (first
           | refine TG.q0 10 (ho := rfl) (hv := .no) (k := ?_)
           | refine TG.q0 10 (ho := rfl) (hv := .yes (h := .nilCheck)) (k := ?_)
           | refine TG.lv 10 (ho := rfl) (hv := .nilCheck) (k := ?_))
         all_goals (first
           | refine TG.q0 11 (ho := rfl) (hv := .no) (k := ?_)
           | refine TG.q0 11 (ho := rfl) (hv := .yes (h := .fieldAddr)) (k := ?_)
           | refine TG.qFieldEp 11 (ho := rfl) (h := ?_)
           | refine TG.lv 11 (ho := rfl) (hv := .fieldAddr) (k := ?_)
           | refine TG.lv 11 (ho := rfl) (hv := .fieldEp) (k := ?_))
         all_goals (first
           | refine TG.q0 12 (ho := rfl) (hv := .no) (k := ?_)
           | refine TG.qLoad 12 (ho := rfl) (k := ?_)
           | refine TG.qLoadEp 12 (ho := rfl) (h := ?_)
           | refine TG.lv 12 (ho := rfl) (hv := .load) (k := ?_)
           | refine TG.lv 12 (ho := rfl) (hv := .loadEp) (k := ?_))
         all_goals (first
           | refine TG.q0 13 (ho := rfl) (hv := .no) (k := ?_)
           | (refine TG.ld 13 (ho := rfl) (hK := .callF (h := mark_due _ _ _ _ (by first | assumption | rfl | omega | (simp at *; omega)) (by first | assumption | rfl | omega | (simp at *; omega)) (by first | assumption | rfl | omega | (simp at *; omega)) (by first | assumption | rfl | omega | (simp at *; omega)))) (k := ?_); rintro _ _ ⟨_, rfl, rfl, rfl⟩; refine ⟨by (repeat (first | exact Held.nil | apply Held.zero | (apply Held.one; (repeat (first | exact Pick.here | apply Pick.there))))), ?_⟩))
         all_goals (first
           | refine TG.q0 14 (ho := rfl) (hv := .yes (h := .pickT)) (k := ?_)
           | refine TG.q0 14 (ho := rfl) (hv := .yes (h := .pickF)) (k := ?_)
           | refine TG.q0 14 (ho := rfl) (hv := .yes (h := .pickB)) (k := ?_)
           | refine TG.lv 14 (ho := rfl) (hv := .pickT) (k := ?_)
           | refine TG.lv 14 (ho := rfl) (hv := .pickF) (k := ?_)
           | refine TG.lv 14 (ho := rfl) (hv := .pickB) (k := ?_))
         all_goals (first
           | refine TG.q0 15 (ho := rfl) (hv := .yes (h := .move)) (k := ?_)
           | refine TG.lv 15 (ho := rfl) (hv := .move) (k := ?_))
         all_goals try (first | refine TG.litT 29 (k := ?_) | refine TG.litF 29 (k := ?_) | refine TG.lit 29 (fun _ => ?_) (fun _ => ?_))
         all_goals (first
           | refine TG.q0 16 (ho := rfl) (hv := .no) (k := ?_)
           | refine TG.q0 16 (ho := rfl) (hv := .yes (h := .move)) (k := ?_)
           | refine TG.lv 16 (ho := rfl) (hv := .move) (k := ?_))
         all_goals (first
           | refine TG.q0 17 (ho := rfl) (hv := .no) (k := ?_)
           | refine TG.q0 17 (ho := rfl) (hv := .yes (h := .nilCheck)) (k := ?_)
           | refine TG.lv 17 (ho := rfl) (hv := .nilCheck) (k := ?_))
         all_goals (first
           | refine TG.q0 18 (ho := rfl) (hv := .no) (k := ?_)
           | refine TG.q0 18 (ho := rfl) (hv := .yes (h := .fieldAddr)) (k := ?_)
           | refine TG.qFieldEp 18 (ho := rfl) (h := ?_)
           | refine TG.lv 18 (ho := rfl) (hv := .fieldAddr) (k := ?_)
           | refine TG.lv 18 (ho := rfl) (hv := .fieldEp) (k := ?_))
         all_goals (first
           | refine TG.q0 19 (ho := rfl) (hv := .no) (k := ?_)
           | refine TG.qLoad 19 (ho := rfl) (k := ?_)
           | refine TG.qLoadEp 19 (ho := rfl) (h := ?_)
           | refine TG.lv 19 (ho := rfl) (hv := .load) (k := ?_)
           | refine TG.lv 19 (ho := rfl) (hv := .loadEp) (k := ?_))
         all_goals (first
           | refine TG.q0 20 (ho := rfl) (hv := .yes (h := .pickT)) (k := ?_)
           | refine TG.q0 20 (ho := rfl) (hv := .yes (h := .pickF)) (k := ?_)
           | refine TG.q0 20 (ho := rfl) (hv := .yes (h := .pickB)) (k := ?_)
           | refine TG.lv 20 (ho := rfl) (hv := .pickT) (k := ?_)
           | refine TG.lv 20 (ho := rfl) (hv := .pickF) (k := ?_)
           | refine TG.lv 20 (ho := rfl) (hv := .pickB) (k := ?_))
         all_goals (first
           | refine TG.q0 21 (ho := rfl) (hv := .yes (h := .assign)) (k := ?_)
           | refine TG.lv 21 (ho := rfl) (hv := .assign) (k := ?_))
         all_goals apply TG.fin rfl)
      | (skip
         all_goals refine TG.start (i := 5) mixed rfl ?_
         all_goals (first
           | refine TG.q0 0 (ho := rfl) (hv := .yes (h := .move)) (k := ?_)
           | refine TG.lv 0 (ho := rfl) (hv := .move) (k := ?_))
         all_goals (first
           | refine TG.q0 1 (ho := rfl) (hv := .yes (h := .nilCheck)) (k := ?_)
           | refine TG.lv 1 (ho := rfl) (hv := .nilCheck) (k := ?_))
         all_goals (first
           | refine TG.q0 2 (ho := rfl) (hv := .yes (h := .fieldAddr)) (k := ?_)
           | refine TG.qFieldEp 2 (ho := rfl) (h := ?_)
           | refine TG.lv 2 (ho := rfl) (hv := .fieldAddr) (k := ?_)
           | refine TG.lv 2 (ho := rfl) (hv := .fieldEp) (k := ?_))
         all_goals (first
           | refine TG.qLoad 3 (ho := rfl) (k := ?_)
           | refine TG.qLoadEp 3 (ho := rfl) (h := ?_)
           | refine TG.lv 3 (ho := rfl) (hv := .load) (k := ?_)
           | refine TG.lv 3 (ho := rfl) (hv := .loadEp) (k := ?_))
         all_goals (first
           | refine TG.q0 4 (ho := rfl) (hv := .yes (h := .move)) (k := ?_)
           | refine TG.lv 4 (ho := rfl) (hv := .move) (k := ?_))
         all_goals try (first | refine TG.litT 41 (k := ?_) | refine TG.litF 41 (k := ?_) | refine TG.lit 41 (fun _ => ?_) (fun _ => ?_))
         all_goals (first
           | refine TG.q0 5 (ho := rfl) (hv := .no) (k := ?_)
           | refine TG.q0 5 (ho := rfl) (hv := .yes (h := .move)) (k := ?_)
           | refine TG.lv 5 (ho := rfl) (hv := .move) (k := ?_))
         all_goals (first
           | refine TG.q0 6 (ho := rfl) (hv := .no) (k := ?_)
           | refine TG.q0 6 (ho := rfl) (hv := .yes (h := .nilCheck)) (k := ?_)
           | refine TG.lv 6 (ho := rfl) (hv := .nilCheck) (k := ?_))
         all_goals (first
           | refine TG.q0 7 (ho := rfl) (hv := .no) (k := ?_)
           | refine TG.q0 7 (ho := rfl) (hv := .yes (h := .fieldAddr)) (k := ?_)
           | refine TG.qFieldEp 7 (ho := rfl) (h := ?_)
           | refine TG.lv 7 (ho := rfl) (hv := .fieldAddr) (k := ?_)
           | refine TG.lv 7 (ho := rfl) (hv := .fieldEp) (k := ?_))
         all_goals (first
           | refine TG.q0 8 (ho := rfl) (hv := .no) (k := ?_)
           | refine TG.qLoadA 8 (ho := rfl) (k := ?_)
           | refine TG.qLoadEpA 8 (ho := rfl) (h := ?_)
           | refine TG.lv 8 (ho := rfl) (hv := .loadA) (k := ?_)
           | refine TG.lv 8 (ho := rfl) (hv := .loadEpA) (k := ?_))
         all_goals (first
           | refine TG.q0 9 (ho := rfl) (hv := .no) (k := ?_)
           | refine TG.q0 9 (ho := rfl) (hv := .yes (h := .move)) (k := ?_)
           | refine TG.lv 9 (ho := rfl) (hv := .move) (k := ?_))
         all_goals (first
           | refine TG.q0 10 (ho := rfl) (hv := .no) (k := ?_)
           | refine TG.q0 10 (ho := rfl) (hv := .yes (h := .nilCheck)) (k := ?_)
           | refine TG.lv 10 (ho := rfl) (hv := .nilCheck) (k := ?_))
         all_goals (first
           | refine TG.q0 11 (ho := rfl) (hv := .no) (k := ?_)
           | refine TG.q0 11 (ho := rfl) (hv := .yes (h := .fieldAddr)) (k := ?_)
           | refine TG.qFieldEp 11 (ho := rfl) (h := ?_)
           | refine TG.lv 11 (ho := rfl) (hv := .fieldAddr) (k := ?_)
           | refine TG.lv 11 (ho := rfl) (hv := .fieldEp) (k := ?_))
         all_goals (first
           | refine TG.q0 12 (ho := rfl) (hv := .no) (k := ?_)
           | refine TG.qLoad 12 (ho := rfl) (k := ?_)
           | refine TG.qLoadEp 12 (ho := rfl) (h := ?_)
           | refine TG.lv 12 (ho := rfl) (hv := .load) (k := ?_)
           | refine TG.lv 12 (ho := rfl) (hv := .loadEp) (k := ?_))
         all_goals (first
           | refine TG.q0 13 (ho := rfl) (hv := .no) (k := ?_)
           | (refine TG.ld 13 (ho := rfl) (hK := .callF (h := mark_due _ _ _ _ (by first | assumption | rfl | omega | (simp at *; omega)) (by first | assumption | rfl | omega | (simp at *; omega)) (by first | assumption | rfl | omega | (simp at *; omega)) (by first | assumption | rfl | omega | (simp at *; omega)))) (k := ?_); rintro _ _ ⟨_, rfl, rfl, rfl⟩; refine ⟨by (repeat (first | exact Held.nil | apply Held.zero | (apply Held.one; (repeat (first | exact Pick.here | apply Pick.there))))), ?_⟩))
         all_goals (first
           | refine TG.q0 14 (ho := rfl) (hv := .yes (h := .pickT)) (k := ?_)
           | refine TG.q0 14 (ho := rfl) (hv := .yes (h := .pickF)) (k := ?_)
           | refine TG.q0 14 (ho := rfl) (hv := .yes (h := .pickB)) (k := ?_)
           | refine TG.lv 14 (ho := rfl) (hv := .pickT) (k := ?_)
           | refine TG.lv 14 (ho := rfl) (hv := .pickF) (k := ?_)
           | refine TG.lv 14 (ho := rfl) (hv := .pickB) (k := ?_))
         all_goals (first
           | refine TG.q0 15 (ho := rfl) (hv := .yes (h := .assign)) (k := ?_)
           | refine TG.lv 15 (ho := rfl) (hv := .assign) (k := ?_))
         all_goals apply TG.fin rfl)
      | (skip
         all_goals refine TG.start (i := 7) mixed rfl ?_
         all_goals (first
           | refine TG.q0 0 (ho := rfl) (hv := .yes (h := .move)) (k := ?_)
           | refine TG.lv 0 (ho := rfl) (hv := .move) (k := ?_))
         all_goals (first
           | refine TG.q0 1 (ho := rfl) (hv := .yes (h := .nilCheck)) (k := ?_)
           | refine TG.lv 1 (ho := rfl) (hv := .nilCheck) (k := ?_))
         all_goals (first
           | refine TG.q0 2 (ho := rfl) (hv := .yes (h := .fieldAddr)) (k := ?_)
           | refine TG.qFieldEp 2 (ho := rfl) (h := ?_)
           | refine TG.lv 2 (ho := rfl) (hv := .fieldAddr) (k := ?_)
           | refine TG.lv 2 (ho := rfl) (hv := .fieldEp) (k := ?_))
         all_goals (first
           | refine TG.qLoadA 3 (ho := rfl) (k := ?_)
           | refine TG.qLoadEpA 3 (ho := rfl) (h := ?_)
           | refine TG.lv 3 (ho := rfl) (hv := .loadA) (k := ?_)
           | refine TG.lv 3 (ho := rfl) (hv := .loadEpA) (k := ?_))
         all_goals (first
           | refine TG.q0 4 (ho := rfl) (hv := .yes (h := .move)) (k := ?_)
           | refine TG.lv 4 (ho := rfl) (hv := .move) (k := ?_))
         all_goals (first
           | refine TG.q0 5 (ho := rfl) (hv := .yes (h := .nilCheck)) (k := ?_)
           | refine TG.lv 5 (ho := rfl) (hv := .nilCheck) (k := ?_))
         all_goals (first
           | refine TG.q0 6 (ho := rfl) (hv := .yes (h := .fieldAddr)) (k := ?_)
           | refine TG.qFieldEp 6 (ho := rfl) (h := ?_)
           | refine TG.lv 6 (ho := rfl) (hv := .fieldAddr) (k := ?_)
           | refine TG.lv 6 (ho := rfl) (hv := .fieldEp) (k := ?_))
         all_goals (first
           | refine TG.qLoad 7 (ho := rfl) (k := ?_)
           | refine TG.qLoadEp 7 (ho := rfl) (h := ?_)
           | refine TG.lv 7 (ho := rfl) (hv := .load) (k := ?_)
           | refine TG.lv 7 (ho := rfl) (hv := .loadEp) (k := ?_))
         all_goals (first
           | (refine TG.ld 8 (ho := rfl) (hK := .callF (h := mark_due _ _ _ _ (by first | assumption | rfl | omega | (simp at *; omega)) (by first | assumption | rfl | omega | (simp at *; omega)) (by first | assumption | rfl | omega | (simp at *; omega)) (by first | assumption | rfl | omega | (simp at *; omega)))) (k := ?_); rintro _ _ ⟨_, rfl, rfl, rfl⟩; refine ⟨by (repeat (first | exact Held.nil | apply Held.zero | (apply Held.one; (repeat (first | exact Pick.here | apply Pick.there))))), ?_⟩))
         all_goals (first
           | refine TG.q0 9 (ho := rfl) (hv := .yes (h := .assign)) (k := ?_)
           | refine TG.lv 9 (ho := rfl) (hv := .assign) (k := ?_))
         all_goals apply TG.fin rfl)
      | refine TL.gT (k := ?_)
      | refine TL.gF (k := ?_)
      | refine T.cT (h := ?_)
      | refine T.cF (h := ?_)
      | (refine TL.gcase (ht := fun _ => ?_) (hf := fun _ => ?_))
      | refine T.cond (by (simp only [St.ev, slk, Nat.reduceBEq, cond_true, cond_false]; first | done | rfl)) (fun _ => ?_) (fun _ => ?_))
    all_goals (
      have hq2 : st.next.2 = st := next2 hw
      (first | refine RetQ.retI (L := agL b st sv cb wv m') (ResIs.r2 Try.results102 (RV.cellA) (RV.tmp)) (by (repeat (first | exact Picks.nil | (apply Picks.cons; (repeat (first | exact Pick.here | apply Pick.there)))))) ?_ | refine RetQ.norI (L := agL b st sv cb wv m') (ResIs.r2 Try.results102 (RV.cellA) (RV.tmp)) (by (repeat (first | exact Picks.nil | (apply Picks.cons; (repeat (first | exact Pick.here | apply Pick.there)))))) ?_)
      refine ⟨?_, wv, by rw [hq2]; rfl⟩
      first
        | (simp [MAgent.next, MMark.due, hw, MMsg.V, MMsg.C, *]; done)
        | (exfalso; simp_all; done))
def MMsg.asks (m : MMsg) (st : MAgent) : MMsg := { m with kind := 1, tag := st.ask.tag + 1 }
def MMsg.keyed (m : MMsg) (st : MAgent) : MMsg := { m with kind := 1, tag := st.ask.tag + 1, app := st.app, id := st.id }
def MAgent.s5 (st : MAgent) (m : MMsg) : MAgent := { st with fetch := ⟨true, st.now⟩, ask := m.asks st, asked := st.now, waits := true }
def MAgent.s1 (st : MAgent) (m : MMsg) : MAgent := { st with beat := ⟨true, st.now⟩, ask := m.keyed st, asked := st.now, waits := true }
def MAgent.s0 (st : MAgent) (m : MMsg) : MAgent := { st with ask := m.keyed st, asked := st.now, waits := true }
def MAgent.send (st : MAgent) (m : MMsg) : MMsg × MAgent := bif m.op == 5 then (m.asks st, st.s5 m) else bif m.op == 1 || m.op == 2 then (m.keyed st, st.s1 m) else (m.keyed st, st.s0 m)
theorem send5 {st : MAgent} {m : MMsg} (h : (m.op == 5) = true) : st.send m = (m.asks st, st.s5 m) := by simp only [MAgent.send, h, cond_true]
theorem send1 {st : MAgent} {m : MMsg} (h : (m.op == 5) = false) (h1 : (m.op == 1) = true) : st.send m = (m.keyed st, st.s1 m) := by simp only [MAgent.send, h, h1, cond_true, cond_false, Bool.true_or]
theorem send2 {st : MAgent} {m : MMsg} (h : (m.op == 5) = false) (h1 : (m.op == 2) = true) : st.send m = (m.keyed st, st.s1 m) := by simp only [MAgent.send, h, h1, cond_true, cond_false, Bool.or_true]
theorem send0 {st : MAgent} {m : MMsg} (h : (m.op == 5) = false) (h1 : (m.op == 1) = false) (h2 : (m.op == 2) = false) : st.send m = (m.keyed st, st.s0 m) := by simp only [MAgent.send, h, h1, h2, cond_false, Bool.or_false]
def MMsg.S (m : MMsg) (to : Int) : List Value := [.int .i64 to, .int .i64 m.kind, .int .i64 m.op, .int .i64 m.status, .int .i64 m.code, .int .i64 m.tag, .int .i64 m.n, .int .i64 m.seq, .string m.app, .string m.id, .bool m.full, .int .u32 m.sum, .slice none 0 0, .slice none 0 0]
set_option maxHeartbeats 2000000 in
theorem agent_send (b : Nat) (st : MAgent) (sv : Sl) (cb : Nat) (wv : Sl) (m' : Bool) (m : MMsg) (x : Int) (hx : st.servers[st.server]? = some x) (ht : 0 ≤ st.ask.tag ∧ st.ask.tag ≤ 1000000000000) :
    Ctr Try.prog 103 #[.pointer (some ⟨b, 0, none⟩), m.V] (agL b st sv cb wv m') fun v L => v = .agg ((st.send m).1.S x).toArray ∧ L = agL b (st.send m).2 sv cb wv m' := by
  simp only [agL, agC, MMsg.V, MMsg.C]
  refine Ctr.of (n := 59) (args := [_, _]) Try.func103 rfl rfl rfl fun F => ?_
  simp only [List.zipIdx_cons, List.zipIdx_nil, List.map_cons, List.map_nil, Nat.zero_add, Nat.reduceAdd, List.cons_append, List.nil_append]
  repeat' (first
    | with_reducible apply T.seq
    | with_reducible apply T.region
    | with_reducible apply TL.nil
    | with_reducible apply Thn.normal
    | with_reducible apply Thn.ret
    | with_reducible apply Thn.exit
    | with_reducible apply Blk.normal
    | with_reducible apply Blk.ret
    | ((with_reducible refine Blk.exitE ?_ ?_); · rfl)
    | ((with_reducible refine Blk.exitN ?_ ?_); · rfl)
    | with_reducible apply Rnd.ret
    | with_reducible apply Rnd.exit
    | with_reducible apply RndI.ret
    | with_reducible apply RndI.exit
    | with_reducible apply ThnI.ret
    | with_reducible apply ThnI.exit
    | with_reducible apply T.skip
    | with_reducible apply T.block
    | with_reducible apply T.ret
    | with_reducible apply T.exit
    | refine T.condT (h := ?_)
    | refine T.condF (h := ?_)
    | refine TL.pass (k := ?_)
    | refine TL.passN (k := ?_)
    | refine TL.take (k := ?_)
    | (refine TL.e (h := .bx) (k := ?_); rintro _ _ ⟨_, rfl, rfl⟩)
    | (refine TL.e (h := .al) (k := ?_); rintro _ _ ⟨_, rfl, rfl⟩)
    | refine TL.q (h := .fieldAddr) (k := ?_)
    | refine TL.q (h := .fieldEp) (k := ?_)
    | refine TL.q (h := .load) (k := ?_)
    | refine TL.q (h := .loadEp) (k := ?_)
    | refine TL.q (h := .assign) (k := ?_)
    | refine TL.q (h := .move) (k := ?_)
    | refine TL.q (h := .nilCheck) (k := ?_)
    | refine TL.q (h := .build) (k := ?_)
    | refine TL.u (h := .st) (k := ?_)
    | refine TL.u (h := .stA) (k := ?_)
    | refine TL.u (h := .stEp) (k := ?_)
    | refine TL.u (h := .stEpA) (k := ?_)
    | refine TL.q (h := .loadA) (k := ?_)
    | refine TL.q (h := .loadEpA) (k := ?_)
    | refine TL.q (h := .binI) (k := ?_)
    | (skip
       all_goals refine TG.start (i := 1) mixed rfl ?_
       all_goals (first
         | refine TG.q0 0 (ho := rfl) (hv := .yes (h := .move)) (k := ?_)
         | refine TG.lv 0 (ho := rfl) (hv := .move) (k := ?_))
       all_goals (first
         | refine TG.q0 1 (ho := rfl) (hv := .yes (h := .nilCheck)) (k := ?_)
         | refine TG.lv 1 (ho := rfl) (hv := .nilCheck) (k := ?_))
       all_goals (first
         | refine TG.q0 2 (ho := rfl) (hv := .yes (h := .fieldAddr)) (k := ?_)
         | refine TG.qFieldEp 2 (ho := rfl) (h := ?_)
         | refine TG.lv 2 (ho := rfl) (hv := .fieldAddr) (k := ?_)
         | refine TG.lv 2 (ho := rfl) (hv := .fieldEp) (k := ?_))
       all_goals (first
         | refine TG.q0 3 (ho := rfl) (hv := .yes (h := .fieldAddr)) (k := ?_)
         | refine TG.qFieldEp 3 (ho := rfl) (h := ?_)
         | refine TG.lv 3 (ho := rfl) (hv := .fieldAddr) (k := ?_)
         | refine TG.lv 3 (ho := rfl) (hv := .fieldEp) (k := ?_))
       all_goals (first
         | refine TG.qLoad 4 (ho := rfl) (k := ?_)
         | refine TG.qLoadEp 4 (ho := rfl) (h := ?_)
         | refine TG.lv 4 (ho := rfl) (hv := .load) (k := ?_)
         | refine TG.lv 4 (ho := rfl) (hv := .loadEp) (k := ?_))
       all_goals (first
         | refine TG.q0 5 (ho := rfl) (hv := .yes (h := .add)) (k := ?_)
         | refine TG.q0 5 (ho := rfl) (hv := .yes (h := .binI)) (k := ?_)
         | refine TG.q0 5 (ho := rfl) (hv := .yes (h := .catS)) (k := ?_)
         | refine TG.lv 5 (ho := rfl) (hv := .add) (k := ?_)
         | refine TG.lv 5 (ho := rfl) (hv := .binI) (k := ?_)
         | refine TG.lv 5 (ho := rfl) (hv := .catS) (k := ?_))
       all_goals (first
         | refine TG.q0 6 (ho := rfl) (hv := .yes (h := .fieldAddr)) (k := ?_)
         | refine TG.qFieldEp 6 (ho := rfl) (h := ?_)
         | refine TG.lv 6 (ho := rfl) (hv := .fieldAddr) (k := ?_)
         | refine TG.lv 6 (ho := rfl) (hv := .fieldEp) (k := ?_))
       all_goals (first
         | refine TG.lu 7 (ho := rfl) (hK := .st) (k := ?_)
         | refine TG.lu 7 (ho := rfl) (hK := .stA) (k := ?_)
         | refine TG.lu 7 (ho := rfl) (hK := .stEp) (k := ?_)
         | refine TG.lu 7 (ho := rfl) (hK := .stEpA) (k := ?_))
       all_goals (first
         | refine TG.q0 8 (ho := rfl) (hv := .yes (h := .fieldAddr)) (k := ?_)
         | refine TG.qFieldEp 8 (ho := rfl) (h := ?_)
         | refine TG.lv 8 (ho := rfl) (hv := .fieldAddr) (k := ?_)
         | refine TG.lv 8 (ho := rfl) (hv := .fieldEp) (k := ?_))
       all_goals (first
         | refine TG.lu 9 (ho := rfl) (hK := .st) (k := ?_)
         | refine TG.lu 9 (ho := rfl) (hK := .stA) (k := ?_)
         | refine TG.lu 9 (ho := rfl) (hK := .stEp) (k := ?_)
         | refine TG.lu 9 (ho := rfl) (hK := .stEpA) (k := ?_))
       all_goals apply TG.fin rfl)
    | (skip
       all_goals refine TG.start (i := 9) mixed rfl ?_
       all_goals (first
         | refine TG.q0 0 (ho := rfl) (hv := .yes (h := .move)) (k := ?_)
         | refine TG.lv 0 (ho := rfl) (hv := .move) (k := ?_))
       all_goals (first
         | refine TG.q0 1 (ho := rfl) (hv := .yes (h := .move)) (k := ?_)
         | refine TG.lv 1 (ho := rfl) (hv := .move) (k := ?_))
       all_goals (first
         | refine TG.q0 2 (ho := rfl) (hv := .yes (h := .move)) (k := ?_)
         | refine TG.lv 2 (ho := rfl) (hv := .move) (k := ?_))
       all_goals (first
         | refine TG.qLoadA 3 (ho := rfl) (k := ?_)
         | refine TG.qLoadEpA 3 (ho := rfl) (h := ?_)
         | refine TG.lv 3 (ho := rfl) (hv := .loadA) (k := ?_)
         | refine TG.lv 3 (ho := rfl) (hv := .loadEpA) (k := ?_))
       all_goals (first
         | refine TG.q0 4 (ho := rfl) (hv := .yes (h := .move)) (k := ?_)
         | refine TG.lv 4 (ho := rfl) (hv := .move) (k := ?_))
       all_goals (first
         | refine TG.q0 5 (ho := rfl) (hv := .yes (h := .nilCheck)) (k := ?_)
         | refine TG.lv 5 (ho := rfl) (hv := .nilCheck) (k := ?_))
       all_goals (first
         | refine TG.q0 6 (ho := rfl) (hv := .yes (h := .fieldAddr)) (k := ?_)
         | refine TG.qFieldEp 6 (ho := rfl) (h := ?_)
         | refine TG.lv 6 (ho := rfl) (hv := .fieldAddr) (k := ?_)
         | refine TG.lv 6 (ho := rfl) (hv := .fieldEp) (k := ?_))
       all_goals (first
         | refine TG.qLoad 7 (ho := rfl) (k := ?_)
         | refine TG.qLoadEp 7 (ho := rfl) (h := ?_)
         | refine TG.lv 7 (ho := rfl) (hv := .load) (k := ?_)
         | refine TG.lv 7 (ho := rfl) (hv := .loadEp) (k := ?_))
       all_goals (first
         | refine TG.q0 8 (ho := rfl) (hv := .yes (h := .nilCheck)) (k := ?_)
         | refine TG.lv 8 (ho := rfl) (hv := .nilCheck) (k := ?_))
       all_goals (first
         | refine TG.q0 9 (ho := rfl) (hv := .yes (h := .fieldAddr)) (k := ?_)
         | refine TG.qFieldEp 9 (ho := rfl) (h := ?_)
         | refine TG.lv 9 (ho := rfl) (hv := .fieldAddr) (k := ?_)
         | refine TG.lv 9 (ho := rfl) (hv := .fieldEp) (k := ?_))
       all_goals (first
         | refine TG.lu 10 (ho := rfl) (hK := .st) (k := ?_)
         | refine TG.lu 10 (ho := rfl) (hK := .stA) (k := ?_)
         | refine TG.lu 10 (ho := rfl) (hK := .stEp) (k := ?_)
         | refine TG.lu 10 (ho := rfl) (hK := .stEpA) (k := ?_))
       all_goals (first
         | refine TG.q0 11 (ho := rfl) (hv := .yes (h := .nilCheck)) (k := ?_)
         | refine TG.lv 11 (ho := rfl) (hv := .nilCheck) (k := ?_))
       all_goals (first
         | refine TG.q0 12 (ho := rfl) (hv := .yes (h := .fieldAddr)) (k := ?_)
         | refine TG.qFieldEp 12 (ho := rfl) (h := ?_)
         | refine TG.lv 12 (ho := rfl) (hv := .fieldAddr) (k := ?_)
         | refine TG.lv 12 (ho := rfl) (hv := .fieldEp) (k := ?_))
       all_goals (first
         | refine TG.lu 13 (ho := rfl) (hK := .st) (k := ?_)
         | refine TG.lu 13 (ho := rfl) (hK := .stA) (k := ?_)
         | refine TG.lu 13 (ho := rfl) (hK := .stEp) (k := ?_)
         | refine TG.lu 13 (ho := rfl) (hK := .stEpA) (k := ?_))
       all_goals (first
         | refine TG.q0 14 (ho := rfl) (hv := .yes (h := .nilCheck)) (k := ?_)
         | refine TG.lv 14 (ho := rfl) (hv := .nilCheck) (k := ?_))
       all_goals (first
         | refine TG.q0 15 (ho := rfl) (hv := .yes (h := .fieldAddr)) (k := ?_)
         | refine TG.qFieldEp 15 (ho := rfl) (h := ?_)
         | refine TG.lv 15 (ho := rfl) (hv := .fieldAddr) (k := ?_)
         | refine TG.lv 15 (ho := rfl) (hv := .fieldEp) (k := ?_))
       all_goals (first
         | refine TG.lu 16 (ho := rfl) (hK := .st) (k := ?_)
         | refine TG.lu 16 (ho := rfl) (hK := .stA) (k := ?_)
         | refine TG.lu 16 (ho := rfl) (hK := .stEp) (k := ?_)
         | refine TG.lu 16 (ho := rfl) (hK := .stEpA) (k := ?_))
       all_goals apply TG.fin rfl)
    | (skip
       all_goals refine TG.start (i := 10) mixed rfl ?_
       all_goals (first
         | refine TG.q0 0 (ho := rfl) (hv := .yes (h := .move)) (k := ?_)
         | refine TG.lv 0 (ho := rfl) (hv := .move) (k := ?_))
       all_goals (first
         | refine TG.qLoadA 2 (ho := rfl) (k := ?_)
         | refine TG.qLoadEpA 2 (ho := rfl) (h := ?_)
         | refine TG.lv 2 (ho := rfl) (hv := .loadA) (k := ?_)
         | refine TG.lv 2 (ho := rfl) (hv := .loadEpA) (k := ?_))
       all_goals (first
         | (refine TG.ld 1 (ho := rfl) (hK := .callF (h := agent_Server _ _ _ _ _ _ _ _ (by first | assumption | rfl | omega | (simp at *; omega)) (by first | assumption | rfl | omega | (simp at *; omega)) (by first | assumption | rfl | omega | (simp at *; omega)))) (k := ?_); rintro _ _ ⟨_, rfl, rfl, rfl⟩; refine ⟨by (repeat (first | exact Held.nil | apply Held.zero | (apply Held.one; (repeat (first | exact Pick.here | apply Pick.there))))), ?_⟩))
       all_goals (first
         | refine TG.q0 3 (ho := rfl) (hv := .yes (h := .build)) (k := ?_)
         | refine TG.lv 3 (ho := rfl) (hv := .build) (k := ?_))
       all_goals (first
         | refine TG.lu 4 (ho := rfl) (hK := .st) (k := ?_)
         | refine TG.lu 4 (ho := rfl) (hK := .stA) (k := ?_)
         | refine TG.lu 4 (ho := rfl) (hK := .stEp) (k := ?_)
         | refine TG.lu 4 (ho := rfl) (hK := .stEpA) (k := ?_))
       all_goals apply TG.fin rfl)
    | refine TL.gT (k := ?_)
    | refine TL.gF (k := ?_)
    | refine T.cT (h := ?_)
    | refine T.cF (h := ?_)
    | (refine TL.gcase (ht := fun _ => ?_) (hf := fun _ => ?_))
    | refine T.cond (by (simp only [St.ev, slk, Nat.reduceBEq, cond_true, cond_false]; first | done | rfl)) (fun _ => ?_) (fun _ => ?_))
  all_goals first
    | (rw [send5 (st := st) (m := m) (by assumption)]
       (first | refine RetQ.retI (L := agL b (st.s5 m) sv cb wv m') (ResIs.r1 Try.results103 (RV.cellA)) (by (repeat (first | exact Picks.nil | (apply Picks.cons; (repeat (first | exact Pick.here | apply Pick.there)))))) ?_ | refine RetQ.norI (L := agL b (st.s5 m) sv cb wv m') (ResIs.r1 Try.results103 (RV.cellA)) (by (repeat (first | exact Picks.nil | (apply Picks.cons; (repeat (first | exact Pick.here | apply Pick.there)))))) ?_)
       exact ⟨rfl, rfl⟩)
    | (rw [send1 (st := st) (m := m) (by assumption) (by assumption)]
       (first | refine RetQ.retI (L := agL b (st.s1 m) sv cb wv m') (ResIs.r1 Try.results103 (RV.cellA)) (by (repeat (first | exact Picks.nil | (apply Picks.cons; (repeat (first | exact Pick.here | apply Pick.there)))))) ?_ | refine RetQ.norI (L := agL b (st.s1 m) sv cb wv m') (ResIs.r1 Try.results103 (RV.cellA)) (by (repeat (first | exact Picks.nil | (apply Picks.cons; (repeat (first | exact Pick.here | apply Pick.there)))))) ?_)
       exact ⟨rfl, rfl⟩)
    | (rw [send2 (st := st) (m := m) (by assumption) (by assumption)]
       (first | refine RetQ.retI (L := agL b (st.s1 m) sv cb wv m') (ResIs.r1 Try.results103 (RV.cellA)) (by (repeat (first | exact Picks.nil | (apply Picks.cons; (repeat (first | exact Pick.here | apply Pick.there)))))) ?_ | refine RetQ.norI (L := agL b (st.s1 m) sv cb wv m') (ResIs.r1 Try.results103 (RV.cellA)) (by (repeat (first | exact Picks.nil | (apply Picks.cons; (repeat (first | exact Pick.here | apply Pick.there)))))) ?_)
       exact ⟨rfl, rfl⟩)
    | (rw [send0 (st := st) (m := m) (by assumption) (by assumption) (by assumption)]
       (first | refine RetQ.retI (L := agL b (st.s0 m) sv cb wv m') (ResIs.r1 Try.results103 (RV.cellA)) (by (repeat (first | exact Picks.nil | (apply Picks.cons; (repeat (first | exact Pick.here | apply Pick.there)))))) ?_ | refine RetQ.norI (L := agL b (st.s0 m) sv cb wv m') (ResIs.r1 Try.results103 (RV.cellA)) (by (repeat (first | exact Picks.nil | (apply Picks.cons; (repeat (first | exact Pick.here | apply Pick.there)))))) ?_)
       exact ⟨rfl, rfl⟩)
end Go.Proofs.Ytpbomaelkpjbbaa

