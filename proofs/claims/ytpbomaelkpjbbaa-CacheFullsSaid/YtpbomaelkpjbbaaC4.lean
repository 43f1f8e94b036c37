import Derived.Test.YtpbomaelkpjbbaaC3
namespace Go.Proofs.Ytpbomaelkpjbbaa
open Go.Fw
attribute [local irreducible] T TL TG Thn Blk Rnd RndI RetQ OpV OpE OpU OpK Ctr row cel ep
abbrev ptr (b : Nat) : Value := .pointer (some ⟨b, 0, none⟩)
theorem cache_New : Ctr Try.prog 17 #[] [] fun v L => ∃ cb : Nat, v = .pointer (some ⟨cb, 0, none⟩) ∧ L = [cel true cb 106 [.slice none 0 0, .int .i64 (-1)]] := by
  refine Ctr.of (n := 3) (args := []) Try.func17 rfl rfl rfl fun F => ?_
  simp only [List.zipIdx_cons, List.zipIdx_nil, List.map_cons, List.map_nil, Nat.zero_add, Nat.reduceAdd, List.cons_append, List.nil_append]
  repeat' (first
    | with_reducible apply T.seq
    | with_reducible apply T.region
    | with_reducible apply TL.nil
    | with_reducible apply Thn.normal
    | with_reducible apply Thn.ret
    | with_reducible apply Thn.exit
    | with_reducible apply Blk.normal
    | with_reducible apply Blk.ret
    | ((with_reducible refine Blk.exitE ?_ ?_); · rfl)
    | ((with_reducible refine Blk.exitN ?_ ?_); · rfl)
    | with_reducible apply Rnd.ret
    | with_reducible apply Rnd.exit
    | with_reducible apply RndI.ret
    | with_reducible apply RndI.exit
    | with_reducible apply ThnI.ret
    | with_reducible apply ThnI.exit
    | with_reducible apply T.skip
    | with_reducible apply T.block
    | with_reducible apply T.ret
    | with_reducible apply T.exit
    | refine T.condT (h := ?_)
    | refine T.condF (h := ?_)
    | refine TL.pass (k := ?_)
    | refine TL.passN (k := ?_)
    | refine TL.take (k := ?_)
    | refine TL.q (h := .assign) (k := ?_)
    | refine TL.q (h := .build) (k := ?_)
    | (refine TL.e (h := .bx) (k := ?_); rintro _ _ ⟨_, rfl, rfl⟩)
    | refine TL.gT (k := ?_)
    | refine TL.gF (k := ?_)
    | refine T.cT (h := ?_)
    | refine T.cF (h := ?_)
    | (refine TL.gcase (ht := fun _ => ?_) (hf := fun _ => ?_))
    | refine T.cond (by (simp only [St.ev, slk, Nat.reduceBEq, cond_true, cond_false]; first | done | rfl)) (fun _ => ?_) (fun _ => ?_))
  (first | refine RetQ.retI (L := [_]) (ResIs.r1 Try.results17 (RV.tmp)) (by (repeat (first | exact Picks.nil | (apply Picks.cons; (repeat (first | exact Pick.here | apply Pick.there)))))) ?_ | refine RetQ.norI (L := [_]) (ResIs.r1 Try.results17 (RV.tmp)) (by (repeat (first | exact Picks.nil | (apply Picks.cons; (repeat (first | exact Pick.here | apply Pick.there)))))) ?_)
  exact ⟨_, rfl, rfl⟩
theorem cache_Since (m : Bool) (cb : Nat) (x : Value) (s : Int) : Ctr Try.prog 23 #[.pointer (some ⟨cb, 0, none⟩)] [cel m cb 106 [x, .int .i64 s]] fun v L => v = .int .i64 s ∧ L = [cel m cb 106 [x, .int .i64 s]] := by
  refine Ctr.of (n := 7) (args := [_]) Try.func23 rfl rfl rfl fun F => ?_
  simp only [List.zipIdx_cons, List.zipIdx_nil, List.map_cons, List.map_nil, Nat.zero_add, Nat.reduceAdd, List.cons_append, List.nil_append]
  repeat' (first
    | with_reducible apply T.seq
    | with_reducible apply T.region
    | with_reducible apply TL.nil
    | with_reducible apply Thn.normal
    | with_reducible apply Thn.ret
    | with_reducible apply Thn.exit
    | with_reducible apply Blk.normal
    | with_reducible apply Blk.ret
    | ((with_reducible refine Blk.exitE ?_ ?_); · rfl)
    | ((with_reducible refine Blk.exitN ?_ ?_); · rfl)
    | with_reducible apply Rnd.ret
    | with_reducible apply Rnd.exit
    | with_reducible apply RndI.ret
    | with_reducible apply RndI.exit
    | with_reducible apply ThnI.ret
    | with_reducible apply ThnI.exit
    | with_reducible apply T.skip
    | with_reducible apply T.block
    | with_reducible apply T.ret
    | with_reducible apply T.exit
    | refine T.condT (h := ?_)
    | refine T.condF (h := ?_)
    | refine TL.pass (k := ?_)
    | refine TL.passN (k := ?_)
    | refine TL.take (k := ?_)
    | refine TL.q (h := .assign) (k := ?_)
    | refine TL.q (h := .move) (k := ?_)
    | refine TL.q (h := .nilCheck) (k := ?_)
    | refine TL.q (h := .fieldAddr) (k := ?_)
    | refine TL.q (h := .fieldEp) (k := ?_)
    | refine TL.q (h := .load) (k := ?_)
    | refine TL.q (h := .loadEp) (k := ?_)
    | refine TL.gT (k := ?_)
    | refine TL.gF (k := ?_)
    | refine T.cT (h := ?_)
    | refine T.cF (h := ?_)
    | (refine TL.gcase (ht := fun _ => ?_) (hf := fun _ => ?_))
    | refine T.cond (by (simp only [St.ev, slk, Nat.reduceBEq, cond_true, cond_false]; first | done | rfl)) (fun _ => ?_) (fun _ => ?_))
  first | refine RetQ.retI (L := [_]) (ResIs.r1 Try.results23 (RV.tmp)) (by (repeat (first | exact Picks.nil | (apply Picks.cons; (repeat (first | exact Pick.here | apply Pick.there)))))) ⟨rfl, rfl⟩ | refine RetQ.norI (L := [_]) (ResIs.r1 Try.results23 (RV.tmp)) (by (repeat (first | exact Picks.nil | (apply Picks.cons; (repeat (first | exact Pick.here | apply Pick.there)))))) ⟨rfl, rfl⟩
theorem cache_Forget (cb : Nat) (x : Value) (s : Int) : Ctr Try.prog 26 #[.pointer (some ⟨cb, 0, none⟩)] [cel true cb 106 [x, .int .i64 s]] fun v L => v = .tuple #[] ∧ L = [cel true cb 106 [x, .int .i64 (-1)]] := by
  refine Ctr.of (n := 5) (args := [_]) Try.func26 rfl rfl rfl fun F => ?_
  simp only [List.zipIdx_cons, List.zipIdx_nil, List.map_cons, List.map_nil, Nat.zero_add, Nat.reduceAdd, List.cons_append, List.nil_append]
  repeat' (first
    | with_reducible apply T.seq
    | with_reducible apply T.region
    | with_reducible apply TL.nil
    | with_reducible apply Thn.normal
    | with_reducible apply Thn.ret
    | with_reducible apply Thn.exit
    | with_reducible apply Blk.normal
    | with_reducible apply Blk.ret
    | ((with_reducible refine Blk.exitE ?_ ?_); · rfl)
    | ((with_reducible refine Blk.exitN ?_ ?_); · rfl)
    | with_reducible apply Rnd.ret
    | with_reducible apply Rnd.exit
    | with_reducible apply RndI.ret
    | with_reducible apply RndI.exit
    | with_reducible apply ThnI.ret
    | with_reducible apply ThnI.exit
    | with_reducible apply T.skip
    | with_reducible apply T.block
    | with_reducible apply T.ret
    | with_reducible apply T.exit
    | refine T.condT (h := ?_)
    | refine T.condF (h := ?_)
    | refine TL.pass (k := ?_)
    | refine TL.passN (k := ?_)
    | refine TL.take (k := ?_)
    | refine TL.q (h := .move) (k := ?_)
    | refine TL.q (h := .nilCheck) (k := ?_)
    | refine TL.q (h := .fieldAddr) (k := ?_)
    | refine TL.q (h := .fieldEp) (k := ?_)
    | refine TL.u (h := .st) (k := ?_)
    | refine TL.u (h := .stA) (k := ?_)
    | refine TL.u (h := .stEp) (k := ?_)
    | refine TL.u (h := .stEpA) (k := ?_)
    | refine TL.gT (k := ?_)
    | refine TL.gF (k := ?_)
    | refine T.cT (h := ?_)
    | refine T.cF (h := ?_)
    | (refine TL.gcase (ht := fun _ => ?_) (hf := fun _ => ?_))
    | refine T.cond (by (simp only [St.ev, slk, Nat.reduceBEq, cond_true, cond_false]; first | done | rfl)) (fun _ => ?_) (fun _ => ?_))
  first | refine RetQ.retI (L := [_]) (ResIs.none Try.results26) (by (repeat (first | exact Picks.nil | (apply Picks.cons; (repeat (first | exact Pick.here | apply Pick.there)))))) ⟨rfl, rfl⟩ | refine RetQ.norI (L := [_]) (ResIs.none Try.results26) (by (repeat (first | exact Picks.nil | (apply Picks.cons; (repeat (first | exact Pick.here | apply Pick.there)))))) ⟨rfl, rfl⟩
theorem mark_due (did : Bool) (at_ now k : Int) (h1 : 0 ≤ at_) (h2 : at_ ≤ 4000000000000000000) (h3 : 0 ≤ now) (h4 : now ≤ 4000000000000000000) :
    Ctr Try.prog 146 #[.agg #[.bool did, .int .i64 at_], .int .i64 now, .int .i64 k] [] fun v L => v = .bool (!did || decide (now - at_ ≥ k)) ∧ L = [] := by
  refine Ctr.of (n := 18) (args := [_, _, _]) Try.func146 rfl rfl rfl fun F => ?_
  simp only [List.zipIdx_cons, List.zipIdx_nil, List.map_cons, List.map_nil, Nat.zero_add, Nat.reduceAdd, List.cons_append, List.nil_append]
  repeat' (first
    | with_reducible apply T.seq
    | with_reducible apply T.region
    | with_reducible apply TL.nil
    | with_reducible apply Thn.normal
    | with_reducible apply Thn.ret
    | with_reducible apply Thn.exit
    | with_reducible apply Blk.normal
    | with_reducible apply Blk.ret
    | ((with_reducible refine Blk.exitE ?_ ?_); · rfl)
    | ((with_reducible refine Blk.exitN ?_ ?_); · rfl)
    | with_reducible apply Rnd.ret
    | with_reducible apply Rnd.exit
    | with_reducible apply RndI.ret
    | with_reducible apply RndI.exit
    | with_reducible apply ThnI.ret
    | with_reducible apply ThnI.exit
    | with_reducible apply T.skip
    | with_reducible apply T.block
    | with_reducible apply T.ret
    | with_reducible apply T.exit
    | refine T.condT (h := ?_)
    | refine T.condF (h := ?_)
    | refine TL.pass (k := ?_)
    | refine TL.passN (k := ?_)
    | refine TL.take (k := ?_)
    | (refine TL.e (h := .bx) (k := ?_); rintro _ _ ⟨_, rfl, rfl⟩)
    | refine TL.q (h := .assign) (k := ?_)
    | refine TL.q (h := .fieldAddr) (k := ?_)
    | refine TL.q (h := .fieldEp) (k := ?_)
    | refine TL.q (h := .load) (k := ?_)
    | refine TL.q (h := .loadEp) (k := ?_)
    | refine TL.q (h := .not) (k := ?_)
    | refine TL.q (h := .move) (k := ?_)
    | refine TL.q (h := .sub) (k := ?_)
    | refine TL.q (h := .pickT) (k := ?_)
    | refine TL.q (h := .pickF) (k := ?_)
    | refine TL.q (h := .binI) (k := ?_)
    | refine TL.q (h := .binS) (k := ?_)
    | refine TL.q (h := .pickB) (k := ?_)
    | refine TL.gT (k := ?_)
    | refine TL.gF (k := ?_)
    | refine T.cT (h := ?_)
    | refine T.cF (h := ?_)
    | (refine TL.gcase (ht := fun _ => ?_) (hf := fun _ => ?_))
    | refine T.cond (by (simp only [St.ev, slk, Nat.reduceBEq, cond_true, cond_false]; first | done | rfl)) (fun _ => ?_) (fun _ => ?_))
  all_goals ((first | refine RetQ.retI (L := []) (ResIs.r1 Try.results146 (RV.tmp)) (by (repeat (first | exact Picks.nil | (apply Picks.cons; (repeat (first | exact Pick.here | apply Pick.there)))))) ?_ | refine RetQ.norI (L := []) (ResIs.r1 Try.results146 (RV.tmp)) (by (repeat (first | exact Picks.nil | (apply Picks.cons; (repeat (first | exact Pick.here | apply Pick.there)))))) ?_)
             simp [*])
theorem clone_int (m : Bool) (x : Sl) (css : List (List Value)) (hl : css.length ≤ 1000000) : Ctr Try.prog 99 #[x.v] [row m 3 1 x.v css] fun v L => ∃ q : Sl, v = q.v ∧ L = [row m 3 1 x.v css, row true 3 1 q.v css] := by
  refine Ctr.of (n := 8) (args := [_]) Try.func99 rfl rfl rfl fun F => ?_
  simp only [List.zipIdx_cons, List.zipIdx_nil, List.map_cons, List.map_nil, Nat.zero_add, Nat.reduceAdd, List.cons_append, List.nil_append]
  refine T.fact (p := x.a = none → css = []) (fun w hs => ?_) (fun hn => ?_)
  · intro e
    rw [Fw.seps] at hs
    have h := sat_len hs
    rcases sat_row.1 hs with ⟨_, _, _, h, _⟩ | ⟨b, off, cap, c, h, _⟩
    · exact h
    · simp only [Sl.v, Value.slice.injEq, e] at h; cases h.1
  repeat (first
    | with_reducible apply T.seq
    | with_reducible apply T.region
    | with_reducible apply TL.nil
    | with_reducible apply Thn.normal
    | with_reducible apply Thn.ret
    | with_reducible apply Thn.exit
    | with_reducible apply Blk.normal
    | with_reducible apply Blk.ret
    | ((with_reducible refine Blk.exitE ?_ ?_); · rfl)
    | ((with_reducible refine Blk.exitN ?_ ?_); · rfl)
    | with_reducible apply Rnd.ret
    | with_reducible apply Rnd.exit
    | with_reducible apply RndI.ret
    | with_reducible apply RndI.exit
    | with_reducible apply ThnI.ret
    | with_reducible apply ThnI.exit
    | with_reducible apply T.skip
    | with_reducible apply T.block
    | with_reducible apply T.ret
    | with_reducible apply T.exit
    | refine T.condT (h := ?_)
    | refine T.condF (h := ?_)
    | refine TL.pass (k := ?_)
    | refine TL.passN (k := ?_)
    | refine TL.take (k := ?_)
    | refine TL.q (h := .assign) (k := ?_)
    | refine TL.q (h := .move) (k := ?_)
    | refine TL.q (h := .eqNilS) (k := ?_)
    | (refine TL.e (h := .bs) (k := ?_); rintro _ _ ⟨_, rfl, rfl⟩)
    | (refine TL.e (h := .app) (k := ?_); rintro _ _ ⟨_, rfl, rfl⟩)
    | (refine TL.e (h := .appS) (k := ?_); rintro _ _ ⟨_, rfl, rfl⟩))
  refine T.cond (by (simp only [St.ev, slk, Nat.reduceBEq, cond_true, cond_false]; first | done | rfl)) (fun h0 => ?_) (fun h0 => ?_)
  · have hx := hn (by simpa using h0)
    subst hx
    refine T.parts (add_nil true 3 1) ?_
    repeat (first
      | with_reducible apply T.seq
      | with_reducible apply T.region
      | with_reducible apply TL.nil
      | with_reducible apply Thn.normal
      | with_reducible apply Thn.ret
      | with_reducible apply Thn.exit
      | with_reducible apply Blk.normal
      | with_reducible apply Blk.ret
      | ((with_reducible refine Blk.exitE ?_ ?_); · rfl)
      | ((with_reducible refine Blk.exitN ?_ ?_); · rfl)
      | with_reducible apply Rnd.ret
      | with_reducible apply Rnd.exit
      | with_reducible apply RndI.ret
      | with_reducible apply RndI.exit
      | with_reducible apply ThnI.ret
      | with_reducible apply ThnI.exit
      | with_reducible apply T.skip
      | with_reducible apply T.block
      | with_reducible apply T.ret
      | with_reducible apply T.exit
      | refine T.condT (h := ?_)
      | refine T.condF (h := ?_)
      | refine TL.pass (k := ?_)
      | refine TL.passN (k := ?_)
      | refine TL.take (k := ?_)
      | refine TL.q (h := .assign) (k := ?_)
      | refine TL.q (h := .move) (k := ?_)
      | refine TL.q (h := .eqNilS) (k := ?_)
      | (refine TL.e (h := .bs) (k := ?_); rintro _ _ ⟨_, rfl, rfl⟩)
      | (refine TL.e (h := .app) (k := ?_); rintro _ _ ⟨_, rfl, rfl⟩)
      | (refine TL.e (h := .appS) (k := ?_); rintro _ _ ⟨_, rfl, rfl⟩))
    (first | refine RetQ.retI (L := [row m 3 1 x.v [], row true 3 1 Sl.nil.v []]) (ResIs.r1 Try.results99 (RV.tmp)) (by (repeat (first | exact Picks.nil | (apply Picks.cons; (repeat (first | exact Pick.here | apply Pick.there)))))) ?_ | refine RetQ.norI (L := [row m 3 1 x.v [], row true 3 1 Sl.nil.v []]) (ResIs.r1 Try.results99 (RV.tmp)) (by (repeat (first | exact Picks.nil | (apply Picks.cons; (repeat (first | exact Pick.here | apply Pick.there)))))) ?_)
    exact ⟨Sl.nil, rfl, rfl⟩
  · skip
    repeat (first
      | with_reducible apply T.seq
      | with_reducible apply T.region
      | with_reducible apply TL.nil
      | with_reducible apply Thn.normal
      | with_reducible apply Thn.ret
      | with_reducible apply Thn.exit
      | with_reducible apply Blk.normal
      | with_reducible apply Blk.ret
      | ((with_reducible refine Blk.exitE ?_ ?_); · rfl)
      | ((with_reducible refine Blk.exitN ?_ ?_); · rfl)
      | with_reducible apply Rnd.ret
      | with_reducible apply Rnd.exit
      | with_reducible apply RndI.ret
      | with_reducible apply RndI.exit
      | with_reducible apply ThnI.ret
      | with_reducible apply ThnI.exit
      | with_reducible apply T.skip
      | with_reducible apply T.block
      | with_reducible apply T.ret
      | with_reducible apply T.exit
      | refine T.condT (h := ?_)
      | refine T.condF (h := ?_)
      | refine TL.pass (k := ?_)
      | refine TL.passN (k := ?_)
      | refine TL.take (k := ?_)
      | refine TL.q (h := .assign) (k := ?_)
      | refine TL.q (h := .move) (k := ?_)
      | refine TL.q (h := .eqNilS) (k := ?_)
      | (refine TL.e (h := .bs) (k := ?_); rintro _ _ ⟨_, rfl, rfl⟩)
      | (refine TL.e (h := .app) (k := ?_); rintro _ _ ⟨_, rfl, rfl⟩)
      | (refine TL.e (h := .appS) (k := ?_); rintro _ _ ⟨_, rfl, rfl⟩))
    (first | refine RetQ.retI (L := [row m 3 1 x.v css, _]) (ResIs.r1 Try.results99 (RV.tmp)) (by (repeat (first | exact Picks.nil | (apply Picks.cons; (repeat (first | exact Pick.here | apply Pick.there)))))) ?_ | refine RetQ.norI (L := [row m 3 1 x.v css, _]) (ResIs.r1 Try.results99 (RV.tmp)) (by (repeat (first | exact Picks.nil | (apply Picks.cons; (repeat (first | exact Pick.here | apply Pick.there)))))) ?_)
    exact ⟨_, rfl, rfl⟩
end Go.Proofs.Ytpbomaelkpjbbaa

