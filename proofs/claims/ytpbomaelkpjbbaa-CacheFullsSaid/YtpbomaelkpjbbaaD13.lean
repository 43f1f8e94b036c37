import Derived.Test.YtpbomaelkpjbbaaD12
namespace Go.Proofs.Ytpbomaelkpjbbaa
open Go.Fw
attribute [local irreducible] T TL TG Thn ThnI Blk Rnd RndI RetQ OpV OpE OpU OpK Ctr row cel ep
theorem cache_Cards (cb : Nat) (m : Bool) (q : Sl) (l : List MCard) (s : Int) (hl : l.length ≤ 20) : Ctr Try.prog 25 #[.pointer (some ⟨cb, 0, none⟩)] [cel m cb 106 [q.v, .int .i64 s], row true 58 9 q.v (l.map MCard.C)]
    fun v L => ∃ q2 : Sl, v = q2.v ∧ L = [cel m cb 106 [q.v, .int .i64 s], row true 58 9 q.v (l.map MCard.C), row true 58 9 q2.v ((sortK l).map MCard.C)] := by
  refine Ctr.of (n := 8) (args := [_]) Try.func25 rfl rfl rfl fun F => ?_
  simp only [List.zipIdx_cons, List.zipIdx_nil, List.map_cons, List.map_nil, Nat.zero_add, Nat.reduceAdd, List.cons_append, List.nil_append]
  repeat (first
    | with_reducible apply T.seq
    | with_reducible apply T.region
    | with_reducible apply TL.nil
    | with_reducible apply Thn.normal
    | with_reducible apply Thn.ret
    | with_reducible apply Thn.exit
    | with_reducible apply Blk.normal
    | with_reducible apply Blk.ret
    | ((with_reducible refine Blk.exitE ?_ ?_); · rfl)
    | ((with_reducible refine Blk.exitN ?_ ?_); · rfl)
    | with_reducible apply Rnd.ret
    | with_reducible apply Rnd.exit
    | with_reducible apply RndI.ret
    | with_reducible apply RndI.exit
    | with_reducible apply ThnI.ret
    | with_reducible apply ThnI.exit
    | with_reducible apply T.skip
    | with_reducible apply T.block
    | with_reducible apply T.ret
    | with_reducible apply T.exit
    | refine T.condT (h := ?_)
    | refine T.condF (h := ?_)
    | refine TL.pass (k := ?_)
    | refine TL.passN (k := ?_)
    | refine TL.take (k := ?_)
    | refine TL.q (h := .assign) (k := ?_)
    | refine TL.q (h := .move) (k := ?_)
    | refine TL.q (h := .nilCheck) (k := ?_)
    | refine TL.q (h := .fieldAddr) (k := ?_)
    | refine TL.q (h := .fieldEp) (k := ?_)
    | refine TL.q (h := .load) (k := ?_)
    | refine TL.q (h := .loadEp) (k := ?_)
    | (refine TL.callF (h := card_Sort _ _ _ (by first | assumption | rfl | omega | (simp at *; omega))) (k := ?_); rintro _ _ ⟨_, rfl, rfl⟩)
    | (refine TL.callF (h := sort_nil) (k := ?_); rintro _ _ ⟨rfl, rfl⟩))
  rename_i q2
  (first | refine RetQ.retI (L := [cel m cb 106 [q.v, .int .i64 s], row true 58 9 q.v (l.map MCard.C), row true 58 9 q2.v ((sortK l).map MCard.C)]) (ResIs.r1 Try.results25 (RV.tmp)) (by (repeat (first | exact Picks.nil | (apply Picks.cons; (repeat (first | exact Pick.here | apply Pick.there)))))) ?_ | refine RetQ.norI (L := [cel m cb 106 [q.v, .int .i64 s], row true 58 9 q.v (l.map MCard.C), row true 58 9 q2.v ((sortK l).map MCard.C)]) (ResIs.r1 Try.results25 (RV.tmp)) (by (repeat (first | exact Picks.nil | (apply Picks.cons; (repeat (first | exact Pick.here | apply Pick.there)))))) ?_)
  exact ⟨q2, rfl, rfl⟩
def k1 : MMsg := { kind := 2, op := 5, full := true, seq := 4, sum := 17 }
def k2 : MMsg := { kind := 2, op := 5, seq := 5, sum := 18 }
def k3 : MMsg := { kind := 2, op := 5, seq := 5, sum := 17 }
def k4 : MMsg := { kind := 3 }
theorem a1 : (⟨[], -1⟩ : MCache).apply k1 [] = (0, ⟨[], 4⟩) := rfl
theorem a2 : (⟨[], 4⟩ : MCache).apply k2 [] = (25, ⟨[], -1⟩) := rfl
theorem a3 : (⟨[], -1⟩ : MCache).apply k3 [] = (25, ⟨[], -1⟩) := rfl
theorem a4 : (⟨[], -1⟩ : MCache).apply k4 [] = (1, ⟨[], -1⟩) := rfl
theorem short_nil : Short [] := fun _ h => by cases h
set_option maxHeartbeats 4000000 in
theorem known21 : Ctr Try.prog 16 #[] [] fun v L => v = .bool true ∧ L = [] := by
  refine Ctr.of (n := 60) (args := []) Try.func16 rfl rfl rfl fun F => ?_
  simp only [List.zipIdx_cons, List.zipIdx_nil, List.map_cons, List.map_nil, Nat.zero_add, Nat.reduceAdd, List.cons_append, List.nil_append]
  repeat (first
    | with_reducible apply T.seq
    | with_reducible apply T.region
    | with_reducible apply TL.nil
    | with_reducible apply Thn.normal
    | with_reducible apply Thn.ret
    | with_reducible apply Thn.exit
    | with_reducible apply Blk.normal
    | with_reducible apply Blk.ret
    | ((with_reducible refine Blk.exitE ?_ ?_); · rfl)
    | ((with_reducible refine Blk.exitN ?_ ?_); · rfl)
    | with_reducible apply Rnd.ret
    | with_reducible apply Rnd.exit
    | with_reducible apply RndI.ret
    | with_reducible apply RndI.exit
    | with_reducible apply ThnI.ret
    | with_reducible apply ThnI.exit
    | with_reducible apply T.skip
    | with_reducible apply T.block
    | with_reducible apply T.ret
    | with_reducible apply T.exit
    | refine T.condT (h := ?_)
    | refine T.condF (h := ?_)
    | refine TL.pass (k := ?_)
    | refine TL.passN (k := ?_)
    | refine TL.take (k := ?_)
    | refine TL.q (h := .assign) (k := ?_)
    | (refine TL.callF (h := cache_New) (k := ?_); rintro _ _ ⟨_, rfl, rfl⟩)
    | refine TL.q (h := .move) (k := ?_)
    | refine TL.q (h := .eqNil) (k := ?_)
    | (refine TL.callF (h := cache_Since _ _ _ _) (k := ?_); rintro _ _ ⟨rfl, rfl⟩)
    | refine TL.q (h := .build) (k := ?_)
    | (refine TL.callF (h := apply_nil _ _ _) (k := ?_); rintro _ _ ⟨rfl, rfl⟩)
    | refine TL.q (h := .pickT) (k := ?_)
    | refine TL.q (h := .pickF) (k := ?_)
    | (refine TL.callF (h := hca) (k := ?_); rintro _ _ ⟨_, rfl, rfl⟩)
    | (refine TL.callF (h := cache_Cards _ _ _ _ _ (by first | assumption | rfl | omega | (simp at *; omega))) (k := ?_); rintro _ _ ⟨_, rfl, rfl⟩)
    | refine TL.q (h := .lenR) (k := ?_)
    | refine TL.q (h := .lenS) (k := ?_)
    | refine TL.q (h := .binI) (k := ?_)
    | refine TL.q (h := .pickB) (k := ?_))
  rename_i cb
  refine TL.parts (add_nil true 58 9) ?_
  refine TL.parts (add_nil true 58 9) ?_
  refine TL.callF (h := cache_Apply cb ⟨[], -1⟩ Sl.nil k1 true Sl.nil [] (by decide) (by decide) (by intros; exact ⟨by decide, short_nil⟩)) (k := ?_)
  rintro _ _ ⟨rfl, q1, rfl⟩
  rw [a1]
  dsimp only
  refine TL.parts (add_nil true 58 9) ?_
  repeat (first
    | with_reducible apply T.seq
    | with_reducible apply T.region
    | with_reducible apply TL.nil
    | with_reducible apply Thn.normal
    | with_reducible apply Thn.ret
    | with_reducible apply Thn.exit
    | with_reducible apply Blk.normal
    | with_reducible apply Blk.ret
    | ((with_reducible refine Blk.exitE ?_ ?_); · rfl)
    | ((with_reducible refine Blk.exitN ?_ ?_); · rfl)
    | with_reducible apply Rnd.ret
    | with_reducible apply Rnd.exit
    | with_reducible apply RndI.ret
    | with_reducible apply RndI.exit
    | with_reducible apply ThnI.ret
    | with_reducible apply ThnI.exit
    | with_reducible apply T.skip
    | with_reducible apply T.block
    | with_reducible apply T.ret
    | with_reducible apply T.exit
    | refine T.condT (h := ?_)
    | refine T.condF (h := ?_)
    | refine TL.pass (k := ?_)
    | refine TL.passN (k := ?_)
    | refine TL.take (k := ?_)
    | refine TL.q (h := .assign) (k := ?_)
    | (refine TL.callF (h := cache_New) (k := ?_); rintro _ _ ⟨_, rfl, rfl⟩)
    | refine TL.q (h := .move) (k := ?_)
    | refine TL.q (h := .eqNil) (k := ?_)
    | (refine TL.callF (h := cache_Since _ _ _ _) (k := ?_); rintro _ _ ⟨rfl, rfl⟩)
    | refine TL.q (h := .build) (k := ?_)
    | (refine TL.callF (h := apply_nil _ _ _) (k := ?_); rintro _ _ ⟨rfl, rfl⟩)
    | refine TL.q (h := .pickT) (k := ?_)
    | refine TL.q (h := .pickF) (k := ?_)
    | (refine TL.callF (h := hca) (k := ?_); rintro _ _ ⟨_, rfl, rfl⟩)
    | (refine TL.callF (h := cache_Cards _ _ _ _ _ (by first | assumption | rfl | omega | (simp at *; omega))) (k := ?_); rintro _ _ ⟨_, rfl, rfl⟩)
    | refine TL.q (h := .lenR) (k := ?_)
    | refine TL.q (h := .lenS) (k := ?_)
    | refine TL.q (h := .binI) (k := ?_)
    | refine TL.q (h := .pickB) (k := ?_))
  refine TL.parts (add_nil true 58 9) ?_
  refine TL.callF (h := cache_Apply cb ⟨[], 4⟩ q1 k2 true Sl.nil [] (by decide) (by decide) (by intros; exact ⟨by decide, short_nil⟩)) (k := ?_)
  rintro _ _ ⟨rfl, q2, rfl⟩
  rw [a2]
  dsimp only
  repeat (first
    | with_reducible apply T.seq
    | with_reducible apply T.region
    | with_reducible apply TL.nil
    | with_reducible apply Thn.normal
    | with_reducible apply Thn.ret
    | with_reducible apply Thn.exit
    | with_reducible apply Blk.normal
    | with_reducible apply Blk.ret
    | ((with_reducible refine Blk.exitE ?_ ?_); · rfl)
    | ((with_reducible refine Blk.exitN ?_ ?_); · rfl)
    | with_reducible apply Rnd.ret
    | with_reducible apply Rnd.exit
    | with_reducible apply RndI.ret
    | with_reducible apply RndI.exit
    | with_reducible apply ThnI.ret
    | with_reducible apply ThnI.exit
    | with_reducible apply T.skip
    | with_reducible apply T.block
    | with_reducible apply T.ret
    | with_reducible apply T.exit
    | refine T.condT (h := ?_)
    | refine T.condF (h := ?_)
    | refine TL.pass (k := ?_)
    | refine TL.passN (k := ?_)
    | refine TL.take (k := ?_)
    | refine TL.q (h := .assign) (k := ?_)
    | (refine TL.callF (h := cache_New) (k := ?_); rintro _ _ ⟨_, rfl, rfl⟩)
    | refine TL.q (h := .move) (k := ?_)
    | refine TL.q (h := .eqNil) (k := ?_)
    | (refine TL.callF (h := cache_Since _ _ _ _) (k := ?_); rintro _ _ ⟨rfl, rfl⟩)
    | refine TL.q (h := .build) (k := ?_)
    | (refine TL.callF (h := apply_nil _ _ _) (k := ?_); rintro _ _ ⟨rfl, rfl⟩)
    | refine TL.q (h := .pickT) (k := ?_)
    | refine TL.q (h := .pickF) (k := ?_)
    | (refine TL.callF (h := hca) (k := ?_); rintro _ _ ⟨_, rfl, rfl⟩)
    | (refine TL.callF (h := cache_Cards _ _ _ _ _ (by first | assumption | rfl | omega | (simp at *; omega))) (k := ?_); rintro _ _ ⟨_, rfl, rfl⟩)
    | refine TL.q (h := .lenR) (k := ?_)
    | refine TL.q (h := .lenS) (k := ?_)
    | refine TL.q (h := .binI) (k := ?_)
    | refine TL.q (h := .pickB) (k := ?_))
  refine TL.parts (add_nil true 58 9) ?_
  refine TL.callF (h := cache_Apply cb ⟨[], -1⟩ q2 k3 true Sl.nil [] (by decide) (by decide) (by intros; exact ⟨by decide, short_nil⟩)) (k := ?_)
  rintro _ _ ⟨rfl, q3, rfl⟩
  rw [a3]
  dsimp only
  repeat (first
    | with_reducible apply T.seq
    | with_reducible apply T.region
    | with_reducible apply TL.nil
    | with_reducible apply Thn.normal
    | with_reducible apply Thn.ret
    | with_reducible apply Thn.exit
    | with_reducible apply Blk.normal
    | with_reducible apply Blk.ret
    | ((with_reducible refine Blk.exitE ?_ ?_); · rfl)
    | ((with_reducible refine Blk.exitN ?_ ?_); · rfl)
    | with_reducible apply Rnd.ret
    | with_reducible apply Rnd.exit
    | with_reducible apply RndI.ret
    | with_reducible apply RndI.exit
    | with_reducible apply ThnI.ret
    | with_reducible apply ThnI.exit
    | with_reducible apply T.skip
    | with_reducible apply T.block
    | with_reducible apply T.ret
    | with_reducible apply T.exit
    | refine T.condT (h := ?_)
    | refine T.condF (h := ?_)
    | refine TL.pass (k := ?_)
    | refine TL.passN (k := ?_)
    | refine TL.take (k := ?_)
    | refine TL.q (h := .assign) (k := ?_)
    | (refine TL.callF (h := cache_New) (k := ?_); rintro _ _ ⟨_, rfl, rfl⟩)
    | refine TL.q (h := .move) (k := ?_)
    | refine TL.q (h := .eqNil) (k := ?_)
    | (refine TL.callF (h := cache_Since _ _ _ _) (k := ?_); rintro _ _ ⟨rfl, rfl⟩)
    | refine TL.q (h := .build) (k := ?_)
    | (refine TL.callF (h := apply_nil _ _ _) (k := ?_); rintro _ _ ⟨rfl, rfl⟩)
    | refine TL.q (h := .pickT) (k := ?_)
    | refine TL.q (h := .pickF) (k := ?_)
    | (refine TL.callF (h := hca) (k := ?_); rintro _ _ ⟨_, rfl, rfl⟩)
    | (refine TL.callF (h := cache_Cards _ _ _ _ _ (by first | assumption | rfl | omega | (simp at *; omega))) (k := ?_); rintro _ _ ⟨_, rfl, rfl⟩)
    | refine TL.q (h := .lenR) (k := ?_)
    | refine TL.q (h := .lenS) (k := ?_)
    | refine TL.q (h := .binI) (k := ?_)
    | refine TL.q (h := .pickB) (k := ?_))
  refine TL.parts (add_nil true 58 9) ?_
  refine TL.callF (h := cache_Apply cb ⟨[], -1⟩ q3 k4 true Sl.nil [] (by decide) (by decide) (by intros; exact ⟨by decide, short_nil⟩)) (k := ?_)
  rintro _ _ ⟨rfl, q4, rfl⟩
  rw [a4]
  dsimp only
  have hs0 : sortK [] = [] := rfl
  have hca := cache_Cards cb true q4 [] (-1) (by decide)
  rw [hs0] at hca
  repeat' (first
    | with_reducible apply T.seq
    | with_reducible apply T.region
    | with_reducible apply TL.nil
    | with_reducible apply Thn.normal
    | with_reducible apply Thn.ret
    | with_reducible apply Thn.exit
    | with_reducible apply Blk.normal
    | with_reducible apply Blk.ret
    | ((with_reducible refine Blk.exitE ?_ ?_); · rfl)
    | ((with_reducible refine Blk.exitN ?_ ?_); · rfl)
    | with_reducible apply Rnd.ret
    | with_reducible apply Rnd.exit
    | with_reducible apply RndI.ret
    | with_reducible apply RndI.exit
    | with_reducible apply ThnI.ret
    | with_reducible apply ThnI.exit
    | with_reducible apply T.skip
    | with_reducible apply T.block
    | with_reducible apply T.ret
    | with_reducible apply T.exit
    | refine T.condT (h := ?_)
    | refine T.condF (h := ?_)
    | refine TL.pass (k := ?_)
    | refine TL.passN (k := ?_)
    | refine TL.take (k := ?_)
    | refine TL.q (h := .assign) (k := ?_)
    | (refine TL.callF (h := cache_New) (k := ?_); rintro _ _ ⟨_, rfl, rfl⟩)
    | refine TL.q (h := .move) (k := ?_)
    | refine TL.q (h := .eqNil) (k := ?_)
    | (refine TL.callF (h := cache_Since _ _ _ _) (k := ?_); rintro _ _ ⟨rfl, rfl⟩)
    | refine TL.q (h := .build) (k := ?_)
    | (refine TL.callF (h := apply_nil _ _ _) (k := ?_); rintro _ _ ⟨rfl, rfl⟩)
    | refine TL.q (h := .pickT) (k := ?_)
    | refine TL.q (h := .pickF) (k := ?_)
    | (refine TL.callF (h := hca) (k := ?_); rintro _ _ ⟨_, rfl, rfl⟩)
    | (refine TL.callF (h := cache_Cards _ _ _ _ _ (by first | assumption | rfl | omega | (simp at *; omega))) (k := ?_); rintro _ _ ⟨_, rfl, rfl⟩)
    | refine TL.q (h := .lenR) (k := ?_)
    | refine TL.q (h := .lenS) (k := ?_)
    | refine TL.q (h := .binI) (k := ?_)
    | refine TL.q (h := .pickB) (k := ?_)
    | refine TL.gT (k := ?_)
    | refine TL.gF (k := ?_)
    | refine T.cT (h := ?_)
    | refine T.cF (h := ?_)
    | (refine TL.gcase (ht := fun _ => ?_) (hf := fun _ => ?_))
    | refine T.cond (by (simp only [St.ev, slk, Nat.reduceBEq, cond_true, cond_false]; first | done | rfl)) (fun _ => ?_) (fun _ => ?_))
  (first | refine RetQ.retI (L := []) (ResIs.r1 Try.results16 (RV.tmp)) (by (repeat (first | exact Picks.nil | (apply Picks.cons; (repeat (first | exact Pick.here | apply Pick.there)))))) ?_ | refine RetQ.norI (L := []) (ResIs.r1 Try.results16 (RV.tmp)) (by (repeat (first | exact Picks.nil | (apply Picks.cons; (repeat (first | exact Pick.here | apply Pick.there)))))) ?_)
  exact ⟨rfl, rfl⟩
set_option maxHeartbeats 4000000 in
theorem law_CacheFulls (m : Bool) (x : Sl) (xs : List Int) (hx : TOk xs) (n : Int) : Ctr Try.prog 4 #[x.v, .int .i64 n] [row m 3 1 x.v (xs.map intC)] fun v L => v = .bool true ∧ L = [row m 3 1 x.v (xs.map intC)] := by
  have hN : 0 ≤ andV .i64 n 65535 ∧ andV .i64 n 65535 ≤ 65535 := andV_mask n 16 (by decide)
  refine Ctr.of (n := 69) (args := [_, _]) Try.func4 rfl rfl rfl fun F => ?_
  simp only [List.zipIdx_cons, List.zipIdx_nil, List.map_cons, List.map_nil, Nat.zero_add, Nat.reduceAdd, List.cons_append, List.nil_append]
  repeat (first
    | with_reducible apply T.seq
    | with_reducible apply T.region
    | with_reducible apply TL.nil
    | with_reducible apply Thn.normal
    | with_reducible apply Thn.ret
    | with_reducible apply Thn.exit
    | with_reducible apply Blk.normal
    | with_reducible apply Blk.ret
    | ((with_reducible refine Blk.exitE ?_ ?_); · rfl)
    | ((with_reducible refine Blk.exitN ?_ ?_); · rfl)
    | with_reducible apply Rnd.ret
    | with_reducible apply Rnd.exit
    | with_reducible apply RndI.ret
    | with_reducible apply RndI.exit
    | with_reducible apply ThnI.ret
    | with_reducible apply ThnI.exit
    | with_reducible apply T.skip
    | with_reducible apply T.block
    | with_reducible apply T.ret
    | with_reducible apply T.exit
    | refine T.condT (h := ?_)
    | refine T.condF (h := ?_)
    | refine TL.pass (k := ?_)
    | refine TL.passN (k := ?_)
    | refine TL.take (k := ?_)
    | refine TL.q (h := .assign) (k := ?_)
    | refine TL.q (h := .move) (k := ?_)
    | refine TL.q (h := .build) (k := ?_)
    | (refine TL.e (h := .bx) (k := ?_); rintro _ _ ⟨_, rfl, rfl⟩)
    | (refine TL.callF (h := cache_New) (k := ?_); rintro _ _ ⟨_, rfl, rfl⟩)
    | refine TL.q (h := .eqNil) (k := ?_)
    | refine TL.q (h := .and) (k := ?_)
    | (refine TL.callF (h := tape_Cards _ _ _ _ _ _ (by first | assumption | rfl | omega | (simp at *; omega)) (by first | assumption | rfl | omega | (simp at *; omega))) (k := ?_); rintro _ _ ⟨_, rfl, rfl⟩)
    | (refine TL.callF (h := keep_Once _ _ _ (by first | assumption | rfl | omega | (simp at *; omega))) (k := ?_); rintro _ _ ⟨_, rfl, rfl⟩)
    | (refine TL.callF (h := ref_Seen _ _ _ (by first | assumption | rfl | omega | (simp at *; omega))) (k := ?_); rintro _ _ ⟨_, rfl, rfl⟩)
    | (refine TL.callF (h := ref_Seal _ _ _ (by first | assumption | rfl | omega | (simp at *; omega)) (by first | assumption | rfl | omega | (simp at *; omega))) (k := ?_); rintro _ _ ⟨rfl, rfl⟩)
    | (refine TL.e (h := .al) (k := ?_); rintro _ _ ⟨_, rfl, rfl⟩)
    | refine TL.u (h := .stA0) (k := ?_)
    | refine TL.u (h := .st) (k := ?_)
    | refine TL.u (h := .stA) (k := ?_)
    | refine TL.u (h := .stEp) (k := ?_)
    | refine TL.u (h := .stEpA) (k := ?_)
    | refine TL.q (h := .loadA) (k := ?_)
    | refine TL.q (h := .loadEpA) (k := ?_)
    | (refine TL.callF (h := hap2 _ _ _) (k := ?_); rintro _ _ ⟨rfl, _, rfl⟩)
    | (refine TL.callF (h := hap1 _ _ _) (k := ?_); rintro _ _ ⟨rfl, _, rfl⟩)
    | (refine TL.callF (h := apply_nil _ _ _) (k := ?_); rintro _ _ ⟨rfl, rfl⟩)
    | (refine TL.callF (h := cache_Since _ _ _ _) (k := ?_); rintro _ _ ⟨rfl, rfl⟩)
    | refine TL.q (h := .pickT) (k := ?_)
    | refine TL.q (h := .pickF) (k := ?_)
    | (refine TL.callF (h := hca _ _) (k := ?_); rintro _ _ ⟨_, rfl, rfl⟩)
    | (refine TL.callF (h := hca) (k := ?_); rintro _ _ ⟨_, rfl, rfl⟩)
    | (refine TL.callF (h := cache_Cards _ _ _ _ _ (by first | assumption | rfl | omega | (simp at *; omega))) (k := ?_); rintro _ _ ⟨_, rfl, rfl⟩)
    | (refine TL.callF (h := ref_Same _ _ _ _ _ _ (by first | assumption | rfl | omega | (simp at *; omega))) (k := ?_); rintro _ _ ⟨rfl, rfl⟩)
    | refine TL.q (h := .not) (k := ?_)
    | (refine TL.callF (h := cache_Forget _ _ _) (k := ?_); rintro _ _ ⟨rfl, rfl⟩)
    | refine TL.q (h := .fieldAddr) (k := ?_)
    | refine TL.q (h := .fieldEp) (k := ?_)
    | refine TL.q (h := .add) (k := ?_)
    | refine TL.q (h := .catS) (k := ?_)
    | (refine TL.callF (h := known21) (k := ?_); rintro _ _ ⟨rfl, rfl⟩)
    | refine TL.q (h := .binI) (k := ?_)
    | refine TL.q (h := .binS) (k := ?_)
    | refine TL.q (h := .pickB) (k := ?_))
  rename_i bt cb
  generalize andV .i64 n 65535 = N at hN
  refine T.parts (add_nil true 58 9) ?_
  refine T.blkW (fun l A => l = [(4, .bool false)] ∧ A = [row m 3 1 x.v (xs.map intC), F]) ?_ ?_
  · refine T.loopI (fun q' l A => ∃ (i at_ : Nat) (q : Sl) (lst : List MCard) (since : Int), q' = 5 - i ∧ i ≤ 5 ∧ lst.length ≤ 1000 ∧
      l = [(8, .int .i64 (i : Int)), (5, .pointer (some ⟨bt, 0, none⟩)), (6, .pointer (some ⟨cb, 0, none⟩)), (7, .int .i64 N), (4, .bool false)] ∧
      A = [cel true bt 29 [x.v, .int .i64 at_], row m 3 1 x.v (xs.map intC), cel true cb 106 [q.v, .int .i64 since], row true 58 9 q.v (lst.map MCard.C), F]) ⟨0, 0, Sl.nil, [], -1, rfl, by omega, by decide, rfl, rfl⟩ (by (repeat (first | exact AllIs.nil | refine AllIs.cons (by (simp only [St.ev, slk, Nat.reduceBEq, cond_true, cond_false]; first | done | rfl)) ?_))) (by (repeat (first | exact Picks.nil | (apply Picks.cons; (repeat (first | exact Pick.here | apply Pick.there)))))) ?_
    rintro q' l A j ⟨i, at_, q, lst, since, rfl, hi, hlst, rfl, rfl⟩
    repeat (first
      | with_reducible apply T.seq
      | with_reducible apply T.region
      | with_reducible apply TL.nil
      | with_reducible apply Thn.normal
      | with_reducible apply Thn.ret
      | with_reducible apply Thn.exit
      | with_reducible apply Blk.normal
      | with_reducible apply Blk.ret
      | ((with_reducible refine Blk.exitE ?_ ?_); · rfl)
      | ((with_reducible refine Blk.exitN ?_ ?_); · rfl)
      | with_reducible apply Rnd.ret
      | with_reducible apply Rnd.exit
      | with_reducible apply RndI.ret
      | with_reducible apply RndI.exit
      | with_reducible apply ThnI.ret
      | with_reducible apply ThnI.exit
      | with_reducible apply T.skip
      | with_reducible apply T.block
      | with_reducible apply T.ret
      | with_reducible apply T.exit
      | refine T.condT (h := ?_)
      | refine T.condF (h := ?_)
      | refine TL.pass (k := ?_)
      | refine TL.passN (k := ?_)
      | refine TL.take (k := ?_)
      | refine TL.q (h := .assign) (k := ?_)
      | refine TL.q (h := .move) (k := ?_)
      | refine TL.q (h := .build) (k := ?_)
      | (refine TL.e (h := .bx) (k := ?_); rintro _ _ ⟨_, rfl, rfl⟩)
      | (refine TL.callF (h := cache_New) (k := ?_); rintro _ _ ⟨_, rfl, rfl⟩)
      | refine TL.q (h := .eqNil) (k := ?_)
      | refine TL.q (h := .and) (k := ?_)
      | (refine TL.callF (h := tape_Cards _ _ _ _ _ _ (by first | assumption | rfl | omega | (simp at *; omega)) (by first | assumption | rfl | omega | (simp at *; omega))) (k := ?_); rintro _ _ ⟨_, rfl, rfl⟩)
      | (refine TL.callF (h := keep_Once _ _ _ (by first | assumption | rfl | omega | (simp at *; omega))) (k := ?_); rintro _ _ ⟨_, rfl, rfl⟩)
      | (refine TL.callF (h := ref_Seen _ _ _ (by first | assumption | rfl | omega | (simp at *; omega))) (k := ?_); rintro _ _ ⟨_, rfl, rfl⟩)
      | (refine TL.callF (h := ref_Seal _ _ _ (by first | assumption | rfl | omega | (simp at *; omega)) (by first | assumption | rfl | omega | (simp at *; omega))) (k := ?_); rintro _ _ ⟨rfl, rfl⟩)
      | (refine TL.e (h := .al) (k := ?_); rintro _ _ ⟨_, rfl, rfl⟩)
      | refine TL.u (h := .stA0) (k := ?_)
      | refine TL.u (h := .st) (k := ?_)
      | refine TL.u (h := .stA) (k := ?_)
      | refine TL.u (h := .stEp) (k := ?_)
      | refine TL.u (h := .stEpA) (k := ?_)
      | refine TL.q (h := .loadA) (k := ?_)
      | refine TL.q (h := .loadEpA) (k := ?_)
      | (refine TL.callF (h := hap2 _ _ _) (k := ?_); rintro _ _ ⟨rfl, _, rfl⟩)
      | (refine TL.callF (h := hap1 _ _ _) (k := ?_); rintro _ _ ⟨rfl, _, rfl⟩)
      | (refine TL.callF (h := apply_nil _ _ _) (k := ?_); rintro _ _ ⟨rfl, rfl⟩)
      | (refine TL.callF (h := cache_Since _ _ _ _) (k := ?_); rintro _ _ ⟨rfl, rfl⟩)
      | refine TL.q (h := .pickT) (k := ?_)
      | refine TL.q (h := .pickF) (k := ?_)
      | (refine TL.callF (h := hca _ _) (k := ?_); rintro _ _ ⟨_, rfl, rfl⟩)
      | (refine TL.callF (h := hca) (k := ?_); rintro _ _ ⟨_, rfl, rfl⟩)
      | (refine TL.callF (h := cache_Cards _ _ _ _ _ (by first | assumption | rfl | omega | (simp at *; omega))) (k := ?_); rintro _ _ ⟨_, rfl, rfl⟩)
      | (refine TL.callF (h := ref_Same _ _ _ _ _ _ (by first | assumption | rfl | omega | (simp at *; omega))) (k := ?_); rintro _ _ ⟨rfl, rfl⟩)
      | refine TL.q (h := .not) (k := ?_)
      | (refine TL.callF (h := cache_Forget _ _ _) (k := ?_); rintro _ _ ⟨rfl, rfl⟩)
      | refine TL.q (h := .fieldAddr) (k := ?_)
      | refine TL.q (h := .fieldEp) (k := ?_)
      | refine TL.q (h := .add) (k := ?_)
      | refine TL.q (h := .catS) (k := ?_)
      | (refine TL.callF (h := known21) (k := ?_); rintro _ _ ⟨rfl, rfl⟩)
      | refine TL.q (h := .binI) (k := ?_)
      | refine TL.q (h := .binS) (k := ?_)
      | refine TL.q (h := .pickB) (k := ?_))
    refine T.condD (ht := fun hlt => ?_) (hf := fun hlt => ?_)
    · have hdl := drawCards_len xs at_ (most := 9) (by omega)
      have hdo := drawCards_ok xs at_ 9
      have hol := onceK_len (drawCards xs at_ 9).1
      have hsl := seenK_len (onceK (drawCards xs at_ 9).1)
      have hneat := neat_seen (drawCards xs at_ 9).1
      have hok := seen_once_ok hdo
      have hL9 : (seenK (onceK (drawCards xs at_ 9).1)).length ≤ 9 := by omega
      generalize hL : seenK (onceK (drawCards xs at_ 9).1) = L at hsl hneat hok hL9
      have hsh := cardOk_short hok
      have hap1 : ∀ (q : Sl) (mc : Bool) (cv : Sl), Ctr Try.prog 22 #[.pointer (some ⟨cb, 0, none⟩), .agg ((fullM N (sumB (sealB L))).CK cv.v (.slice none 0 0)).toArray] [cel true cb 106 [q.v, .int .i64 since], row true 58 9 q.v (lst.map MCard.C), row mc 58 9 cv.v (L.map MCard.C)]
          fun v K => v = .int .i64 0 ∧ ∃ q2 : Sl, K = [cel true cb 106 [q2.v, .int .i64 N], row true 58 9 q2.v (L.map MCard.C), row mc 58 9 cv.v (L.map MCard.C)] := fun q mc cv => by
        have h := cache_Apply cb ⟨lst, since⟩ q (fullM N (sumB (sealB L))) mc cv L (by show lst.length ≤ 40000; omega) (by omega) (fun _ _ _ _ _ => by
          have e : fedL lst true L = L := fed_neat hneat.dist hneat.live lst
          show (fedL lst true L).length ≤ 20 ∧ Short (fedL lst true L)
          rw [e]
          exact ⟨by omega, hsh⟩)
        rw [apply_full hN.1 (by omega) hok hneat] at h
        exact h
      have hap2 : ∀ (q : Sl) (mc : Bool) (cv : Sl), Ctr Try.prog 22 #[.pointer (some ⟨cb, 0, none⟩), .agg ((deltaM N (sumB (sealB L))).CK cv.v (.slice none 0 0)).toArray] [cel true cb 106 [q.v, .int .i64 (-1)], row true 58 9 q.v (L.map MCard.C), row mc 58 9 cv.v (L.map MCard.C)]
          fun v K => v = .int .i64 25 ∧ ∃ q2 : Sl, K = [cel true cb 106 [q2.v, .int .i64 (-1)], row true 58 9 q2.v (L.map MCard.C), row mc 58 9 cv.v (L.map MCard.C)] := fun q mc cv => by
        have h := cache_Apply cb ⟨L, -1⟩ q (deltaM N (sumB (sealB L))) mc cv L (by show L.length ≤ 40000; omega) (by omega) (fun _ _ _ _ h => absurd ⟨rfl, rfl⟩ h)
        rw [apply_forgot hN.1 (by omega) hok] at h
        exact h
      simp only [fullM, deltaM, MMsg.CK] at hap1 hap2
      have hca : ∀ (q : Sl) (s : Int), Ctr Try.prog 25 #[.pointer (some ⟨cb, 0, none⟩)] [cel true cb 106 [q.v, .int .i64 s], row true 58 9 q.v (L.map MCard.C)]
          fun v K => ∃ q2 : Sl, v = q2.v ∧ K = [cel true cb 106 [q.v, .int .i64 s], row true 58 9 q.v (L.map MCard.C), row true 58 9 q2.v (L.map MCard.C)] := fun q s => by
        have h := cache_Cards cb true q L s (by omega)
        rw [sortK_of_sorted hneat.sorted] at h
        exact h
      have f1 : (N != N) = false := by simp
      have f2 : (!decide (L = L)) = false := by simp
      repeat (first
        | with_reducible apply T.seq
        | with_reducible apply T.region
        | with_reducible apply TL.nil
        | with_reducible apply Thn.normal
        | with_reducible apply Thn.ret
        | with_reducible apply Thn.exit
        | with_reducible apply Blk.normal
        | with_reducible apply Blk.ret
        | ((with_reducible refine Blk.exitE ?_ ?_); · rfl)
        | ((with_reducible refine Blk.exitN ?_ ?_); · rfl)
        | with_reducible apply Rnd.ret
        | with_reducible apply Rnd.exit
        | with_reducible apply RndI.ret
        | with_reducible apply RndI.exit
        | with_reducible apply ThnI.ret
        | with_reducible apply ThnI.exit
        | with_reducible apply T.skip
        | with_reducible apply T.block
        | with_reducible apply T.ret
        | with_reducible apply T.exit
        | refine T.condT (h := ?_)
        | refine T.condF (h := ?_)
        | refine TL.pass (k := ?_)
        | refine TL.passN (k := ?_)
        | refine TL.take (k := ?_)
        | refine TL.q (h := .assign) (k := ?_)
        | refine TL.q (h := .move) (k := ?_)
        | refine TL.q (h := .build) (k := ?_)
        | (refine TL.e (h := .bx) (k := ?_); rintro _ _ ⟨_, rfl, rfl⟩)
        | (refine TL.callF (h := cache_New) (k := ?_); rintro _ _ ⟨_, rfl, rfl⟩)
        | refine TL.q (h := .eqNil) (k := ?_)
        | refine TL.q (h := .and) (k := ?_)
        | (refine TL.callF (h := tape_Cards _ _ _ _ _ _ (by first | assumption | rfl | omega | (simp at *; omega)) (by first | assumption | rfl | omega | (simp at *; omega))) (k := ?_); rintro _ _ ⟨_, rfl, rfl⟩)
        | (refine TL.callF (h := keep_Once _ _ _ (by first | assumption | rfl | omega | (simp at *; omega))) (k := ?_); rintro _ _ ⟨_, rfl, rfl⟩)
        | (refine TL.callF (h := ref_Seen _ _ _ (by first | assumption | rfl | omega | (simp at *; omega))) (k := ?_); rintro _ _ ⟨_, rfl, rfl⟩)
        | (refine TL.callF (h := ref_Seal _ _ _ (by first | assumption | rfl | omega | (simp at *; omega)) (by first | assumption | rfl | omega | (simp at *; omega))) (k := ?_); rintro _ _ ⟨rfl, rfl⟩)
        | (refine TL.e (h := .al) (k := ?_); rintro _ _ ⟨_, rfl, rfl⟩)
        | refine TL.u (h := .stA0) (k := ?_)
        | refine TL.u (h := .st) (k := ?_)
        | refine TL.u (h := .stA) (k := ?_)
        | refine TL.u (h := .stEp) (k := ?_)
        | refine TL.u (h := .stEpA) (k := ?_)
        | refine TL.q (h := .loadA) (k := ?_)
        | refine TL.q (h := .loadEpA) (k := ?_)
        | (refine TL.callF (h := hap2 _ _ _) (k := ?_); rintro _ _ ⟨rfl, _, rfl⟩)
        | (refine TL.callF (h := hap1 _ _ _) (k := ?_); rintro _ _ ⟨rfl, _, rfl⟩)
        | (refine TL.callF (h := apply_nil _ _ _) (k := ?_); rintro _ _ ⟨rfl, rfl⟩)
        | (refine TL.callF (h := cache_Since _ _ _ _) (k := ?_); rintro _ _ ⟨rfl, rfl⟩)
        | refine TL.q (h := .pickT) (k := ?_)
        | refine TL.q (h := .pickF) (k := ?_)
        | (refine TL.callF (h := hca _ _) (k := ?_); rintro _ _ ⟨_, rfl, rfl⟩)
        | (refine TL.callF (h := hca) (k := ?_); rintro _ _ ⟨_, rfl, rfl⟩)
        | (refine TL.callF (h := cache_Cards _ _ _ _ _ (by first | assumption | rfl | omega | (simp at *; omega))) (k := ?_); rintro _ _ ⟨_, rfl, rfl⟩)
        | (refine TL.callF (h := ref_Same _ _ _ _ _ _ (by first | assumption | rfl | omega | (simp at *; omega))) (k := ?_); rintro _ _ ⟨rfl, rfl⟩)
        | refine TL.q (h := .not) (k := ?_)
        | (refine TL.callF (h := cache_Forget _ _ _) (k := ?_); rintro _ _ ⟨rfl, rfl⟩)
        | refine TL.q (h := .fieldAddr) (k := ?_)
        | refine TL.q (h := .fieldEp) (k := ?_)
        | refine TL.q (h := .add) (k := ?_)
        | refine TL.q (h := .catS) (k := ?_)
        | (refine TL.callF (h := known21) (k := ?_); rintro _ _ ⟨rfl, rfl⟩)
        | refine TL.q (h := .binI) (k := ?_)
        | refine TL.q (h := .binS) (k := ?_)
        | refine TL.q (h := .pickB) (k := ?_))
      rw [hL]
      repeat' (first
        | with_reducible apply T.seq
        | with_reducible apply T.region
        | with_reducible apply TL.nil
        | with_reducible apply Thn.normal
        | with_reducible apply Thn.ret
        | with_reducible apply Thn.exit
        | with_reducible apply Blk.normal
        | with_reducible apply Blk.ret
        | ((with_reducible refine Blk.exitE ?_ ?_); · rfl)
        | ((with_reducible refine Blk.exitN ?_ ?_); · rfl)
        | with_reducible apply Rnd.ret
        | with_reducible apply Rnd.exit
        | with_reducible apply RndI.ret
        | with_reducible apply RndI.exit
        | with_reducible apply ThnI.ret
        | with_reducible apply ThnI.exit
        | with_reducible apply T.skip
        | with_reducible apply T.block
        | with_reducible apply T.ret
        | with_reducible apply T.exit
        | refine T.condT (h := ?_)
        | refine T.condF (h := ?_)
        | refine TL.pass (k := ?_)
        | refine TL.passN (k := ?_)
        | refine TL.take (k := ?_)
        | refine TL.q (h := .assign) (k := ?_)
        | refine TL.q (h := .move) (k := ?_)
        | refine TL.q (h := .build) (k := ?_)
        | (refine TL.e (h := .bx) (k := ?_); rintro _ _ ⟨_, rfl, rfl⟩)
        | (refine TL.callF (h := cache_New) (k := ?_); rintro _ _ ⟨_, rfl, rfl⟩)
        | refine TL.q (h := .eqNil) (k := ?_)
        | refine TL.q (h := .and) (k := ?_)
        | (refine TL.callF (h := tape_Cards _ _ _ _ _ _ (by first | assumption | rfl | omega | (simp at *; omega)) (by first | assumption | rfl | omega | (simp at *; omega))) (k := ?_); rintro _ _ ⟨_, rfl, rfl⟩)
        | (refine TL.callF (h := keep_Once _ _ _ (by first | assumption | rfl | omega | (simp at *; omega))) (k := ?_); rintro _ _ ⟨_, rfl, rfl⟩)
        | (refine TL.callF (h := ref_Seen _ _ _ (by first | assumption | rfl | omega | (simp at *; omega))) (k := ?_); rintro _ _ ⟨_, rfl, rfl⟩)
        | (refine TL.callF (h := ref_Seal _ _ _ (by first | assumption | rfl | omega | (simp at *; omega)) (by first | assumption | rfl | omega | (simp at *; omega))) (k := ?_); rintro _ _ ⟨rfl, rfl⟩)
        | (refine TL.e (h := .al) (k := ?_); rintro _ _ ⟨_, rfl, rfl⟩)
        | refine TL.u (h := .stA0) (k := ?_)
        | refine TL.u (h := .st) (k := ?_)
        | refine TL.u (h := .stA) (k := ?_)
        | refine TL.u (h := .stEp) (k := ?_)
        | refine TL.u (h := .stEpA) (k := ?_)
        | refine TL.q (h := .loadA) (k := ?_)
        | refine TL.q (h := .loadEpA) (k := ?_)
        | (refine TL.callF (h := hap2 _ _ _) (k := ?_); rintro _ _ ⟨rfl, _, rfl⟩)
        | (refine TL.callF (h := hap1 _ _ _) (k := ?_); rintro _ _ ⟨rfl, _, rfl⟩)
        | (refine TL.callF (h := apply_nil _ _ _) (k := ?_); rintro _ _ ⟨rfl, rfl⟩)
        | (refine TL.callF (h := cache_Since _ _ _ _) (k := ?_); rintro _ _ ⟨rfl, rfl⟩)
        | refine TL.q (h := .pickT) (k := ?_)
        | refine TL.q (h := .pickF) (k := ?_)
        | (refine TL.callF (h := hca _ _) (k := ?_); rintro _ _ ⟨_, rfl, rfl⟩)
        | (refine TL.callF (h := hca) (k := ?_); rintro _ _ ⟨_, rfl, rfl⟩)
        | (refine TL.callF (h := cache_Cards _ _ _ _ _ (by first | assumption | rfl | omega | (simp at *; omega))) (k := ?_); rintro _ _ ⟨_, rfl, rfl⟩)
        | (refine TL.callF (h := ref_Same _ _ _ _ _ _ (by first | assumption | rfl | omega | (simp at *; omega))) (k := ?_); rintro _ _ ⟨rfl, rfl⟩)
        | refine TL.q (h := .not) (k := ?_)
        | (refine TL.callF (h := cache_Forget _ _ _) (k := ?_); rintro _ _ ⟨rfl, rfl⟩)
        | refine TL.q (h := .fieldAddr) (k := ?_)
        | refine TL.q (h := .fieldEp) (k := ?_)
        | refine TL.q (h := .add) (k := ?_)
        | refine TL.q (h := .catS) (k := ?_)
        | (refine TL.callF (h := known21) (k := ?_); rintro _ _ ⟨rfl, rfl⟩)
        | refine TL.q (h := .binI) (k := ?_)
        | refine TL.q (h := .binS) (k := ?_)
        | refine TL.q (h := .pickB) (k := ?_)
        | refine TL.gT (k := ?_)
        | refine TL.gF (k := ?_)
        | refine T.cT (h := ?_)
        | refine T.cF (h := ?_)
        | (refine TL.gcase (ht := fun _ => ?_) (hf := fun _ => ?_))
        | refine T.cond (by (simp only [St.ev, slk, Nat.reduceBEq, cond_true, cond_false]; first | done | rfl)) (fun _ => ?_) (fun _ => ?_))
      rename_i qs0 q1 q2 q3 q4
      refine RndI.next (m' := 5 - (i + 1)) (by omega) ⟨i + 1, _, _, L, -1, rfl, by omega, by omega, rfl, rfl⟩ (by (repeat (first | exact AllIs.nil | refine AllIs.cons (by (simp only [St.ev, slk, Nat.reduceBEq, cond_true, cond_false]; first | done | rfl)) ?_))) (by (repeat (first | exact Picks.nil | (apply Picks.cons; (repeat (first | exact Pick.here | apply Pick.there))))))
    · skip
      repeat (first
        | with_reducible apply T.seq
        | with_reducible apply T.region
        | with_reducible apply TL.nil
        | with_reducible apply Thn.normal
        | with_reducible apply Thn.ret
        | with_reducible apply Thn.exit
        | with_reducible apply Blk.normal
        | with_reducible apply Blk.ret
        | ((with_reducible refine Blk.exitE ?_ ?_); · rfl)
        | ((with_reducible refine Blk.exitN ?_ ?_); · rfl)
        | with_reducible apply Rnd.ret
        | with_reducible apply Rnd.exit
        | with_reducible apply RndI.ret
        | with_reducible apply RndI.exit
        | with_reducible apply ThnI.ret
        | with_reducible apply ThnI.exit
        | with_reducible apply T.skip
        | with_reducible apply T.block
        | with_reducible apply T.ret
        | with_reducible apply T.exit
        | refine T.condT (h := ?_)
        | refine T.condF (h := ?_)
        | refine TL.pass (k := ?_)
        | refine TL.passN (k := ?_)
        | refine TL.take (k := ?_)
        | refine TL.q (h := .assign) (k := ?_)
        | refine TL.q (h := .move) (k := ?_)
        | refine TL.q (h := .build) (k := ?_)
        | (refine TL.e (h := .bx) (k := ?_); rintro _ _ ⟨_, rfl, rfl⟩)
        | (refine TL.callF (h := cache_New) (k := ?_); rintro _ _ ⟨_, rfl, rfl⟩)
        | refine TL.q (h := .eqNil) (k := ?_)
        | refine TL.q (h := .and) (k := ?_)
        | (refine TL.callF (h := tape_Cards _ _ _ _ _ _ (by first | assumption | rfl | omega | (simp at *; omega)) (by first | assumption | rfl | omega | (simp at *; omega))) (k := ?_); rintro _ _ ⟨_, rfl, rfl⟩)
        | (refine TL.callF (h := keep_Once _ _ _ (by first | assumption | rfl | omega | (simp at *; omega))) (k := ?_); rintro _ _ ⟨_, rfl, rfl⟩)
        | (refine TL.callF (h := ref_Seen _ _ _ (by first | assumption | rfl | omega | (simp at *; omega))) (k := ?_); rintro _ _ ⟨_, rfl, rfl⟩)
        | (refine TL.callF (h := ref_Seal _ _ _ (by first | assumption | rfl | omega | (simp at *; omega)) (by first | assumption | rfl | omega | (simp at *; omega))) (k := ?_); rintro _ _ ⟨rfl, rfl⟩)
        | (refine TL.e (h := .al) (k := ?_); rintro _ _ ⟨_, rfl, rfl⟩)
        | refine TL.u (h := .stA0) (k := ?_)
        | refine TL.u (h := .st) (k := ?_)
        | refine TL.u (h := .stA) (k := ?_)
        | refine TL.u (h := .stEp) (k := ?_)
        | refine TL.u (h := .stEpA) (k := ?_)
        | refine TL.q (h := .loadA) (k := ?_)
        | refine TL.q (h := .loadEpA) (k := ?_)
        | (refine TL.callF (h := hap2 _ _ _) (k := ?_); rintro _ _ ⟨rfl, _, rfl⟩)
        | (refine TL.callF (h := hap1 _ _ _) (k := ?_); rintro _ _ ⟨rfl, _, rfl⟩)
        | (refine TL.callF (h := apply_nil _ _ _) (k := ?_); rintro _ _ ⟨rfl, rfl⟩)
        | (refine TL.callF (h := cache_Since _ _ _ _) (k := ?_); rintro _ _ ⟨rfl, rfl⟩)
        | refine TL.q (h := .pickT) (k := ?_)
        | refine TL.q (h := .pickF) (k := ?_)
        | (refine TL.callF (h := hca _ _) (k := ?_); rintro _ _ ⟨_, rfl, rfl⟩)
        | (refine TL.callF (h := hca) (k := ?_); rintro _ _ ⟨_, rfl, rfl⟩)
        | (refine TL.callF (h := cache_Cards _ _ _ _ _ (by first | assumption | rfl | omega | (simp at *; omega))) (k := ?_); rintro _ _ ⟨_, rfl, rfl⟩)
        | (refine TL.callF (h := ref_Same _ _ _ _ _ _ (by first | assumption | rfl | omega | (simp at *; omega))) (k := ?_); rintro _ _ ⟨rfl, rfl⟩)
        | refine TL.q (h := .not) (k := ?_)
        | (refine TL.callF (h := cache_Forget _ _ _) (k := ?_); rintro _ _ ⟨rfl, rfl⟩)
        | refine TL.q (h := .fieldAddr) (k := ?_)
        | refine TL.q (h := .fieldEp) (k := ?_)
        | refine TL.q (h := .add) (k := ?_)
        | refine TL.q (h := .catS) (k := ?_)
        | (refine TL.callF (h := known21) (k := ?_); rintro _ _ ⟨rfl, rfl⟩)
        | refine TL.q (h := .binI) (k := ?_)
        | refine TL.q (h := .binS) (k := ?_)
        | refine TL.q (h := .pickB) (k := ?_))
      refine ThnI.done ⟨rfl, rfl⟩ (by (repeat (first | exact AllIs.nil | refine AllIs.cons (by (simp only [St.ev, slk, Nat.reduceBEq, cond_true, cond_false]; first | done | rfl)) ?_))) (by (repeat (first | exact Picks.nil | (apply Picks.cons; (repeat (first | exact Pick.here | apply Pick.there))))))
  · rintro l A j ⟨rfl, rfl⟩
    repeat (first
      | with_reducible apply T.seq
      | with_reducible apply T.region
      | with_reducible apply TL.nil
      | with_reducible apply Thn.normal
      | with_reducible apply Thn.ret
      | with_reducible apply Thn.exit
      | with_reducible apply Blk.normal
      | with_reducible apply Blk.ret
      | ((with_reducible refine Blk.exitE ?_ ?_); · rfl)
      | ((with_reducible refine Blk.exitN ?_ ?_); · rfl)
      | with_reducible apply Rnd.ret
      | with_reducible apply Rnd.exit
      | with_reducible apply RndI.ret
      | with_reducible apply RndI.exit
      | with_reducible apply ThnI.ret
      | with_reducible apply ThnI.exit
      | with_reducible apply T.skip
      | with_reducible apply T.block
      | with_reducible apply T.ret
      | with_reducible apply T.exit
      | refine T.condT (h := ?_)
      | refine T.condF (h := ?_)
      | refine TL.pass (k := ?_)
      | refine TL.passN (k := ?_)
      | refine TL.take (k := ?_)
      | refine TL.q (h := .assign) (k := ?_)
      | refine TL.q (h := .move) (k := ?_)
      | refine TL.q (h := .build) (k := ?_)
      | (refine TL.e (h := .bx) (k := ?_); rintro _ _ ⟨_, rfl, rfl⟩)
      | (refine TL.callF (h := cache_New) (k := ?_); rintro _ _ ⟨_, rfl, rfl⟩)
      | refine TL.q (h := .eqNil) (k := ?_)
      | refine TL.q (h := .and) (k := ?_)
      | (refine TL.callF (h := tape_Cards _ _ _ _ _ _ (by first | assumption | rfl | omega | (simp at *; omega)) (by first | assumption | rfl | omega | (simp at *; omega))) (k := ?_); rintro _ _ ⟨_, rfl, rfl⟩)
      | (refine TL.callF (h := keep_Once _ _ _ (by first | assumption | rfl | omega | (simp at *; omega))) (k := ?_); rintro _ _ ⟨_, rfl, rfl⟩)
      | (refine TL.callF (h := ref_Seen _ _ _ (by first | assumption | rfl | omega | (simp at *; omega))) (k := ?_); rintro _ _ ⟨_, rfl, rfl⟩)
      | (refine TL.callF (h := ref_Seal _ _ _ (by first | assumption | rfl | omega | (simp at *; omega)) (by first | assumption | rfl | omega | (simp at *; omega))) (k := ?_); rintro _ _ ⟨rfl, rfl⟩)
      | (refine TL.e (h := .al) (k := ?_); rintro _ _ ⟨_, rfl, rfl⟩)
      | refine TL.u (h := .stA0) (k := ?_)
      | refine TL.u (h := .st) (k := ?_)
      | refine TL.u (h := .stA) (k := ?_)
      | refine TL.u (h := .stEp) (k := ?_)
      | refine TL.u (h := .stEpA) (k := ?_)
      | refine TL.q (h := .loadA) (k := ?_)
      | refine TL.q (h := .loadEpA) (k := ?_)
      | (refine TL.callF (h := hap2 _ _ _) (k := ?_); rintro _ _ ⟨rfl, _, rfl⟩)
      | (refine TL.callF (h := hap1 _ _ _) (k := ?_); rintro _ _ ⟨rfl, _, rfl⟩)
      | (refine TL.callF (h := apply_nil _ _ _) (k := ?_); rintro _ _ ⟨rfl, rfl⟩)
      | (refine TL.callF (h := cache_Since _ _ _ _) (k := ?_); rintro _ _ ⟨rfl, rfl⟩)
      | refine TL.q (h := .pickT) (k := ?_)
      | refine TL.q (h := .pickF) (k := ?_)
      | (refine TL.callF (h := hca _ _) (k := ?_); rintro _ _ ⟨_, rfl, rfl⟩)
      | (refine TL.callF (h := hca) (k := ?_); rintro _ _ ⟨_, rfl, rfl⟩)
      | (refine TL.callF (h := cache_Cards _ _ _ _ _ (by first | assumption | rfl | omega | (simp at *; omega))) (k := ?_); rintro _ _ ⟨_, rfl, rfl⟩)
      | (refine TL.callF (h := ref_Same _ _ _ _ _ _ (by first | assumption | rfl | omega | (simp at *; omega))) (k := ?_); rintro _ _ ⟨rfl, rfl⟩)
      | refine TL.q (h := .not) (k := ?_)
      | (refine TL.callF (h := cache_Forget _ _ _) (k := ?_); rintro _ _ ⟨rfl, rfl⟩)
      | refine TL.q (h := .fieldAddr) (k := ?_)
      | refine TL.q (h := .fieldEp) (k := ?_)
      | refine TL.q (h := .add) (k := ?_)
      | refine TL.q (h := .catS) (k := ?_)
      | (refine TL.callF (h := known21) (k := ?_); rintro _ _ ⟨rfl, rfl⟩)
      | refine TL.q (h := .binI) (k := ?_)
      | refine TL.q (h := .binS) (k := ?_)
      | refine TL.q (h := .pickB) (k := ?_))
    (first | refine RetQ.retI (L := [row m 3 1 x.v (xs.map intC)]) (ResIs.r1 Try.results4 (RV.tmp)) (by (repeat (first | exact Picks.nil | (apply Picks.cons; (repeat (first | exact Pick.here | apply Pick.there)))))) ?_ | refine RetQ.norI (L := [row m 3 1 x.v (xs.map intC)]) (ResIs.r1 Try.results4 (RV.tmp)) (by (repeat (first | exact Picks.nil | (apply Picks.cons; (repeat (first | exact Pick.here | apply Pick.there)))))) ?_)
    exact ⟨rfl, rfl⟩
end Go.Proofs.Ytpbomaelkpjbbaa

