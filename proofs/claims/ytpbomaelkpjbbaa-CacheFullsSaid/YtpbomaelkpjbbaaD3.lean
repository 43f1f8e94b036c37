import Derived.Test.YtpbomaelkpjbbaaD2
namespace Go.Proofs.Ytpbomaelkpjbbaa
open Go.Fw
attribute [local irreducible] T TL TG Thn ThnI Blk Rnd RndI RetQ OpV OpE OpU OpK Ctr row cel ep
def byC (x : Int) : List Value := [.int .u8 x]
def u8 (n : Int) : Int := IntKind.u8.wrap n
def txt (a : ByteArray) : List Int := a.data.toList.map fun b => (b.toNat : Int)
theorem bytesCells_txt (a : ByteArray) : bytesCells a = (txt a).map byC := by
  simp only [bytesCells, txt, List.map_map]; rfl
theorem txt_len (a : ByteArray) : (txt a).length = a.size := by simp [txt]
theorem clone_bytes (m : Bool) (x : Sl) (css : List (List Value)) (hl : css.length ≤ 1000000) : Ctr Try.prog 143 #[x.v] [row m 5 1 x.v css] fun v L => ∃ q : Sl, v = q.v ∧ L = [row m 5 1 x.v css, row true 5 1 q.v css] := by
  refine Ctr.of (n := 8) (args := [_]) Try.func143 rfl rfl rfl fun F => ?_
  simp only [List.zipIdx_cons, List.zipIdx_nil, List.map_cons, List.map_nil, Nat.zero_add, Nat.reduceAdd, List.cons_append, List.nil_append]
  refine T.fact (p := x.a = none → css = []) (fun w hs => ?_) (fun hn => ?_)
  · intro e
    rw [Fw.seps] at hs
    have h := sat_len hs
    rcases sat_row.1 hs with ⟨_, _, _, h, _⟩ | ⟨b, off, cap, c, h, _⟩
    · exact h
    · simp only [Sl.v, Value.slice.injEq, e] at h; cases h.1
  repeat (first
    | with_reducible apply T.seq
    | with_reducible apply T.region
    | with_reducible apply TL.nil
    | with_reducible apply Thn.normal
    | with_reducible apply Thn.ret
    | with_reducible apply Thn.exit
    | with_reducible apply Blk.normal
    | with_reducible apply Blk.ret
    | ((with_reducible refine Blk.exitE ?_ ?_); · rfl)
    | ((with_reducible refine Blk.exitN ?_ ?_); · rfl)
    | with_reducible apply Rnd.ret
    | with_reducible apply Rnd.exit
    | with_reducible apply RndI.ret
    | with_reducible apply RndI.exit
    | with_reducible apply ThnI.ret
    | with_reducible apply ThnI.exit
    | with_reducible apply T.skip
    | with_reducible apply T.block
    | with_reducible apply T.ret
    | with_reducible apply T.exit
    | refine T.condT (h := ?_)
    | refine T.condF (h := ?_)
    | refine TL.pass (k := ?_)
    | refine TL.passN (k := ?_)
    | refine TL.take (k := ?_)
    | refine TL.q (h := .assign) (k := ?_)
    | refine TL.q (h := .move) (k := ?_)
    | refine TL.q (h := .eqNilS) (k := ?_)
    | (refine TL.e (h := .bs) (k := ?_); rintro _ _ ⟨_, rfl, rfl⟩)
    | (refine TL.e (h := .app) (k := ?_); rintro _ _ ⟨_, rfl, rfl⟩)
    | (refine TL.e (h := .appS) (k := ?_); rintro _ _ ⟨_, rfl, rfl⟩))
  refine T.cond (by (simp only [St.ev, slk, Nat.reduceBEq, cond_true, cond_false]; first | done | rfl)) (fun h0 => ?_) (fun h0 => ?_)
  · have hx := hn (by simpa using h0)
    subst hx
    refine T.parts (add_nil true 5 1) ?_
    repeat (first
      | with_reducible apply T.seq
      | with_reducible apply T.region
      | with_reducible apply TL.nil
      | with_reducible apply Thn.normal
      | with_reducible apply Thn.ret
      | with_reducible apply Thn.exit
      | with_reducible apply Blk.normal
      | with_reducible apply Blk.ret
      | ((with_reducible refine Blk.exitE ?_ ?_); · rfl)
      | ((with_reducible refine Blk.exitN ?_ ?_); · rfl)
      | with_reducible apply Rnd.ret
      | with_reducible apply Rnd.exit
      | with_reducible apply RndI.ret
      | with_reducible apply RndI.exit
      | with_reducible apply ThnI.ret
      | with_reducible apply ThnI.exit
      | with_reducible apply T.skip
      | with_reducible apply T.block
      | with_reducible apply T.ret
      | with_reducible apply T.exit
      | refine T.condT (h := ?_)
      | refine T.condF (h := ?_)
      | refine TL.pass (k := ?_)
      | refine TL.passN (k := ?_)
      | refine TL.take (k := ?_)
      | refine TL.q (h := .assign) (k := ?_)
      | refine TL.q (h := .move) (k := ?_)
      | refine TL.q (h := .eqNilS) (k := ?_)
      | (refine TL.e (h := .bs) (k := ?_); rintro _ _ ⟨_, rfl, rfl⟩)
      | (refine TL.e (h := .app) (k := ?_); rintro _ _ ⟨_, rfl, rfl⟩)
      | (refine TL.e (h := .appS) (k := ?_); rintro _ _ ⟨_, rfl, rfl⟩))
    (first | refine RetQ.retI (L := [row m 5 1 x.v [], row true 5 1 Sl.nil.v []]) (ResIs.r1 Try.results143 (RV.tmp)) (by (repeat (first | exact Picks.nil | (apply Picks.cons; (repeat (first | exact Pick.here | apply Pick.there)))))) ?_ | refine RetQ.norI (L := [row m 5 1 x.v [], row true 5 1 Sl.nil.v []]) (ResIs.r1 Try.results143 (RV.tmp)) (by (repeat (first | exact Picks.nil | (apply Picks.cons; (repeat (first | exact Pick.here | apply Pick.there)))))) ?_)
    exact ⟨Sl.nil, rfl, rfl⟩
  · skip
    repeat (first
      | with_reducible apply T.seq
      | with_reducible apply T.region
      | with_reducible apply TL.nil
      | with_reducible apply Thn.normal
      | with_reducible apply Thn.ret
      | with_reducible apply Thn.exit
      | with_reducible apply Blk.normal
      | with_reducible apply Blk.ret
      | ((with_reducible refine Blk.exitE ?_ ?_); · rfl)
      | ((with_reducible refine Blk.exitN ?_ ?_); · rfl)
      | with_reducible apply Rnd.ret
      | with_reducible apply Rnd.exit
      | with_reducible apply RndI.ret
      | with_reducible apply RndI.exit
      | with_reducible apply ThnI.ret
      | with_reducible apply ThnI.exit
      | with_reducible apply T.skip
      | with_reducible apply T.block
      | with_reducible apply T.ret
      | with_reducible apply T.exit
      | refine T.condT (h := ?_)
      | refine T.condF (h := ?_)
      | refine TL.pass (k := ?_)
      | refine TL.passN (k := ?_)
      | refine TL.take (k := ?_)
      | refine TL.q (h := .assign) (k := ?_)
      | refine TL.q (h := .move) (k := ?_)
      | refine TL.q (h := .eqNilS) (k := ?_)
      | (refine TL.e (h := .bs) (k := ?_); rintro _ _ ⟨_, rfl, rfl⟩)
      | (refine TL.e (h := .app) (k := ?_); rintro _ _ ⟨_, rfl, rfl⟩)
      | (refine TL.e (h := .appS) (k := ?_); rintro _ _ ⟨_, rfl, rfl⟩))
    (first | refine RetQ.retI (L := [row m 5 1 x.v css, _]) (ResIs.r1 Try.results143 (RV.tmp)) (by (repeat (first | exact Picks.nil | (apply Picks.cons; (repeat (first | exact Pick.here | apply Pick.there)))))) ?_ | refine RetQ.norI (L := [row m 5 1 x.v css, _]) (ResIs.r1 Try.results143 (RV.tmp)) (by (repeat (first | exact Picks.nil | (apply Picks.cons; (repeat (first | exact Pick.here | apply Pick.there)))))) ?_)
    exact ⟨_, rfl, rfl⟩
theorem clip_bytes (m : Bool) (x : Sl) (css : List (List Value)) : Ctr Try.prog 144 #[x.v] [row m 5 1 x.v css] fun v L => ∃ q : Sl, v = q.v ∧ L = [row m 5 1 q.v css] := by
  refine Ctr.of (n := 9) (args := [_]) Try.func144 rfl rfl rfl fun F => ?_
  simp only [List.zipIdx_cons, List.zipIdx_nil, List.map_cons, List.map_nil, Nat.zero_add, Nat.reduceAdd, List.cons_append, List.nil_append]
  repeat (first
    | with_reducible apply T.seq
    | with_reducible apply T.region
    | with_reducible apply TL.nil
    | with_reducible apply Thn.normal
    | with_reducible apply Thn.ret
    | with_reducible apply Thn.exit
    | with_reducible apply Blk.normal
    | with_reducible apply Blk.ret
    | ((with_reducible refine Blk.exitE ?_ ?_); · rfl)
    | ((with_reducible refine Blk.exitN ?_ ?_); · rfl)
    | with_reducible apply Rnd.ret
    | with_reducible apply Rnd.exit
    | with_reducible apply RndI.ret
    | with_reducible apply RndI.exit
    | with_reducible apply ThnI.ret
    | with_reducible apply ThnI.exit
    | with_reducible apply T.skip
    | with_reducible apply T.block
    | with_reducible apply T.ret
    | with_reducible apply T.exit
    | refine T.condT (h := ?_)
    | refine T.condF (h := ?_)
    | refine TL.pass (k := ?_)
    | refine TL.passN (k := ?_)
    | refine TL.take (k := ?_)
    | refine TL.q (h := .assign) (k := ?_)
    | refine TL.q (h := .move) (k := ?_)
    | refine TL.q (h := .lenR) (k := ?_)
    | refine TL.q (h := .lenS) (k := ?_)
    | refine TL.q (h := .subNil) (k := ?_)
    | (refine TL.e (h := .subL) (k := ?_); rintro _ _ ⟨_, rfl, rfl⟩)
    | (refine TL.e (h := .subH) (k := ?_); rintro _ _ ⟨_, rfl, rfl⟩)
    | (refine TL.e (h := .subLH) (k := ?_); rintro _ _ ⟨_, rfl, rfl⟩)
    | (refine TL.e (h := .subHM) (k := ?_); rintro _ _ ⟨_, rfl, rfl⟩))
  rename_i q
  rw [List.take_length]
  (first | refine RetQ.retI (L := [row m 5 1 q.v css]) (ResIs.r1 Try.results144 (RV.tmp)) (by (repeat (first | exact Picks.nil | (apply Picks.cons; (repeat (first | exact Pick.here | apply Pick.there)))))) ?_ | refine RetQ.norI (L := [row m 5 1 q.v css]) (ResIs.r1 Try.results144 (RV.tmp)) (by (repeat (first | exact Picks.nil | (apply Picks.cons; (repeat (first | exact Pick.here | apply Pick.there)))))) ?_)
  exact ⟨q, rfl, rfl⟩
def pByte (bs : List Int) (n : Int) : List Int := bs ++ [u8 n]
theorem pByte_map (bs : List Int) (n : Int) : bs.map byC ++ [[Value.int .u8 (IntKind.u8.wrap n)]] = (pByte bs n).map byC := by
  simp only [pByte, List.map_append]; rfl
theorem pack_Byte (m : Bool) (x : Sl) (bs : List Int) (n : Int) (hl : bs.length ≤ 100000) : Ctr Try.prog 94 #[x.v, .int .i64 n] [row m 5 1 x.v (bs.map byC)]
    fun v L => ∃ q : Sl, v = q.v ∧ L = [row m 5 1 x.v (bs.map byC), row true 5 1 q.v ((pByte bs n).map byC)] := by
  have hlm : (bs.map byC).length = bs.length := by simp
  refine Ctr.of (n := 11) (args := [_, _]) Try.func94 rfl rfl rfl fun F => ?_
  simp only [List.zipIdx_cons, List.zipIdx_nil, List.map_cons, List.map_nil, Nat.zero_add, Nat.reduceAdd, List.cons_append, List.nil_append]
  repeat (first
    | with_reducible apply T.seq
    | with_reducible apply T.region
    | with_reducible apply TL.nil
    | with_reducible apply Thn.normal
    | with_reducible apply Thn.ret
    | with_reducible apply Thn.exit
    | with_reducible apply Blk.normal
    | with_reducible apply Blk.ret
    | ((with_reducible refine Blk.exitE ?_ ?_); · rfl)
    | ((with_reducible refine Blk.exitN ?_ ?_); · rfl)
    | with_reducible apply Rnd.ret
    | with_reducible apply Rnd.exit
    | with_reducible apply RndI.ret
    | with_reducible apply RndI.exit
    | with_reducible apply ThnI.ret
    | with_reducible apply ThnI.exit
    | with_reducible apply T.skip
    | with_reducible apply T.block
    | with_reducible apply T.ret
    | with_reducible apply T.exit
    | refine T.condT (h := ?_)
    | refine T.condF (h := ?_)
    | refine TL.pass (k := ?_)
    | refine TL.passN (k := ?_)
    | refine TL.take (k := ?_)
    | refine TL.q (h := .assign) (k := ?_)
    | refine TL.q (h := .move) (k := ?_)
    | (refine TL.callF (h := clone_bytes _ _ _ (by first | assumption | rfl | omega | (simp at *; omega))) (k := ?_); rintro _ _ ⟨_, rfl, rfl⟩)
    | refine TL.q (h := .convI) (k := ?_)
    | (refine TL.e (h := .bs) (k := ?_); rintro _ _ ⟨_, rfl, rfl⟩)
    | (refine TL.e (h := .app) (k := ?_); rintro _ _ ⟨_, rfl, rfl⟩)
    | (refine TL.e (h := .appS) (k := ?_); rintro _ _ ⟨_, rfl, rfl⟩))
  rename_i q1 q2 q3
  rw [pByte_map]
  (first | refine RetQ.retI (L := [row m 5 1 x.v (bs.map byC), row true 5 1 q3.v ((pByte bs n).map byC)]) (ResIs.r1 Try.results94 (RV.tmp)) (by (repeat (first | exact Picks.nil | (apply Picks.cons; (repeat (first | exact Pick.here | apply Pick.there)))))) ?_ | refine RetQ.norI (L := [row m 5 1 x.v (bs.map byC), row true 5 1 q3.v ((pByte bs n).map byC)]) (ResIs.r1 Try.results94 (RV.tmp)) (by (repeat (first | exact Picks.nil | (apply Picks.cons; (repeat (first | exact Pick.here | apply Pick.there)))))) ?_)
  exact ⟨q3, rfl, rfl⟩
def pText (bs : List Int) (s : ByteArray) : List Int := pByte bs s.size ++ txt s
theorem pText_map (bs : List Int) (s : ByteArray) : (pByte bs s.size).map byC ++ bytesCells s = (pText bs s).map byC := by
  rw [bytesCells_txt, ← List.map_append]; rfl
theorem pText_len (bs : List Int) (s : ByteArray) : (pText bs s).length = bs.length + 1 + s.size := by simp [pText, pByte, txt_len]; omega
theorem pack_Text (m : Bool) (x : Sl) (bs : List Int) (s : ByteArray) (hl : bs.length ≤ 50000) (hs : s.size ≤ 255) : Ctr Try.prog 95 #[x.v, .string s] [row m 5 1 x.v (bs.map byC)]
    fun v L => ∃ q : Sl, v = q.v ∧ L = [row m 5 1 x.v (bs.map byC), row true 5 1 q.v ((pText bs s).map byC)] := by
  have hlm : ((pByte bs s.size).map byC).length = bs.length + 1 := by simp [pByte]
  refine Ctr.of (n := 16) (args := [_, _]) Try.func95 rfl rfl rfl fun F => ?_
  simp only [List.zipIdx_cons, List.zipIdx_nil, List.map_cons, List.map_nil, Nat.zero_add, Nat.reduceAdd, List.cons_append, List.nil_append]
  repeat (first
    | with_reducible apply T.seq
    | with_reducible apply T.region
    | with_reducible apply TL.nil
    | with_reducible apply Thn.normal
    | with_reducible apply Thn.ret
    | with_reducible apply Thn.exit
    | with_reducible apply Blk.normal
    | with_reducible apply Blk.ret
    | ((with_reducible refine Blk.exitE ?_ ?_); · rfl)
    | ((with_reducible refine Blk.exitN ?_ ?_); · rfl)
    | with_reducible apply Rnd.ret
    | with_reducible apply Rnd.exit
    | with_reducible apply RndI.ret
    | with_reducible apply RndI.exit
    | with_reducible apply ThnI.ret
    | with_reducible apply ThnI.exit
    | with_reducible apply T.skip
    | with_reducible apply T.block
    | with_reducible apply T.ret
    | with_reducible apply T.exit
    | refine T.condT (h := ?_)
    | refine T.condF (h := ?_)
    | refine TL.pass (k := ?_)
    | refine TL.passN (k := ?_)
    | refine TL.take (k := ?_)
    | refine TL.q (h := .assign) (k := ?_)
    | refine TL.q (h := .move) (k := ?_)
    | refine TL.q (h := .lenR) (k := ?_)
    | refine TL.q (h := .lenS) (k := ?_)
    | refine TL.q (h := .minL) (k := ?_)
    | refine TL.q (h := .minR) (k := ?_)
    | refine TL.q (h := .min2) (k := ?_)
    | refine TL.q (h := .subSAll) (k := ?_)
    | refine TL.q (h := .subSH) (k := ?_)
    | (refine TL.callF (h := pack_Byte _ _ _ _ (by first | assumption | rfl | omega | (simp at *; omega))) (k := ?_); rintro _ _ ⟨_, rfl, rfl⟩)
    | (refine TL.e (h := .app) (k := ?_); rintro _ _ ⟨_, rfl, rfl⟩)
    | (refine TL.e (h := .appS) (k := ?_); rintro _ _ ⟨_, rfl, rfl⟩))
  rename_i q1 q2
  rw [pText_map]
  (first | refine RetQ.retI (L := [row m 5 1 x.v (bs.map byC), row true 5 1 q2.v ((pText bs s).map byC)]) (ResIs.r1 Try.results95 (RV.tmp)) (by (repeat (first | exact Picks.nil | (apply Picks.cons; (repeat (first | exact Pick.here | apply Pick.there)))))) ?_ | refine RetQ.norI (L := [row m 5 1 x.v (bs.map byC), row true 5 1 q2.v ((pText bs s).map byC)]) (ResIs.r1 Try.results95 (RV.tmp)) (by (repeat (first | exact Picks.nil | (apply Picks.cons; (repeat (first | exact Pick.here | apply Pick.there)))))) ?_)
  exact ⟨q2, rfl, rfl⟩
/-- The first k bytes of a number, the high one first. -/
def pInts (n : Int) : Nat → List Int
  | 0 => []
  | k + 1 => pInts n k ++ [u8 (n / 2 ^ (8 * (7 - k)))]
def pInt (bs : List Int) (n : Int) : List Int := bs ++ pInts n 8
theorem pInts_len (n : Int) (k : Nat) : (pInts n k).length = k := by
  induction k with
  | zero => rfl
  | succ k ih => simp [pInts, ih]
theorem pInt_len (bs : List Int) (n : Int) : (pInt bs n).length = bs.length + 8 := by simp [pInt, pInts_len]
theorem pack_Int (m : Bool) (x : Sl) (bs : List Int) (n : Int) (hl : bs.length ≤ 50000) : Ctr Try.prog 97 #[x.v, .int .i64 n] [row m 5 1 x.v (bs.map byC)]
    fun v L => ∃ q : Sl, v = q.v ∧ L = [row m 5 1 x.v (bs.map byC), row true 5 1 q.v ((pInt bs n).map byC)] := by
  have hlm0 : (bs.map byC).length = bs.length := by simp
  refine Ctr.of (n := 23) (args := [_, _]) Try.func97 rfl rfl rfl fun F => ?_
  simp only [List.zipIdx_cons, List.zipIdx_nil, List.map_cons, List.map_nil, Nat.zero_add, Nat.reduceAdd, List.cons_append, List.nil_append]
  repeat (first
    | with_reducible apply T.seq
    | with_reducible apply T.region
    | with_reducible apply TL.nil
    | with_reducible apply Thn.normal
    | with_reducible apply Thn.ret
    | with_reducible apply Thn.exit
    | with_reducible apply Blk.normal
    | with_reducible apply Blk.ret
    | ((with_reducible refine Blk.exitE ?_ ?_); · rfl)
    | ((with_reducible refine Blk.exitN ?_ ?_); · rfl)
    | with_reducible apply Rnd.ret
    | with_reducible apply Rnd.exit
    | with_reducible apply RndI.ret
    | with_reducible apply RndI.exit
    | with_reducible apply ThnI.ret
    | with_reducible apply ThnI.exit
    | with_reducible apply T.skip
    | with_reducible apply T.block
    | with_reducible apply T.ret
    | with_reducible apply T.exit
    | refine T.condT (h := ?_)
    | refine T.condF (h := ?_)
    | refine TL.pass (k := ?_)
    | refine TL.passN (k := ?_)
    | refine TL.take (k := ?_)
    | refine TL.q (h := .assign) (k := ?_)
    | refine TL.q (h := .move) (k := ?_)
    | (refine TL.callF (h := clone_bytes _ _ _ (by first | assumption | rfl | omega | (simp at *; omega))) (k := ?_); rintro _ _ ⟨_, rfl, rfl⟩)
    | refine TL.q (h := .mul) (k := ?_)
    | refine TL.q (h := .shr) (k := ?_)
    | refine TL.q (h := .convI) (k := ?_)
    | (refine TL.e (h := .bs) (k := ?_); rintro _ _ ⟨_, rfl, rfl⟩)
    | (refine TL.e (h := .app) (k := ?_); rintro _ _ ⟨_, rfl, rfl⟩)
    | (refine TL.e (h := .appS) (k := ?_); rintro _ _ ⟨_, rfl, rfl⟩)
    | refine TL.q (h := .sub) (k := ?_)
    | (refine TL.callF (h := clip_bytes _ _ _) (k := ?_); rintro _ _ ⟨_, rfl, rfl⟩)
    | refine TL.q (h := .binI) (k := ?_)
    | refine TL.q (h := .binS) (k := ?_))
  rename_i q0
  refine T.blkW (fun l A => ∃ q : Sl, l = [(5, q.v)] ∧ A = [row m 5 1 x.v (bs.map byC), row true 5 1 q.v ((pInt bs n).map byC), F]) ?_ ?_
  · refine T.loopI (fun q' l A => ∃ (k : Nat) (q : Sl), q' = 8 - k ∧ k ≤ 8 ∧ l = [(6, .int .i64 (7 - (k : Int))), (5, q.v), (1, .int .i64 n)] ∧ A = [row m 5 1 x.v (bs.map byC), row true 5 1 q.v ((bs ++ pInts n k).map byC), F])
      ⟨0, q0, rfl, by omega, rfl, by rw [show bs ++ pInts n 0 = bs from List.append_nil bs]⟩ (by (repeat (first | exact AllIs.nil | refine AllIs.cons (by (simp only [St.ev, slk, Nat.reduceBEq, cond_true, cond_false]; first | done | rfl)) ?_))) (by (repeat (first | exact Picks.nil | (apply Picks.cons; (repeat (first | exact Pick.here | apply Pick.there)))))) ?_
    rintro q' l A j ⟨k, q, rfl, hk, rfl, rfl⟩
    have hlm : ((bs ++ pInts n k).map byC).length = bs.length + k := by simp [pInts_len]
    repeat (first
      | with_reducible apply T.seq
      | with_reducible apply T.region
      | with_reducible apply TL.nil
      | with_reducible apply Thn.normal
      | with_reducible apply Thn.ret
      | with_reducible apply Thn.exit
      | with_reducible apply Blk.normal
      | with_reducible apply Blk.ret
      | ((with_reducible refine Blk.exitE ?_ ?_); · rfl)
      | ((with_reducible refine Blk.exitN ?_ ?_); · rfl)
      | with_reducible apply Rnd.ret
      | with_reducible apply Rnd.exit
      | with_reducible apply RndI.ret
      | with_reducible apply RndI.exit
      | with_reducible apply ThnI.ret
      | with_reducible apply ThnI.exit
      | with_reducible apply T.skip
      | with_reducible apply T.block
      | with_reducible apply T.ret
      | with_reducible apply T.exit
      | refine T.condT (h := ?_)
      | refine T.condF (h := ?_)
      | refine TL.pass (k := ?_)
      | refine TL.passN (k := ?_)
      | refine TL.take (k := ?_)
      | refine TL.q (h := .assign) (k := ?_)
      | refine TL.q (h := .move) (k := ?_)
      | (refine TL.callF (h := clone_bytes _ _ _ (by first | assumption | rfl | omega | (simp at *; omega))) (k := ?_); rintro _ _ ⟨_, rfl, rfl⟩)
      | refine TL.q (h := .mul) (k := ?_)
      | refine TL.q (h := .shr) (k := ?_)
      | refine TL.q (h := .convI) (k := ?_)
      | (refine TL.e (h := .bs) (k := ?_); rintro _ _ ⟨_, rfl, rfl⟩)
      | (refine TL.e (h := .app) (k := ?_); rintro _ _ ⟨_, rfl, rfl⟩)
      | (refine TL.e (h := .appS) (k := ?_); rintro _ _ ⟨_, rfl, rfl⟩)
      | refine TL.q (h := .sub) (k := ?_)
      | (refine TL.callF (h := clip_bytes _ _ _) (k := ?_); rintro _ _ ⟨_, rfl, rfl⟩)
      | refine TL.q (h := .binI) (k := ?_)
      | refine TL.q (h := .binS) (k := ?_))
    refine T.condD (ht := fun hge => ?_) (hf := fun hge => ?_)
    · have hb : IntKind.i64.bits = 64 := rfl
      have e : min (8 * (7 - (k : Int))).toNat IntKind.i64.bits = 8 * (7 - k) := by rw [hb]; omega
      have hm : ∀ a : Int, (bs ++ pInts n k).map byC ++ [[Value.int .u8 (IntKind.u8.wrap a)]] = (bs ++ pInts n k ++ [u8 a]).map byC := fun a => by
        rw [List.map_append (l₂ := [u8 a])]; rfl
      repeat (first
        | with_reducible apply T.seq
        | with_reducible apply T.region
        | with_reducible apply TL.nil
        | with_reducible apply Thn.normal
        | with_reducible apply Thn.ret
        | with_reducible apply Thn.exit
        | with_reducible apply Blk.normal
        | with_reducible apply Blk.ret
        | ((with_reducible refine Blk.exitE ?_ ?_); · rfl)
        | ((with_reducible refine Blk.exitN ?_ ?_); · rfl)
        | with_reducible apply Rnd.ret
        | with_reducible apply Rnd.exit
        | with_reducible apply RndI.ret
        | with_reducible apply RndI.exit
        | with_reducible apply ThnI.ret
        | with_reducible apply ThnI.exit
        | with_reducible apply T.skip
        | with_reducible apply T.block
        | with_reducible apply T.ret
        | with_reducible apply T.exit
        | refine T.condT (h := ?_)
        | refine T.condF (h := ?_)
        | refine TL.pass (k := ?_)
        | refine TL.passN (k := ?_)
        | refine TL.take (k := ?_)
        | refine TL.q (h := .assign) (k := ?_)
        | refine TL.q (h := .move) (k := ?_)
        | (refine TL.callF (h := clone_bytes _ _ _ (by first | assumption | rfl | omega | (simp at *; omega))) (k := ?_); rintro _ _ ⟨_, rfl, rfl⟩)
        | refine TL.q (h := .mul) (k := ?_)
        | refine TL.q (h := .shr) (k := ?_)
        | refine TL.q (h := .convI) (k := ?_)
        | (refine TL.e (h := .bs) (k := ?_); rintro _ _ ⟨_, rfl, rfl⟩)
        | (refine TL.e (h := .app) (k := ?_); rintro _ _ ⟨_, rfl, rfl⟩)
        | (refine TL.e (h := .appS) (k := ?_); rintro _ _ ⟨_, rfl, rfl⟩)
        | refine TL.q (h := .sub) (k := ?_)
        | (refine TL.callF (h := clip_bytes _ _ _) (k := ?_); rintro _ _ ⟨_, rfl, rfl⟩)
        | refine TL.q (h := .binI) (k := ?_)
        | refine TL.q (h := .binS) (k := ?_))
      rename_i q1 q2
      rw [e, hm]
      have e2 : (7 : Int) - (k : Int) - 1 = 7 - ((k + 1 : Nat) : Int) := by omega
      rw [e2, List.append_assoc]
      refine RndI.next (m' := 8 - (k + 1)) (by omega) ⟨k + 1, q2, rfl, by omega, rfl, rfl⟩ (by (repeat (first | exact AllIs.nil | refine AllIs.cons (by (simp only [St.ev, slk, Nat.reduceBEq, cond_true, cond_false]; first | done | rfl)) ?_))) (by (repeat (first | exact Picks.nil | (apply Picks.cons; (repeat (first | exact Pick.here | apply Pick.there))))))
    · have hk8 : k = 8 := by omega
      subst hk8
      repeat (first
        | with_reducible apply T.seq
        | with_reducible apply T.region
        | with_reducible apply TL.nil
        | with_reducible apply Thn.normal
        | with_reducible apply Thn.ret
        | with_reducible apply Thn.exit
        | with_reducible apply Blk.normal
        | with_reducible apply Blk.ret
        | ((with_reducible refine Blk.exitE ?_ ?_); · rfl)
        | ((with_reducible refine Blk.exitN ?_ ?_); · rfl)
        | with_reducible apply Rnd.ret
        | with_reducible apply Rnd.exit
        | with_reducible apply RndI.ret
        | with_reducible apply RndI.exit
        | with_reducible apply ThnI.ret
        | with_reducible apply ThnI.exit
        | with_reducible apply T.skip
        | with_reducible apply T.block
        | with_reducible apply T.ret
        | with_reducible apply T.exit
        | refine T.condT (h := ?_)
        | refine T.condF (h := ?_)
        | refine TL.pass (k := ?_)
        | refine TL.passN (k := ?_)
        | refine TL.take (k := ?_)
        | refine TL.q (h := .assign) (k := ?_)
        | refine TL.q (h := .move) (k := ?_)
        | (refine TL.callF (h := clone_bytes _ _ _ (by first | assumption | rfl | omega | (simp at *; omega))) (k := ?_); rintro _ _ ⟨_, rfl, rfl⟩)
        | refine TL.q (h := .mul) (k := ?_)
        | refine TL.q (h := .shr) (k := ?_)
        | refine TL.q (h := .convI) (k := ?_)
        | (refine TL.e (h := .bs) (k := ?_); rintro _ _ ⟨_, rfl, rfl⟩)
        | (refine TL.e (h := .app) (k := ?_); rintro _ _ ⟨_, rfl, rfl⟩)
        | (refine TL.e (h := .appS) (k := ?_); rintro _ _ ⟨_, rfl, rfl⟩)
        | refine TL.q (h := .sub) (k := ?_)
        | (refine TL.callF (h := clip_bytes _ _ _) (k := ?_); rintro _ _ ⟨_, rfl, rfl⟩)
        | refine TL.q (h := .binI) (k := ?_)
        | refine TL.q (h := .binS) (k := ?_))
      refine ThnI.done ⟨q, rfl, rfl⟩ (by (repeat (first | exact AllIs.nil | refine AllIs.cons (by (simp only [St.ev, slk, Nat.reduceBEq, cond_true, cond_false]; first | done | rfl)) ?_))) (by (repeat (first | exact Picks.nil | (apply Picks.cons; (repeat (first | exact Pick.here | apply Pick.there))))))
  · rintro l A j ⟨q, rfl, rfl⟩
    repeat (first
      | with_reducible apply T.seq
      | with_reducible apply T.region
      | with_reducible apply TL.nil
      | with_reducible apply Thn.normal
      | with_reducible apply Thn.ret
      | with_reducible apply Thn.exit
      | with_reducible apply Blk.normal
      | with_reducible apply Blk.ret
      | ((with_reducible refine Blk.exitE ?_ ?_); · rfl)
      | ((with_reducible refine Blk.exitN ?_ ?_); · rfl)
      | with_reducible apply Rnd.ret
      | with_reducible apply Rnd.exit
      | with_reducible apply RndI.ret
      | with_reducible apply RndI.exit
      | with_reducible apply ThnI.ret
      | with_reducible apply ThnI.exit
      | with_reducible apply T.skip
      | with_reducible apply T.block
      | with_reducible apply T.ret
      | with_reducible apply T.exit
      | refine T.condT (h := ?_)
      | refine T.condF (h := ?_)
      | refine TL.pass (k := ?_)
      | refine TL.passN (k := ?_)
      | refine TL.take (k := ?_)
      | refine TL.q (h := .assign) (k := ?_)
      | refine TL.q (h := .move) (k := ?_)
      | (refine TL.callF (h := clone_bytes _ _ _ (by first | assumption | rfl | omega | (simp at *; omega))) (k := ?_); rintro _ _ ⟨_, rfl, rfl⟩)
      | refine TL.q (h := .mul) (k := ?_)
      | refine TL.q (h := .shr) (k := ?_)
      | refine TL.q (h := .convI) (k := ?_)
      | (refine TL.e (h := .bs) (k := ?_); rintro _ _ ⟨_, rfl, rfl⟩)
      | (refine TL.e (h := .app) (k := ?_); rintro _ _ ⟨_, rfl, rfl⟩)
      | (refine TL.e (h := .appS) (k := ?_); rintro _ _ ⟨_, rfl, rfl⟩)
      | refine TL.q (h := .sub) (k := ?_)
      | (refine TL.callF (h := clip_bytes _ _ _) (k := ?_); rintro _ _ ⟨_, rfl, rfl⟩)
      | refine TL.q (h := .binI) (k := ?_)
      | refine TL.q (h := .binS) (k := ?_))
    rename_i q1
    (first | refine RetQ.retI (L := [row m 5 1 x.v (bs.map byC), row true 5 1 q1.v ((pInt bs n).map byC)]) (ResIs.r1 Try.results97 (RV.tmp)) (by (repeat (first | exact Picks.nil | (apply Picks.cons; (repeat (first | exact Pick.here | apply Pick.there)))))) ?_ | refine RetQ.norI (L := [row m 5 1 x.v (bs.map byC), row true 5 1 q1.v ((pInt bs n).map byC)]) (ResIs.r1 Try.results97 (RV.tmp)) (by (repeat (first | exact Picks.nil | (apply Picks.cons; (repeat (first | exact Pick.here | apply Pick.there)))))) ?_)
    exact ⟨q1, rfl, rfl⟩
def showsM (c : MCard) : Int := if c.gone = true then 0 else if c.over ≠ 0 then c.over else c.status
theorem card_Shows (c : MCard) : Ctr Try.prog 96 #[.agg c.C.toArray] [] fun v L => v = .int .i64 (showsM c) ∧ L = [] := by
  simp only [MCard.C]
  refine Ctr.of (n := 14) (args := [_]) Try.func96 rfl rfl rfl fun F => ?_
  simp only [List.zipIdx_cons, List.zipIdx_nil, List.map_cons, List.map_nil, Nat.zero_add, Nat.reduceAdd, List.cons_append, List.nil_append]
  repeat' (first
    | with_reducible apply T.seq
    | with_reducible apply T.region
    | with_reducible apply TL.nil
    | with_reducible apply Thn.normal
    | with_reducible apply Thn.ret
    | with_reducible apply Thn.exit
    | with_reducible apply Blk.normal
    | with_reducible apply Blk.ret
    | ((with_reducible refine Blk.exitE ?_ ?_); · rfl)
    | ((with_reducible refine Blk.exitN ?_ ?_); · rfl)
    | with_reducible apply Rnd.ret
    | with_reducible apply Rnd.exit
    | with_reducible apply RndI.ret
    | with_reducible apply RndI.exit
    | with_reducible apply ThnI.ret
    | with_reducible apply ThnI.exit
    | with_reducible apply T.skip
    | with_reducible apply T.block
    | with_reducible apply T.ret
    | with_reducible apply T.exit
    | refine T.condT (h := ?_)
    | refine T.condF (h := ?_)
    | refine TL.pass (k := ?_)
    | refine TL.passN (k := ?_)
    | refine TL.take (k := ?_)
    | (refine TL.e (h := .bx) (k := ?_); rintro _ _ ⟨_, rfl, rfl⟩)
    | refine TL.q (h := .assign) (k := ?_)
    | refine TL.q (h := .fieldAddr) (k := ?_)
    | refine TL.q (h := .fieldEp) (k := ?_)
    | refine TL.q (h := .load) (k := ?_)
    | refine TL.q (h := .loadEp) (k := ?_)
    | refine TL.q (h := .binI) (k := ?_)
    | refine TL.gT (k := ?_)
    | refine TL.gF (k := ?_)
    | refine T.cT (h := ?_)
    | refine T.cF (h := ?_)
    | (refine TL.gcase (ht := fun _ => ?_) (hf := fun _ => ?_))
    | refine T.cond (by (simp only [St.ev, slk, Nat.reduceBEq, cond_true, cond_false]; first | done | rfl)) (fun _ => ?_) (fun _ => ?_))
  all_goals ((first | refine RetQ.retI (L := []) (ResIs.r1 Try.results96 (RV.tmp)) (by (repeat (first | exact Picks.nil | (apply Picks.cons; (repeat (first | exact Pick.here | apply Pick.there)))))) ?_ | refine RetQ.norI (L := []) (ResIs.r1 Try.results96 (RV.tmp)) (by (repeat (first | exact Picks.nil | (apply Picks.cons; (repeat (first | exact Pick.here | apply Pick.there)))))) ?_)
             simp_all [showsM])
def stepS (h c : Int) : Int := IntKind.u32.wrap (IntKind.u32.wrap (IntKind.u32.wrap (h * 31) + IntKind.u32.wrap c) + 7)
def sumB (bs : List Int) : Int := bs.foldl stepS 17
theorem frame_Sum (m : Bool) (x : Sl) (bs : List Int) (hl : bs.length ≤ 100000) : Ctr Try.prog 93 #[x.v] [row m 5 1 x.v (bs.map byC)] fun v L => v = .int .u32 (sumB bs) ∧ L = [row m 5 1 x.v (bs.map byC)] := by
  have hlm : (bs.map byC).length = bs.length := by simp
  refine Ctr.of (n := 20) (args := [_]) Try.func93 rfl rfl rfl fun F => ?_
  simp only [List.zipIdx_cons, List.zipIdx_nil, List.map_cons, List.map_nil, Nat.zero_add, Nat.reduceAdd, List.cons_append, List.nil_append]
  repeat (first
    | with_reducible apply T.seq
    | with_reducible apply T.region
    | with_reducible apply TL.nil
    | with_reducible apply Thn.normal
    | with_reducible apply Thn.ret
    | with_reducible apply Thn.exit
    | with_reducible apply Blk.normal
    | with_reducible apply Blk.ret
    | ((with_reducible refine Blk.exitE ?_ ?_); · rfl)
    | ((with_reducible refine Blk.exitN ?_ ?_); · rfl)
    | with_reducible apply Rnd.ret
    | with_reducible apply Rnd.exit
    | with_reducible apply RndI.ret
    | with_reducible apply RndI.exit
    | with_reducible apply ThnI.ret
    | with_reducible apply ThnI.exit
    | with_reducible apply T.skip
    | with_reducible apply T.block
    | with_reducible apply T.ret
    | with_reducible apply T.exit
    | refine T.condT (h := ?_)
    | refine T.condF (h := ?_)
    | refine TL.pass (k := ?_)
    | refine TL.passN (k := ?_)
    | refine TL.take (k := ?_)
    | refine TL.q (h := .assign) (k := ?_)
    | refine TL.q (h := .move) (k := ?_)
    | refine TL.q (h := .lenR) (k := ?_)
    | refine TL.q (h := .lenS) (k := ?_)
    | refine TL.q (h := .indexR) (k := ?_)
    | refine TL.q (h := .load) (k := ?_)
    | refine TL.q (h := .loadEp) (k := ?_)
    | refine TL.q (h := .mul) (k := ?_)
    | refine TL.q (h := .convI) (k := ?_)
    | refine TL.q (h := .add) (k := ?_)
    | refine TL.q (h := .catS) (k := ?_)
    | refine TL.q (h := .binI) (k := ?_)
    | refine TL.q (h := .binS) (k := ?_))
  refine T.blkW (fun l A => l = [(3, .int .u32 (sumB bs))] ∧ A = [row m 5 1 x.v (bs.map byC), F]) ?_ ?_
  · refine T.loopI (fun q' l A => ∃ (i : Nat), q' = bs.length - i ∧ i ≤ bs.length ∧ l = [(8, .int .i64 (i : Int)), (7, .int .i64 ((bs.map byC).length : Int)), (6, x.v), (3, .int .u32 ((bs.take i).foldl stepS 17))] ∧ A = [row m 5 1 x.v (bs.map byC), F])
      ⟨0, rfl, by omega, rfl, rfl⟩ (by (repeat (first | exact AllIs.nil | refine AllIs.cons (by (simp only [St.ev, slk, Nat.reduceBEq, cond_true, cond_false]; first | done | rfl)) ?_))) (by (repeat (first | exact Picks.nil | (apply Picks.cons; (repeat (first | exact Pick.here | apply Pick.there)))))) ?_
    rintro q' l A j ⟨i, rfl, hi, rfl, rfl⟩
    repeat (first
      | with_reducible apply T.seq
      | with_reducible apply T.region
      | with_reducible apply TL.nil
      | with_reducible apply Thn.normal
      | with_reducible apply Thn.ret
      | with_reducible apply Thn.exit
      | with_reducible apply Blk.normal
      | with_reducible apply Blk.ret
      | ((with_reducible refine Blk.exitE ?_ ?_); · rfl)
      | ((with_reducible refine Blk.exitN ?_ ?_); · rfl)
      | with_reducible apply Rnd.ret
      | with_reducible apply Rnd.exit
      | with_reducible apply RndI.ret
      | with_reducible apply RndI.exit
      | with_reducible apply ThnI.ret
      | with_reducible apply ThnI.exit
      | with_reducible apply T.skip
      | with_reducible apply T.block
      | with_reducible apply T.ret
      | with_reducible apply T.exit
      | refine T.condT (h := ?_)
      | refine T.condF (h := ?_)
      | refine TL.pass (k := ?_)
      | refine TL.passN (k := ?_)
      | refine TL.take (k := ?_)
      | refine TL.q (h := .assign) (k := ?_)
      | refine TL.q (h := .move) (k := ?_)
      | refine TL.q (h := .lenR) (k := ?_)
      | refine TL.q (h := .lenS) (k := ?_)
      | refine TL.q (h := .indexR) (k := ?_)
      | refine TL.q (h := .load) (k := ?_)
      | refine TL.q (h := .loadEp) (k := ?_)
      | refine TL.q (h := .mul) (k := ?_)
      | refine TL.q (h := .convI) (k := ?_)
      | refine TL.q (h := .add) (k := ?_)
      | refine TL.q (h := .catS) (k := ?_)
      | refine TL.q (h := .binI) (k := ?_)
      | refine TL.q (h := .binS) (k := ?_))
    refine T.condD (ht := fun hlt => ?_) (hf := fun hlt => ?_)
    · have hlt' : i < bs.length := by omega
      obtain ⟨c, hc⟩ : ∃ c, bs[i]? = some c := ⟨_, List.getElem?_eq_getElem hlt'⟩
      have hcc : (bs.map byC)[i]? = some [.int .u8 c] := by simp [hc, byC]
      have ht : (bs.take (i + 1)).foldl stepS 17 = stepS ((bs.take i).foldl stepS 17) c := by rw [List.take_add_one, hc]; simp
      repeat (first
        | with_reducible apply T.seq
        | with_reducible apply T.region
        | with_reducible apply TL.nil
        | with_reducible apply Thn.normal
        | with_reducible apply Thn.ret
        | with_reducible apply Thn.exit
        | with_reducible apply Blk.normal
        | with_reducible apply Blk.ret
        | ((with_reducible refine Blk.exitE ?_ ?_); · rfl)
        | ((with_reducible refine Blk.exitN ?_ ?_); · rfl)
        | with_reducible apply Rnd.ret
        | with_reducible apply Rnd.exit
        | with_reducible apply RndI.ret
        | with_reducible apply RndI.exit
        | with_reducible apply ThnI.ret
        | with_reducible apply ThnI.exit
        | with_reducible apply T.skip
        | with_reducible apply T.block
        | with_reducible apply T.ret
        | with_reducible apply T.exit
        | refine T.condT (h := ?_)
        | refine T.condF (h := ?_)
        | refine TL.pass (k := ?_)
        | refine TL.passN (k := ?_)
        | refine TL.take (k := ?_)
        | refine TL.q (h := .assign) (k := ?_)
        | refine TL.q (h := .move) (k := ?_)
        | refine TL.q (h := .lenR) (k := ?_)
        | refine TL.q (h := .lenS) (k := ?_)
        | refine TL.q (h := .indexR) (k := ?_)
        | refine TL.q (h := .load) (k := ?_)
        | refine TL.q (h := .loadEp) (k := ?_)
        | refine TL.q (h := .mul) (k := ?_)
        | refine TL.q (h := .convI) (k := ?_)
        | refine TL.q (h := .add) (k := ?_)
        | refine TL.q (h := .catS) (k := ?_)
        | refine TL.q (h := .binI) (k := ?_)
        | refine TL.q (h := .binS) (k := ?_))
      refine RndI.next (m' := bs.length - (i + 1)) (by omega) ⟨i + 1, rfl, by omega, by rw [ht], rfl⟩ (by (repeat (first | exact AllIs.nil | refine AllIs.cons (by (simp only [St.ev, slk, Nat.reduceBEq, cond_true, cond_false]; first | done | rfl)) ?_))) (by (repeat (first | exact Picks.nil | (apply Picks.cons; (repeat (first | exact Pick.here | apply Pick.there))))))
    · have hi' : i = bs.length := by omega
      subst hi'
      repeat (first
        | with_reducible apply T.seq
        | with_reducible apply T.region
        | with_reducible apply TL.nil
        | with_reducible apply Thn.normal
        | with_reducible apply Thn.ret
        | with_reducible apply Thn.exit
        | with_reducible apply Blk.normal
        | with_reducible apply Blk.ret
        | ((with_reducible refine Blk.exitE ?_ ?_); · rfl)
        | ((with_reducible refine Blk.exitN ?_ ?_); · rfl)
        | with_reducible apply Rnd.ret
        | with_reducible apply Rnd.exit
        | with_reducible apply RndI.ret
        | with_reducible apply RndI.exit
        | with_reducible apply ThnI.ret
        | with_reducible apply ThnI.exit
        | with_reducible apply T.skip
        | with_reducible apply T.block
        | with_reducible apply T.ret
        | with_reducible apply T.exit
        | refine T.condT (h := ?_)
        | refine T.condF (h := ?_)
        | refine TL.pass (k := ?_)
        | refine TL.passN (k := ?_)
        | refine TL.take (k := ?_)
        | refine TL.q (h := .assign) (k := ?_)
        | refine TL.q (h := .move) (k := ?_)
        | refine TL.q (h := .lenR) (k := ?_)
        | refine TL.q (h := .lenS) (k := ?_)
        | refine TL.q (h := .indexR) (k := ?_)
        | refine TL.q (h := .load) (k := ?_)
        | refine TL.q (h := .loadEp) (k := ?_)
        | refine TL.q (h := .mul) (k := ?_)
        | refine TL.q (h := .convI) (k := ?_)
        | refine TL.q (h := .add) (k := ?_)
        | refine TL.q (h := .catS) (k := ?_)
        | refine TL.q (h := .binI) (k := ?_)
        | refine TL.q (h := .binS) (k := ?_))
      rw [List.take_length]
      refine ThnI.done ⟨rfl, rfl⟩ (by (repeat (first | exact AllIs.nil | refine AllIs.cons (by (simp only [St.ev, slk, Nat.reduceBEq, cond_true, cond_false]; first | done | rfl)) ?_))) (by (repeat (first | exact Picks.nil | (apply Picks.cons; (repeat (first | exact Pick.here | apply Pick.there))))))
  · rintro l A j ⟨rfl, rfl⟩
    repeat (first
      | with_reducible apply T.seq
      | with_reducible apply T.region
      | with_reducible apply TL.nil
      | with_reducible apply Thn.normal
      | with_reducible apply Thn.ret
      | with_reducible apply Thn.exit
      | with_reducible apply Blk.normal
      | with_reducible apply Blk.ret
      | ((with_reducible refine Blk.exitE ?_ ?_); · rfl)
      | ((with_reducible refine Blk.exitN ?_ ?_); · rfl)
      | with_reducible apply Rnd.ret
      | with_reducible apply Rnd.exit
      | with_reducible apply RndI.ret
      | with_reducible apply RndI.exit
      | with_reducible apply ThnI.ret
      | with_reducible apply ThnI.exit
      | with_reducible apply T.skip
      | with_reducible apply T.block
      | with_reducible apply T.ret
      | with_reducible apply T.exit
      | refine T.condT (h := ?_)
      | refine T.condF (h := ?_)
      | refine TL.pass (k := ?_)
      | refine TL.passN (k := ?_)
      | refine TL.take (k := ?_)
      | refine TL.q (h := .assign) (k := ?_)
      | refine TL.q (h := .move) (k := ?_)
      | refine TL.q (h := .lenR) (k := ?_)
      | refine TL.q (h := .lenS) (k := ?_)
      | refine TL.q (h := .indexR) (k := ?_)
      | refine TL.q (h := .load) (k := ?_)
      | refine TL.q (h := .loadEp) (k := ?_)
      | refine TL.q (h := .mul) (k := ?_)
      | refine TL.q (h := .convI) (k := ?_)
      | refine TL.q (h := .add) (k := ?_)
      | refine TL.q (h := .catS) (k := ?_)
      | refine TL.q (h := .binI) (k := ?_)
      | refine TL.q (h := .binS) (k := ?_))
    (first | refine RetQ.retI (L := [row m 5 1 x.v (bs.map byC)]) (ResIs.r1 Try.results93 (RV.tmp)) (by (repeat (first | exact Picks.nil | (apply Picks.cons; (repeat (first | exact Pick.here | apply Pick.there)))))) ?_ | refine RetQ.norI (L := [row m 5 1 x.v (bs.map byC)]) (ResIs.r1 Try.results93 (RV.tmp)) (by (repeat (first | exact Picks.nil | (apply Picks.cons; (repeat (first | exact Pick.here | apply Pick.there)))))) ?_)
    exact ⟨rfl, rfl⟩
end Go.Proofs.Ytpbomaelkpjbbaa

