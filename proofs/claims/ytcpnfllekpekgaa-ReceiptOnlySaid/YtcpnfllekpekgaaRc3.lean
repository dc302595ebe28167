/-
  Package receipt: Decode.
-/
import Derived.Test.YtcpnfllekpekgaaRc2
import Derived.Test.YtcpnfllekpekgaaRd4
namespace Go.Proofs.Ytcpnfllekpekgaa
open Go.RowKit

/-- the word that an item is -/
def wordOf : Ns.It 8 → Option Nat
  | .inl b => Wd.word b
  | .inr _ => none
def wordsOf : List (Ns.It 8) → Option (List Nat)
  | [] => some []
  | x :: xs => match wordOf x with
    | none => none
    | some n => match wordsOf xs with
      | none => none
      | some ns => some (n :: ns)
def Rc.of (ns : List Nat) : Rc := ⟨(min (ns.getD 0 0) 10 : Nat), ns.getD 1 0, ns.getD 2 0, ns.getD 3 0⟩
def Rc.read (x : Ns.It 9) : Option Rc := match x with
  | .inl _ => none
  | .inr xs => if xs.length = 4 then match wordsOf xs with
      | none => none
      | some ns => if (Rc.of ns).right = true then some (Rc.of ns) else none
    else none
def Rc.dec (l : List UInt8) : Option Rc := match Ns.dec l with
  | .error _ => none
  | .ok x => Rc.read x
def rcZ : Array Value := #[.int .i64 0, .int .u64 0, .int .u64 0, .int .u64 0]
def Rc.row (x : Rc) : Array Value := #[.int .i64 x.s, .int .u64 x.g, .int .u64 x.r, .int .u64 x.m]
def rcOut (x : Option Rc) : Value := match x with
  | some r => .tuple #[.agg r.row, .int .i64 0]
  | none => .tuple #[.agg rcZ, .int .i64 180]
theorem wordsOf_none {xs : List (Ns.It 8)} (i : Nat) (h : i < xs.length) (hn : wordOf xs[i] = none) : wordsOf xs = none := by
  induction xs generalizing i with
  | nil => simp at h
  | cons x xs ih =>
    cases i with
    | zero => simp only [List.getElem_cons_zero] at hn; simp [wordsOf, hn]
    | succ i =>
      simp only [List.getElem_cons_succ] at hn
      have := ih i (by simpa using h) hn
      simp only [wordsOf, this]
      cases wordOf x <;> rfl
theorem wordsOf_snoc {xs : List (Ns.It 8)} {x : Ns.It 8} {ns : List Nat} {n : Nat} (h : wordsOf xs = some ns) (hx : wordOf x = some n) : wordsOf (xs ++ [x]) = some (ns ++ [n]) := by
  induction xs generalizing ns with
  | nil => simp only [wordsOf, Option.some.injEq] at h; subst h; simp [wordsOf, hx]
  | cons y ys ih =>
    simp only [wordsOf] at h
    cases hy : wordOf y with
    | none => rw [hy] at h; cases h
    | some m =>
      rw [hy] at h
      cases hys : wordsOf ys with
      | none => rw [hys] at h; cases h
      | some ms =>
        rw [hys] at h
        simp only [Option.some.injEq] at h
        subst h
        simp [wordsOf, hy, ih hys]
/-- the array that the words go to -/
def padN (ns : List Nat) : Array Value := #[.int .u64 ((ns.getD 0 0 : Nat) : Int), .int .u64 ((ns.getD 1 0 : Nat) : Int), .int .u64 ((ns.getD 2 0 : Nat) : Int), .int .u64 ((ns.getD 3 0 : Nat) : Int)]
theorem padN_set (ns : List Nat) (m : Nat) (h : ns.length < 4) : (padN ns).setIfInBounds ns.length (.int .u64 (m : Int)) = padN (ns ++ [m]) := by
  match ns, h with
  | [], _ => rfl
  | [a], _ => rfl
  | [a, b], _ => rfl
  | [a, b, c], _ => rfl
/-- an item's row, and its bytes -/
def bytesOf : {d : Nat} → Ns.It d → List UInt8
  | 0, x => nomatch x
  | _ + 1, .inl b => b
  | _ + 1, .inr _ => []
def isList : {d : Nat} → Ns.It d → Bool
  | 0, x => nomatch x
  | _ + 1, .inl _ => false
  | _ + 1, .inr _ => true
theorem Sits.row {S : Nat → Prop} {w : World} : ∀ {d : Nat} {v : Value} {x : Ns.It d}, Sits S w d v x → ∃ A n c z, v = .agg #[.bool (isList x), .slice A n c, z] ∧ n = (bytesOf x).length ∧ n ≤ c ∧ c ≤ maxLen ∧ InS S w 1 A n (bv (bytesOf x)) ∧ z.oneCell' = true
  | 0, _, x, _ => nomatch x
  | _ + 1, _, .inl b, h => by
    obtain ⟨A, n, c, rfl, h1, h2, h3, h4⟩ := h
    exact ⟨A, n, c, _, rfl, h1, h2, h3, h4, rfl⟩
  | _ + 1, _, .inr xs, h => by
    obtain ⟨A, n, c, vs, rfl, h1, h2, h3, h4, h5⟩ := h
    exact ⟨none, 0, 0, _, rfl, rfl, Nat.le_refl _, by unfold maxLen; omega, ⟨rfl, fun h => by omega⟩, rfl⟩
theorem wordOf_eq (x : Ns.It 8) : wordOf x = if isList x = true then none else Wd.word (bytesOf x) := by cases x <;> rfl
/-- behind the first store: the result's row, the item's, what was there -/
structure DecI (w w1 : World) (row : Array Value) (w2 : World) : Prop where
  res : Blk w2 w.heap.size 24 rcZ
  it : Blk w2 w1.heap.size 38 row
  bel : Below w.heap.size w w2
  bel1 : Below w1.heap.size w1 w2
  size : w2.heap.size = w1.heap.size + 1
theorem dec_stored {w w1 : World} (row : Array Value) (hlt : w.heap.size < w1.heap.size) (hb : Blk w1 w.heap.size 24 rcZ) (hbe : Below w.heap.size w w1) : DecI w w1 row ((w1.alloc (.cells rowZ 38)).setRow w1.heap.size row) :=
  ⟨(first_keep w1 _ _ hlt).trans hb, (Blk.new w1 38 rowZ).row row, below_row (hbe.alloc (by omega) _) (by omega) _, below_row ((Below.refl _ _).alloc (Nat.le_refl _) _) (Nat.le_refl _) _, by simp⟩
/-- an item's row is stored anew -/
structure ReadI (wr : World) (row : Array Value) (w2 : World) : Prop where
  it : Blk w2 wr.heap.size 38 row
  bel : Below wr.heap.size wr w2
theorem read_stored {wr : World} (row : Array Value) : ReadI wr row ((wr.alloc (.cells rowZ 38)).setRow wr.heap.size row) :=
  ⟨(Blk.new wr 38 rowZ).row row, below_row ((Below.refl _ _).alloc (Nat.le_refl _) _) (Nat.le_refl _) _⟩
/-- a receipt's row is stored anew -/
structure RcI (w wr : World) (row : Array Value) (w2 : World) : Prop where
  res : Blk w2 w.heap.size 24 rcZ
  it : Blk w2 wr.heap.size 24 row
  bel : Below w.heap.size w w2
  lt : w.heap.size < wr.heap.size
theorem rc_stored {w wr : World} (row : Array Value) (hlt : w.heap.size < wr.heap.size) (hb : Blk wr w.heap.size 24 rcZ) (hbe : Below w.heap.size w wr) : RcI w wr row ((wr.alloc (.cells rcZ 24)).setRow wr.heap.size row) :=
  ⟨(hb.alloc _).row_far row (by omega), (Blk.new wr 24 rcZ).row row, below_row (hbe.alloc (by omega) _) (by omega) _, hlt⟩
set_option maxHeartbeats 2000000 in
set_option maxRecDepth 100000 in
theorem receipt_Decode (A : Option Addr) (n c : Nat) (l : List UInt8) (w : World) (h : Bytes w w.heap.size A n c l) :
    Calls Try.prog 13 #[.slice A n c] w fun e w' => e = .returned (rcOut (Rc.dec l)) ∧ Below w.heap.size w w' := by
  have hf := nest_Decode A n c l _ ((h.alloc (Nat.le_refl _) (.cells rcZ 24)).more (show w.heap.size ≤ (w.alloc (.cells rcZ 24)).heap.size by simp))
  have hb0 : Blk (w.alloc (.cells rcZ 24)) w.heap.size 24 rcZ := Blk.new w _ _
  have hbe : Below w.heap.size w (w.alloc (.cells rcZ 24)) := (Below.refl _ _).alloc (Nat.le_refl _) _
  have hlen := h.len
  subst hlen
  clear h
  go_enter Try.func13, Try.ntmps13
  go_wp2_with fail
  refine hf.mono ?_
  rintro e w1 ⟨hbel, hq⟩
  have hs := hbel.size
  have hs0 : (w.alloc (.cells rcZ 24)).heap.size = w.heap.size + 1 := by simp
  have hb1 := hb0.below hbel (by omega)
  have hbe1 := hbe.trans (hbel.mono (by omega))
  clear hb0 hbe hbel hf
  cases hx : Ns.dec l with
  | error k =>
    rw [hx] at hq
    obtain ⟨rfl, hk⟩ := hq
    have hd := Lib.hid (show Rc.dec l = none by unfold Rc.dec; rw [hx])
    clear hx
    have hR : Blk ((w1.alloc (.cells rowZ 38)).setRow w1.heap.size #[.bool false, .slice none 0 0, .slice none 0 0]) w.heap.size 24 rcZ := (first_keep w1 _ _ (by omega)).trans hb1
    replace hR := Lib.hid hR
    clear hb1
    rw [show itemZ = .agg #[.bool false, .slice none 0 0, .slice none 0 0] from rfl]
    go_wp2_with (first
      | (refine wpList_store_row rfl 38 _ _ rfl w1.heap.size #[.bool false, .slice none 0 0, .slice none 0 0] rfl rfl _ _ (Blk.new w1 38 rowZ) info_item3 rfl (by simp [Value.oneCell']) ?_)
      | (refine wpList_store_row rfl 24 _ _ rfl w.heap.size rcZ rfl rfl _ _ hR.out info_receipt rfl (by simp [rcZ, Value.oneCell']) ?_))
    refine bodyPost_ret (v := .tuple #[.agg rcZ, .int .i64 180]) (results_row_tmp rfl _ _ w.heap.size _ rcZ _ _ _ rfl rfl (hR.out.row _) Try.underlying24 rfl info_receipt) rfl ?_
    refine ⟨by rw [hd.out]; rfl, below_row (below_row (hbe1.alloc (by omega) _) (by omega) _) (Nat.le_refl _) _⟩
  | ok x =>
    rw [hx] at hq
    obtain ⟨v, rfl, hv⟩ := hq
    have hd := Lib.hid (show Rc.dec l = Rc.read x by unfold Rc.dec; rw [hx])
    clear hx
    match x, hv, hd with
    | .inl b, hv, hd =>
      obtain ⟨A1, n1, c1, rfl, hn1, hc1, hm1, hin1⟩ := hv
      have hI := dec_stored #[.bool false, .slice A1 n1 c1, .slice none 0 0] (by omega) hb1 hbe1
      replace hI := Lib.hid hI
      clear hb1 hn1 hin1 hc1 hm1 hbe1
      unfold txV
      go_wp2_with (first
        | (refine wpList_store_row rfl 38 _ _ rfl w1.heap.size #[.bool false, .slice A1 n1 c1, .slice none 0 0] rfl rfl _ _ (Blk.new w1 38 rowZ) info_item3 rfl (by simp [Value.oneCell']) ?_; refine list_at (DecI w w1 _) hI.out ?_; intro w2 hI2; have g0 : w2.cell? ⟨w1.heap.size, 0, none⟩ = some (.bool false) := hI2.it.cell 0; replace hI2 := Lib.hid hI2)
        | (refine wpList_store_row rfl 24 _ _ rfl w.heap.size rcZ rfl rfl _ _ hI2.out.res info_receipt rfl (by simp [rcZ, Value.oneCell']) ?_))
      refine bodyPost_ret (v := .tuple #[.agg rcZ, .int .i64 180]) (results_row_tmp rfl _ _ w.heap.size _ rcZ _ _ _ rfl rfl (hI2.out.res.row _) Try.underlying24 rfl info_receipt) rfl ?_
      exact ⟨by rw [hd.out]; rfl, below_row hI2.out.bel (Nat.le_refl _) _⟩
    | .inr xs, hv, hd =>
      obtain ⟨A1, n1, c1, vs, rfl, hn1, hc1, hm1, hin1, hall1⟩ := hv
      have hI := dec_stored #[.bool true, .slice none 0 0, .slice A1 n1 c1] (by omega) hb1 hbe1
      replace hI := Lib.hid hI
      clear hb1 hbe1
      unfold lsV
      by_cases h4 : n1 = 4
      · subst h4
        have hd2 := Lib.hid (show Rc.dec l = match wordsOf xs with
            | none => none
            | some ns => if (Rc.of ns).right = true then some (Rc.of ns) else none by rw [hd.out]; unfold Rc.read; simp only; rw [if_pos (by omega)])
        clear hd hv
        replace hin1 := Lib.hid hin1
        replace hall1 := Lib.hid hall1
        replace hn1 := Lib.hid hn1
        have hsw : w.heap.size < w1.heap.size := by omega
        clear hc1 hm1 hs
        go_wp2_with (refine wpList_store_row rfl 38 _ _ rfl w1.heap.size #[.bool true, .slice none 0 0, .slice A1 4 c1] rfl rfl _ _ (Blk.new w1 38 rowZ) info_item3 rfl (by simp [Value.oneCell']) ?_; refine list_at (DecI w w1 _) hI.out ?_; intro w2 hI2; have g0 : w2.cell? ⟨w1.heap.size, 0, none⟩ = some (.bool true) := hI2.it.cell 0; have g2 : w2.cell? ⟨w1.heap.size, 2, none⟩ = some (.slice A1 4 c1) := hI2.it.cell 2; have g2' : (w2.alloc (.cells #[.int .u64 0, .int .u64 0, .int .u64 0, .int .u64 0] 47)).cell? ⟨w1.heap.size, 2, none⟩ = some (.slice A1 4 c1) := (hI2.it.alloc _).cell 2; replace hI2 := Lib.hid hI2)
        have hN0 : Blk (w2.alloc (.cells #[.int .u64 0, .int .u64 0, .int .u64 0, .int .u64 0] 47)) w2.heap.size 47 (padN []) := Blk.new w2 _ _
        have hb0 := (Below.refl w2.heap.size w2).alloc (Nat.le_refl _) (.cells #[.int .u64 0, .int .u64 0, .int .u64 0, .int .u64 0] 47)
        replace hN0 := Lib.hid hN0
        replace hb0 := Lib.hid hb0
        clear g0 g2 g2'
        go_loopw [34] (fun i wr => ∃ (k : Nat) (ns : List Nat), k ≤ 4 ∧ i = .int .i64 k ∧ ns.length = k ∧ wordsOf (xs.take k) = some ns ∧ Blk wr w2.heap.size 47 (padN ns) ∧ Below w2.heap.size w2 wr) (fun i _ => 4 - (intOf i).toNat)
        case atStart => exact ⟨0, [], by omega, rfl, rfl, rfl, hN0.out, hb0.out⟩
        case round =>
          clear hN0 hb0
          obtain ⟨k, ns, hk, rfl, hnl, hws, hN, hbw⟩ := hrel
          have hbs := hbw.size
          have hsz2 : w1.heap.size < w2.heap.size := by rw [hI2.out.size]; omega
          have hNl := hN.lt
          by_cases hlt : k < 4
          · have hmv : ∀ q, (w.alloc (.cells rcZ 24)).heap.size ≤ q → q < w1.heap.size → (q < w1.heap.size) ∧ wr.heap[q]? = w1.heap[q]? := fun q _ h2 => ⟨h2, (hbw.block q (by omega)).trans (hI2.out.bel1.block q h2)⟩
            have hkx : k < xs.length := by have := hn1.out; omega
            obtain ⟨g, o, a, b, cc, rfl, hSg, hg, hrg, hone, hsit⟩ := items_at (hin1.out.move hmv (by omega)) (hall1.out.imp fun v x hx => hx.move _ _ _ hmv (by omega)) hn1.out k hkx
            have hrg2 : wr.rangeAt g (o + k * 3) [a, b, cc] := by rw [Nat.mul_comm k 3]; exact hrg
            obtain ⟨A5, n5, c5, z5, hrow, hn5, hc5, hm5, hin5, hz5⟩ := hsit.row
            simp only [Value.agg.injEq, Array.mk.injEq, List.cons.injEq, and_true] at hrow
            obtain ⟨rfl, rfl, rfl⟩ := hrow
            have htk : xs.take (k + 1) = xs.take k ++ [xs[k]] := List.take_succ_eq_append_getElem hkx
            have hgood : ∀ m, wordOf xs[k] = some m → wordsOf (xs.take (k + 1)) = some (ns ++ [m]) := fun m hm => by rw [htk]; exact wordsOf_snoc hws hm
            have hbadw : wordOf xs[k] = none → rcOut (Rc.dec l) = rcOut none := fun hm => by rw [hd2.out, wordsOf_none k hkx hm]
            have hwo := wordOf_eq xs[k]
            generalize isList xs[k] = L at *
            generalize bytesOf xs[k] = bs at *
            generalize wordOf xs[k] = W at *
            have hlt' : (k : Int) < 4 := by omega
            have hk63 : ¬ (k : Int) < 0 := by omega
            have hst := read_stored (wr := wr) #[.bool L, .slice A5 n5 c5, cc]
            have hby : Bytes wr wr.heap.size A5 n5 c5 bs := ⟨hn5, hc5, hm5, hin5.reads fun q _ h2 => h2⟩
            clear hmv hrg hsit hn5 hc5 hm5 hin5 htk
            replace hst := Lib.hid hst
            replace hby := Lib.hid hby
            replace hgood := Lib.hid hgood
            replace hbadw := Lib.hid hbadw
            replace hwo := Lib.hid hwo
            replace hN := Lib.hid hN
            replace hbw := Lib.hid hbw
            replace hws := Lib.hid hws
            replace hnl := Lib.hid hnl
            go_wp2_with (first
              | (refine wpList_load_mid rfl 38 _ rfl g (o + k * 3) rfl [.bool L, .slice A5 n5 c5, cc] _ hrg2 Try.underlying38 rfl info_item3 ?_)
              | (refine wpList_store_row rfl 38 _ _ rfl wr.heap.size #[.bool L, .slice A5 n5 c5, cc] rfl rfl _ _ (Blk.new wr 38 rowZ) info_item3 rfl (by simpa using hone) ?_; refine list_at (ReadI wr _) hst.out ?_; intro w4 hI4; have e0 : w4.cell? ⟨wr.heap.size, 0, none⟩ = some (.bool L) := hI4.it.cell 0; have e1 : w4.cell? ⟨wr.heap.size, 1, none⟩ = some (.slice A5 n5 c5) := hI4.it.cell 1; replace hI4 := Lib.hid hI4)
              | fail)
            refine (words_Read A5 n5 c5 _ bs w4 (hby.out.below hI4.out.bel)).mono ?_
            rintro e w5 ⟨rfl, rfl⟩
            have hR4 : Blk w4 w.heap.size 24 rcZ := (hI2.out.res.below hbw.out (by omega)).below hI4.out.bel (by omega)
            have hbe4 : Below w.heap.size w w4 := (hI2.out.bel.trans (hbw.out.mono (by omega))).trans (hI4.out.bel.mono (by omega))
            replace hR4 := Lib.hid hR4
            replace hbe4 := Lib.hid hbe4
            cases hw : Wd.word bs with
            | none =>
              have hbad := Lib.hid (hbadw.out (by rw [hwo.out, hw]; cases L <;> rfl))
              clear hw hgood hbadw hwo
              unfold wordV
              cases L with
              | false =>
                (go_wp2_with (refine wpList_store_row rfl 24 _ _ rfl w.heap.size rcZ rfl rfl _ _ hR4.out info_receipt rfl (by simp [rcZ, Value.oneCell']) ?_); refine bodyPost_ret (v := .tuple #[.agg rcZ, .int .i64 180]) (results_row_tmp rfl _ _ w.heap.size _ rcZ _ _ _ rfl rfl (hR4.out.row _) Try.underlying24 rfl info_receipt) rfl ?_; exact ⟨by rw [(hbad).out]; rfl, below_row hbe4.out (Nat.le_refl _) _⟩)
              | true =>
                (go_wp2_with (refine wpList_store_row rfl 24 _ _ rfl w.heap.size rcZ rfl rfl _ _ hR4.out info_receipt rfl (by simp [rcZ, Value.oneCell']) ?_); refine bodyPost_ret (v := .tuple #[.agg rcZ, .int .i64 180]) (results_row_tmp rfl _ _ w.heap.size _ rcZ _ _ _ rfl rfl (hR4.out.row _) Try.underlying24 rfl info_receipt) rfl ?_; exact ⟨by rw [(hbad).out]; rfl, below_row hbe4.out (Nat.le_refl _) _⟩)
            | some m =>
              unfold wordV
              cases L with
              | true =>
                have hbad := Lib.hid (hbadw.out (by rw [hwo.out]; rfl))
                clear hw hgood hbadw hwo
                (go_wp2_with (refine wpList_store_row rfl 24 _ _ rfl w.heap.size rcZ rfl rfl _ _ hR4.out info_receipt rfl (by simp [rcZ, Value.oneCell']) ?_); refine bodyPost_ret (v := .tuple #[.agg rcZ, .int .i64 180]) (results_row_tmp rfl _ _ w.heap.size _ rcZ _ _ _ rfl rfl (hR4.out.row _) Try.underlying24 rfl info_receipt) rfl ?_; exact ⟨by rw [(hbad).out]; rfl, below_row hbe4.out (Nat.le_refl _) _⟩)
              | false =>
                have hgd := hgood.out m (by rw [hwo.out, hw]; rfl)
                clear hw hgood hbadw hwo
                have hN4 := hN.out.below hI4.out.bel (by omega)
                have hset := (hN4.set_ k (.int .u64 (m : Int))).eq (show _ = padN (ns ++ [m]) by rw [← padN_set ns m (by rw [hnl.out]; omega), hnl.out])
                have hbw5 : Below w2.heap.size w2 (w4.setCell ⟨w2.heap.size, k, none⟩ (.int .u64 (m : Int))) := Below.setCell (hbw.out.trans (hI4.out.bel.mono hbs)) (Nat.le_refl _) _
                obtain ⟨u0, hu0⟩ : ∃ u0, w4.cell? ⟨w2.heap.size, k, none⟩ = some u0 := by
                  rw [hN4.cell k]
                  exact ⟨_, Array.getElem?_eq_getElem (show k < (padN ns).size from hlt)⟩
                have hfz := hN4.frozen k
                replace hgd := Lib.hid hgd
                replace hset := Lib.hid hset
                replace hbw5 := Lib.hid hbw5
                clear hN4
                go_wp2_with fail
                refine ⟨⟨k + 1, ns ++ [m], by omega, by go_num, by rw [List.length_append, hnl.out]; rfl, hgd.out, hset.out, hbw5.out⟩, ?_⟩
                simp [intOf]; omega
          · obtain rfl : k = 4 := by omega
            have htk : xs.take 4 = xs := List.take_of_length_le (by have := hn1.out; omega)
            rw [htk] at hws
            obtain ⟨p, q, r, s, rfl⟩ : ∃ p q r s, ns = [p, q, r, s] := by
              match ns, hnl with
              | [p, q, r, s], _ => exact ⟨p, q, r, s, rfl⟩
            have hd3 : Rc.dec l = if (Rc.of [p, q, r, s]).right = true then some (Rc.of [p, q, r, s]) else none := by rw [hd2.out, hws]
            have hof : Rc.of [p, q, r, s] = ⟨(min p 10 : Nat), q, r, s⟩ := rfl
            rw [hof] at hd3
            have hmn : min (p : Int) 10 = ((min p 10 : Nat) : Int) := by omega
            have hmw : IntKind.i64.wrap ((min p 10 : Nat) : Int) = ((min p 10 : Nat) : Int) := by rw [IntKind.wrap_i64]; omega
            have n0 : wr.cell? ⟨w2.heap.size, 0, none⟩ = some (.int .u64 p) := hN.cell 0
            have n1 : wr.cell? ⟨w2.heap.size, 1, none⟩ = some (.int .u64 q) := hN.cell 1
            have n2 : wr.cell? ⟨w2.heap.size, 2, none⟩ = some (.int .u64 r) := hN.cell 2
            have n3 : wr.cell? ⟨w2.heap.size, 3, none⟩ = some (.int .u64 s) := hN.cell 3
            have hR := hI2.out.res.below hbw (by omega)
            have hbe4 : Below w.heap.size w wr := hI2.out.bel.trans (hbw.mono (by omega))
            obtain ⟨M, hM⟩ : ∃ M, M = min p 10 := ⟨_, rfl⟩
            rw [← hM] at hd3 hmn hmw
            have hst := rc_stored (wr := wr) (Rc.mk M q r s).row (show w.heap.size < wr.heap.size by omega) hR hbe4
            have hrg := receipt_Right ⟨M, q, r, s⟩
            replace hM := Lib.hid hM
            replace hst := Lib.hid hst
            replace hd3 := Lib.hid hd3
            clear hd2 hws hN hbw hR hbe4 htk hof hall1 hin1 hn1 hI hI2 hnl
            unfold Rc.val at hrg
            unfold Rc.row at hst
            go_wp2_with (first | (refine wpList_store_row rfl 24 _ _ rfl wr.heap.size #[.int .i64 M, .int .u64 q, .int .u64 r, .int .u64 s] rfl rfl _ _ (Blk.new wr 24 rcZ) info_receipt rfl (by simp [Value.oneCell']) ?_; refine list_at (RcI w wr _) hst.out ?_; intro w4 hI4; replace hI4 := Lib.hid hI4) | (refine wpList_load_row rfl 24 _ rfl wr.heap.size rfl _ _ _ _ hI4.out.it Try.underlying24 rfl info_receipt ?_))
            refine (hrg w4).mono ?_
            rintro e w5 ⟨rfl, hbe5⟩
            have hl4 : wr.heap.size < w4.heap.size := hI4.out.it.lt
            have hR5 := hI4.out.res.below hbe5 (by omega)
            have hX5 := hI4.out.it.below hbe5 hl4
            have hbw5 := hI4.out.bel.trans (hbe5.mono (by omega))
            replace hbw5 := Lib.hid hbw5
            clear hrg hbe5 n0 n1 n2 n3 hst
            cases hrt : (Rc.mk M q r s).right with
            | false =>
              rw [hrt] at hd3
              go_wp2_with (refine wpList_store_row rfl 24 _ _ rfl w.heap.size rcZ rfl rfl _ _ hR5 info_receipt rfl (by simp [rcZ, Value.oneCell']) ?_)
              refine bodyPost_ret (v := .tuple #[.agg rcZ, .int .i64 180]) (results_row_tmp rfl _ _ w.heap.size _ rcZ _ _ _ rfl rfl (hR5.row _) Try.underlying24 rfl info_receipt) rfl ?_
              exact ⟨by rw [hd3.out]; rfl, below_row hbw5.out (Nat.le_refl _) _⟩
            | true =>
              rw [hrt] at hd3
              go_wp2_with (first
                | (refine wpList_load_row rfl 24 _ rfl wr.heap.size rfl _ _ _ _ hX5 Try.underlying24 rfl info_receipt ?_)
                | (refine wpList_store_row rfl 24 _ _ rfl w.heap.size #[.int .i64 M, .int .u64 q, .int .u64 r, .int .u64 s] rfl rfl _ _ hR5 info_receipt rfl (by simp [Value.oneCell']) ?_))
              refine bodyPost_ret (v := .tuple #[.agg #[.int .i64 M, .int .u64 q, .int .u64 r, .int .u64 s], .int .i64 0]) (results_row_tmp rfl _ _ w.heap.size _ #[.int .i64 M, .int .u64 q, .int .u64 r, .int .u64 s] _ _ _ rfl rfl (hR5.row _) Try.underlying24 rfl info_receipt) rfl ?_
              exact ⟨by rw [hd3.out]; rfl, below_row hbw5.out (Nat.le_refl _) _⟩
      · have h4' : ¬ (n1 : Int) = 4 := by omega
        have hd2 := Lib.hid (show Rc.dec l = none by rw [hd.out]; unfold Rc.read; simp only; rw [if_neg (by omega)])
        clear hd hn1 hc1 hm1 hin1 hall1
        go_wp2_with (first
          | (refine wpList_store_row rfl 38 _ _ rfl w1.heap.size #[.bool true, .slice none 0 0, .slice A1 n1 c1] rfl rfl _ _ (Blk.new w1 38 rowZ) info_item3 rfl (by simp [Value.oneCell']) ?_; refine list_at (DecI w w1 _) hI.out ?_; intro w2 hI2; have g0 : w2.cell? ⟨w1.heap.size, 0, none⟩ = some (.bool true) := hI2.it.cell 0; have g2 : w2.cell? ⟨w1.heap.size, 2, none⟩ = some (.slice A1 n1 c1) := hI2.it.cell 2; replace hI2 := Lib.hid hI2)
          | (refine wpList_store_row rfl 24 _ _ rfl w.heap.size rcZ rfl rfl _ _ hI2.out.res info_receipt rfl (by simp [rcZ, Value.oneCell']) ?_))
        refine bodyPost_ret (v := .tuple #[.agg rcZ, .int .i64 180]) (results_row_tmp rfl _ _ w.heap.size _ rcZ _ _ _ rfl rfl (hI2.out.res.row _) Try.underlying24 rfl info_receipt) rfl ?_
        exact ⟨by rw [hd2.out]; rfl, below_row hI2.out.bel (Nat.le_refl _) _⟩
end Go.Proofs.Ytcpnfllekpekgaa
