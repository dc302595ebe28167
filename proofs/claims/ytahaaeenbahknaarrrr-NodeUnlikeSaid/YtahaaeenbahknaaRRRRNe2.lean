/-
  Package nest, what writes: body, whole.
-/
import Derived.Test.YtahaaeenbahknaaRRRRNe1
namespace Go.Proofs.YtahaaeenbahknaaRRRR
open Go.RowKit

theorem flat_at : ∀ (vs : List Value) (i : Nat) (v : Value), (∀ u ∈ vs, u.cells.toList.length = 3) → vs[i]? = some v → ∀ j u, j < 3 → v.cells.toList[j]? = some u → (flat vs)[3 * i + j]? = some u
  | [], i, v, _, h, _, _, _, _ => by simp at h
  | x :: vs, 0, v, h3, h, j, u, hj, hu => by
    simp at h; subst h
    have hx := h3 x (by simp)
    show (x.cells.toList ++ flat vs)[3 * 0 + j]? = some u
    rw [Nat.mul_zero, Nat.zero_add, List.getElem?_append_left (by omega)]
    exact hu
  | x :: vs, i + 1, v, h3, h, j, u, hj, hu => by
    have hx := h3 x (by simp)
    show (x.cells.toList ++ flat vs)[3 * (i + 1) + j]? = some u
    rw [List.getElem?_append_right (by omega), hx, show 3 * (i + 1) + j - 3 = 3 * i + j by omega]
    exact flat_at vs i v (fun u hu => h3 u (by simp [hu])) (by simpa using h) j u hj hu
/-- the i-th item of a list -/
theorem items_at {S : Nat → Prop} {w : World} {d n : Nat} {A : Option Addr} {vs : List Value} {xs : List (Ns.It d)} (hin : InS S w 3 A n (flat vs)) (hall : All2 (Sits S w d) vs xs) (hn : n = xs.length) (i : Nat) (hi : i < xs.length) :
    ∃ g o a b c, A = some ⟨g, o, none⟩ ∧ S g ∧ g < w.heap.size ∧ w.rangeAt g (o + 3 * i) [a, b, c] ∧ (∀ u ∈ [a, b, c], u.oneCell' = true) ∧ Sits S w d (.agg #[a, b, c]) xs[i] := by
  obtain ⟨g, o, e, h1, h2, hc⟩ := hin.2 (by omega)
  obtain ⟨v, hv, hs⟩ := hall.2 i xs[i] (List.getElem?_eq_getElem hi)
  obtain ⟨a, b, c, rfl, hcells, hone⟩ := hs.cells
  refine ⟨g, o, a, b, c, e, h1, h2, fun j u hu => ?_, hone, hs⟩
  have hj : j < 3 := by
    have := (List.getElem?_eq_some_iff.1 hu).1
    simpa using this
  have h3 : ∀ u ∈ vs, u.cells.toList.length = 3 := by
    intro u hu
    obtain ⟨k, hk, rfl⟩ := List.mem_iff_getElem.1 hu
    obtain ⟨v, hv, hs⟩ := hall.2 k (xs[k]'(by rw [← hall.1]; exact hk)) (List.getElem?_eq_getElem _)
    rw [List.getElem?_eq_getElem hk] at hv
    cases hv
    obtain ⟨a, b, c, _, hcells, _⟩ := hs.cells
    rw [hcells]; rfl
  rw [Nat.add_assoc]
  exact hc _ u (flat_at vs i _ h3 hv j u hj (by rw [hcells]; exact hu))
/-- the contract of whole on items of one depth -/
def WholeC (d : Nat) : Prop := ∀ (S : Nat → Prop) (v : Value) (x : Ns.It d) (w : World), Sits S w d v x → (Ns.enc d x).length < 4611686018427387904 →
  Calls Try.prog 40 #[v] w fun e w' => e = .returned (.int .i64 ((Ns.enc d x).length : Nat)) ∧ Below w.heap.size w w'
set_option maxHeartbeats 1000000 in
set_option maxRecDepth 100000 in
theorem body_list (d : Nat) (hw : WholeC d) (S : Nat → Prop) (A : Option Addr) (n c : Nat) (vs : List Value) (xs : List (Ns.It d)) (w : World) (hn : n = xs.length) (hc : n ≤ c) (hm : c ≤ maxLen)
    (hin : InS S w 3 A n (flat vs)) (hall : All2 (Sits S w d) vs xs) (hl : (xs.flatMap (Ns.enc d)).length < 4611686018427387904) :
    Calls Try.prog 31 #[lsV A n c] w fun e w' => e = .returned (.int .i64 ((xs.flatMap (Ns.enc d)).length : Nat)) ∧ Below w.heap.size w w' := by
  have hn63 : (n : Int) ≤ 9223372036854775807 := by unfold maxLen at hm; omega
  subst hn
  clear hc hm
  replace hin := Lib.hid hin
  replace hall := Lib.hid hall
  have hle : ∀ k, ((xs.take k).flatMap (Ns.enc d)).length ≤ (xs.flatMap (Ns.enc d)).length := by
    intro k
    have h1 := congrArg (fun l => (List.flatMap (Ns.enc d) l).length) (List.take_append_drop k xs)
    simp only [List.flatMap_append, List.length_append] at h1
    omega
  have hstep : ∀ k (hk : k < xs.length), ((xs.take (k + 1)).flatMap (Ns.enc d)).length = ((xs.take k).flatMap (Ns.enc d)).length + (Ns.enc d xs[k]).length := by
    intro k hk
    rw [List.take_succ_eq_append_getElem hk, List.flatMap_append, List.length_append]
    simp
  unfold lsV
  go_enter Try.func31, Try.ntmps31
  go_wp2
  go_loopw [3, 12] (fun s i wr => ∃ k : Nat, k ≤ xs.length ∧ i = .int .i64 k ∧ s = .int .i64 (((xs.take k).flatMap (Ns.enc d)).length : Nat) ∧ Below w.heap.size w wr) (fun _ i _ => xs.length - (intOf i).toNat)
  case atStart => exact ⟨0, Nat.zero_le _, rfl, rfl, (Below.refl _ _).alloc (Nat.le_refl _) _⟩
  case round =>
    obtain ⟨k, hk, rfl, rfl, hbe⟩ := hrel
    by_cases hlt : k < xs.length
    · obtain ⟨g, o, a, b, cc, rfl, hS, hg, hrg, hone, hsit⟩ := items_at hin.out hall.out rfl k hlt
      have hrg2 : wr.rangeAt g (o + k * 3) [a, b, cc] := fun j u hu => by
        rw [Nat.mul_comm k 3]
        exact (hbe.cell (p := ⟨g, _, none⟩) hg).trans (hrg j u hu)
      have hs1 := hle (k + 1)
      rw [hstep k hlt] at hs1
      have hst := hstep k hlt
      generalize ((xs.take k).flatMap (Ns.enc d)).length = s at *
      have hbs := hbe.size
      have hsit2 : Sits S ((wr.alloc (.cells rowZ 46)).setRow wr.heap.size #[a, b, cc]) d (.agg #[a, b, cc]) xs[k] :=
        hsit.move _ _ _ (fun q h1 h2 => ⟨h1, (setRow_other _ _ q _ (by omega)).trans ((Below.heap_alloc wr _ q (by omega)).trans (hbe.block q h2))⟩) (by simp; omega)
      have hcall := hw S _ xs[k] _ hsit2 (by omega)
      have hbe2 : Below w.heap.size w ((wr.alloc (.cells rowZ 46)).setRow wr.heap.size #[a, b, cc]) := below_row (hbe.alloc hbs _) hbs _
      have hwr1 : IntKind.i64.wrap ((s : Int) + ((Ns.enc d xs[k]).length : Nat)) = ((s + (Ns.enc d xs[k]).length : Nat) : Int) := by rw [IntKind.wrap_i64]; omega
      have hbs2 := hbe2.size
      clear hsit hsit2 hrg hle hstep
      replace hbe := Lib.hid hbe
      replace hst := Lib.hid hst
      replace hbe2 := Lib.hid hbe2
      go_wp2_with (first
        | (refine wpList_load_mid rfl 46 _ rfl g (o + k * 3) rfl [a, b, cc] _ hrg2 Try.underlying46 rfl info_item3 ?_)
        | (refine wpList_store_row rfl 46 _ _ rfl wr.heap.size #[a, b, cc] rfl rfl _ _ (Blk.new wr 46 rowZ) info_item3 rfl (by simpa using hone) ?_)
        | (refine wpList_load_row rfl 46 _ rfl wr.heap.size rfl _ _ _ _ ((Blk.new wr 46 rowZ).row #[a, b, cc]) Try.underlying46 rfl info_item3 ?_)
        | fail)
      refine hcall.mono ?_
      rintro e w2 ⟨rfl, hbel⟩
      have hbe3 := Lib.hid (hbe2.out.trans (hbel.mono hbs2))
      clear hcall hbel hbe2
      go_wp2_with fail
      refine ⟨⟨k + 1, by omega, by go_num, ?_, hbe3.out⟩, ?_⟩
      · rw [hst.out, Int.natCast_add]
      · simp [intOf]; omega
    · obtain rfl : k = xs.length := by omega
      rw [List.take_length]
      replace hbe := Lib.hid hbe
      clear hle hstep
      go_wp2
      go_ret
      exact ⟨rfl, hbe.out⟩
set_option maxHeartbeats 1000000 in
theorem body_text (A : Option Addr) (n c : Nat) (w : World) (hn : n ≤ maxLen) : Calls Try.prog 31 #[txV A n c] w fun e w' => e = .returned (.int .i64 n) ∧ Below w.heap.size w w' := by
  unfold txV
  go_enter Try.func31, Try.ntmps31
  go_wp2
  refine wp_loop_rounds 1 ?_
  rw [rounds_succ]; go_wp2
  go_ret
  exact ⟨rfl, (Below.refl _ _).alloc (Nat.le_refl _) _⟩
set_option maxHeartbeats 1000000 in
set_option maxRecDepth 100000 in
theorem whole_core (a b c : Value) (w : World) (pl : Bool) (L R : Nat) (hone : ∀ u ∈ [a, b, c], u.oneCell' = true)
    (hplain : ∀ w', Below w.heap.size w w' → Calls Try.prog 41 #[.agg #[a, b, c]] w' fun e w'' => e = .returned (.bool pl) ∧ Below w'.heap.size w' w'')
    (hbody : ∀ w', Below w.heap.size w w' → Calls Try.prog 31 #[.agg #[a, b, c]] w' fun e w'' => e = .returned (.int .i64 L) ∧ Below w'.heap.size w' w'')
    (hL : L < 4611686018427387904) (hR : R = if pl = true then 1 else if L ≤ 55 then L + 1 else L + 1 + (Wd.be 8 L).length) :
    Calls Try.prog 40 #[.agg #[a, b, c]] w fun e w' => e = .returned (.int .i64 R) ∧ Below w.heap.size w w' := by
  have hb0 : Blk (w.alloc (.cells #[a, b, c] 46)) w.heap.size 46 #[a, b, c] := Blk.new w _ _
  have hbe0 : Below w.heap.size w (w.alloc (.cells #[a, b, c] 46)) := (Below.refl _ _).alloc (Nat.le_refl _) _
  have hp := hplain _ hbe0
  go_enter Try.func40, Try.ntmps40
  go_wp2_with (refine wpList_load_row rfl 46 _ rfl w.heap.size rfl _ _ _ _ hb0 Try.underlying46 rfl info_item3 ?_)
  refine hp.mono ?_
  rintro e w1 ⟨rfl, hb1⟩
  have hs0 : (w.alloc (.cells #[a, b, c] 46)).heap.size = w.heap.size + 1 := by simp
  have hk1 := hb0.below hb1 (by omega)
  have hbe1 := hbe0.trans (hb1.mono (by omega))
  have hs1 := hb1.size
  have hbd := hbody w1 hbe1
  clear hp hplain hbody hb0 hb1 hbe0
  replace hbe1 := Lib.hid hbe1
  replace hR := Lib.hid hR
  cases pl with
  | true =>
    have hR1 : R = 1 := by rw [hR.out]; rfl
    subst hR1
    go_wp2_with fail
    go_ret
    exact ⟨rfl, hbe1.out⟩
  | false =>
    go_wp2_with (refine wpList_load_row rfl 46 _ rfl w.heap.size rfl _ _ _ _ hk1 Try.underlying46 rfl info_item3 ?_)
    refine hbd.mono ?_
    rintro e w2 ⟨rfl, hb2⟩
    have hbe2 := Lib.hid (hbe1.out.trans (hb2.mono (by omega)))
    clear hbd hb2 hk1
    by_cases h55 : L ≤ 55
    · have h55' : (L : Int) ≤ 55 := by omega
      have hR1 : R = L + 1 := by rw [hR.out, if_neg (by decide), if_pos h55]
      subst hR1
      have hw : IntKind.i64.wrap ((L : Int) + 1) = ((L + 1 : Nat) : Int) := by rw [IntKind.wrap_i64]; omega
      go_wp2_with fail
      go_ret
      exact ⟨rfl, hbe2.out⟩
    · have h55' : ¬ (L : Int) ≤ 55 := by omega
      have hR1 : R = L + 1 + (Wd.be 8 L).length := by rw [hR.out, if_neg (by decide), if_neg h55]
      have hb8 := Wd.be_length 8 L
      have hnum := nest_number L w2 hL
      generalize (Wd.be 8 L).length = m at hR1 hb8 hnum
      subst hR1
      have hw : IntKind.i64.wrap ((L : Int) + 1) = ((L + 1 : Nat) : Int) := by rw [IntKind.wrap_i64]; omega
      have hw2 : IntKind.i64.wrap (((L + 1 : Nat) : Int) + (m : Int)) = ((L + 1 + m : Nat) : Int) := by rw [IntKind.wrap_i64]; omega
      go_wp2_with fail
      refine hnum.mono ?_
      rintro e w3 ⟨rfl, rfl⟩
      go_wp2_with fail
      go_ret
      exact ⟨rfl, hbe2.out⟩
theorem Ns.head_len (base n : Nat) : (Ns.head base n).length = if n ≤ 55 then 1 else 1 + (Wd.be 8 n).length := by
  unfold Ns.head
  split
  · rfl
  · rw [List.length_cons]; omega
theorem Ns.encT_len (b : List UInt8) : (Ns.encT b).length = if decide (b.length = 1 ∧ Ns.encT.rd1 b < 128) = true then 1 else if b.length ≤ 55 then b.length + 1 else b.length + 1 + (Wd.be 8 b.length).length := by
  by_cases h : b.length = 1 ∧ Ns.encT.rd1 b < 128
  · rw [if_pos (decide_eq_true h)]
    unfold Ns.encT
    rw [if_pos h]
    exact h.1
  · rw [if_neg (by simpa using h)]
    unfold Ns.encT
    rw [if_neg h, List.length_append, Ns.head_len]
    split <;> omega
theorem whole_all : ∀ (d : Nat), WholeC d
  | 0 => fun S v x => nomatch x
  | d + 1 => by
    intro S v x w hsit hl
    match x, hsit, hl with
    | .inl b, hsit, hl =>
      obtain ⟨A, n, c, rfl, hn, hc, hm, hin⟩ := hsit
      subst hn
      have hbl : b.length ≤ (Ns.encT b).length := by
        unfold Ns.encT
        split
        · exact Nat.le_refl _
        · rw [List.length_append]; omega
      have hbl2 : b.length < 4611686018427387904 := Nat.lt_of_le_of_lt hbl hl
      have hB : Bytes w w.heap.size A b.length c b := ⟨rfl, hc, hm, hin.reads fun g _ h => h⟩
      refine whole_core _ _ _ w (decide (b.length = 1 ∧ Ns.encT.rd1 b < 128)) b.length _ (by simp [Value.oneCell']) (fun w' hb => plain_text A _ c _ b w' (hB.below hb)) (fun w' hb => body_text A _ c w' (by omega)) hbl2 (Ns.encT_len b)
    | .inr xs, hsit, hl =>
      obtain ⟨A, n, c, vs, rfl, hn, hc, hm, hin, hall⟩ := hsit
      have hle : (Ns.enc (d + 1) (.inr xs)).length = if false = true then 1 else if (xs.flatMap (Ns.enc d)).length ≤ 55 then (xs.flatMap (Ns.enc d)).length + 1 else (xs.flatMap (Ns.enc d)).length + 1 + (Wd.be 8 (xs.flatMap (Ns.enc d)).length).length := by
        show (Ns.head 192 (xs.flatMap (Ns.enc d)).length ++ xs.flatMap (Ns.enc d)).length = _
        rw [List.length_append, Ns.head_len, if_neg (show ¬ (false = true) by decide)]
        split <;> omega
      have hlt : (xs.flatMap (Ns.enc d)).length < 4611686018427387904 := by
        have : (Ns.enc (d + 1) (.inr xs)).length = (Ns.head 192 (xs.flatMap (Ns.enc d)).length).length + (xs.flatMap (Ns.enc d)).length := by
          show (Ns.head 192 (xs.flatMap (Ns.enc d)).length ++ xs.flatMap (Ns.enc d)).length = _
          rw [List.length_append]
        omega
      exact whole_core _ _ _ w false _ _ (by simp [Value.oneCell']) (fun w' hb => plain_list A n c w')
        (fun w' hb => body_list d (whole_all d) S A n c vs xs w' hn hc hm (hin.move (fun q h1 h2 => ⟨h1, hb.block q h2⟩) hb.size) (hall.imp fun v x hx => hx.move _ _ _ (fun q h1 h2 => ⟨h1, hb.block q h2⟩) hb.size) hlt) hlt hle
/-- body, of every item -/
theorem nest_body (d : Nat) (S : Nat → Prop) (v : Value) (x : Ns.It (d + 1)) (w : World) (hsit : Sits S w (d + 1) v x) (hl : (Ns.body (d + 1) x).length < 4611686018427387904) :
    Calls Try.prog 31 #[v] w fun e w' => e = .returned (.int .i64 ((Ns.body (d + 1) x).length : Nat)) ∧ Below w.heap.size w w' := by
  match x, hsit, hl with
  | .inl b, hsit, hl =>
    obtain ⟨A, n, c, rfl, hn, hc, hm, hin⟩ := hsit
    subst hn
    exact body_text A _ c w (by omega)
  | .inr xs, hsit, hl =>
    obtain ⟨A, n, c, vs, rfl, hn, hc, hm, hin, hall⟩ := hsit
    exact body_list d (whole_all d) S A n c vs xs w hn hc hm hin hall hl
end Go.Proofs.YtahaaeenbahknaaRRRR
