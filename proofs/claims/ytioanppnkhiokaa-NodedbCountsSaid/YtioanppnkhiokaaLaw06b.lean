import Derived.Test.YtioanppnkhiokaaLaw06a
import Derived.Lib.MinMax
namespace Go.Proofs.Ytioanppnkhiokaa
open Go.RowKit

/-- a store that has just one text, so often -/
def stN (d : List UInt8) (t : ByteArray) (n : Nat) : Assoc := if n = 0 then [] else [(d, held t n)]
def stV (t : ByteArray) (n : Nat) : Option (ByteArray × Int) := if n = 0 then none else some (t, n)
theorem stN_get (d : List UInt8) (t : ByteArray) (n : Nat) : (stN d t n).get d = (stV t n).map fun x => held x.1 x.2 := by
  unfold stN stV; split <;> simp [Assoc.get]
theorem stN_put (d : List UInt8) (t : ByteArray) (n : Nat) (h : n ≤ 4294967294) : putK (stN d t n) t (stV t n) 1 = 0 ∧ putM (stN d t n) d t (stV t n) 1 = stN d t (n + 1) ∧ putX (stN d t n) d t (stV t n) 1 = d := by
  have e : putK (stN d t n) t (stV t n) 1 = 0 := by
    unfold stN stV putK
    by_cases hn : n = 0
    · simp [hn]
    · simp [hn]; omega
  refine ⟨e, ?_, by simp [putX, e]⟩
  unfold putM
  rw [if_pos e]
  unfold stN stV
  by_cases hn : n = 0
  · simp [hn, Assoc.put, Assoc.get]
  · simp [hn, Assoc.put, Assoc.get]
theorem stN_drop (d : List UInt8) (t : ByteArray) (n : Nat) : dropM (stN d t n) d (stV t n) = stN d t (n - 1) ∧ dropG (stV t n) = decide (n = 1) ∧ dropK (stV t n) = (if n = 0 then 61 else 0) := by
  unfold stN stV dropM dropG dropK
  rcases n with _ | _ | n
  · simp
  · simp [Assoc.del]
  · simp [Assoc.put, Assoc.get]; omega
theorem stN_len (d : List UInt8) (t : ByteArray) (n : Nat) : (stN d t n).length = min n 1 := by
  unfold stN; split <;> simp <;> omega
theorem stV_small (t : ByteArray) (n : Nat) (ht : t.size ≤ 140737488355328) (hn : n ≤ 4294967295) : ∀ x, stV t n = some x → x.1.size ≤ 140737488355328 ∧ 0 ≤ x.2 ∧ x.2 ≤ 4294967295 := by
  intro x hx
  unfold stV at hx
  split at hx
  · cases hx
  · cases hx; exact ⟨ht, by omega, by omega⟩
theorem stV_pos (t : ByteArray) (n : Nat) (hn : n ≤ 4294967295) : ∀ x, stV t n = some x → 1 ≤ x.2 ∧ x.2 ≤ 4294967295 := by
  intro x hx
  unfold stV at hx
  split at hx
  · cases hx
  · cases hx; exact ⟨by omega, by omega⟩

/-- where the law stands -/
def CountI (w : World) (T b Dg : Nat) (d : List UInt8) (t : ByteArray) (n : Nat) (wr : World) : Prop := StoreIs wr T b 1 (stN d t n) ∧ Blk wr Dg 30 (row32 d) ∧ Below w.heap.size w wr ∧ w.heap.size ≤ b ∧ Dg ≠ b
theorem CountI.step {w : World} {T b Dg : Nat} {d : List UInt8} {t : ByteArray} {n : Nat} {w1 w2 : World} (h : CountI w T b Dg d t n w1) (hb : Below w1.heap.size w1 w2) : CountI w T b Dg d t n w2 :=
  ⟨h.1.step hb, h.2.1.below hb h.2.1.lt, h.2.2.1.trans (hb.mono h.2.2.1.size), h.2.2.2.1, h.2.2.2.2⟩
theorem CountI.next {w : World} {T b Dg : Nat} {d : List UInt8} {t : ByteArray} {n n' : Nat} {w1 w2 : World} (h : CountI w T b Dg d t n w1) (hs : StoreIs w2 T b 1 (stN d t n')) (hg : w1.grownBy w2 (some b)) : CountI w T b Dg d t n' w2 := by
  have hz := h.2.2.1.size
  have hb := h.2.2.2.1
  exact ⟨hs, h.2.1.grown hg h.2.2.2.2, h.2.2.1.trans ⟨hg.os, hg.tape, hg.output, hg.size, fun k hk => hg.block k (by omega) (by simp; omega)⟩, hb, h.2.2.2.2⟩
theorem run_neq_dig (a : List UInt8) (ha : a.length = 32) (w : World) : (binOp .neq 30 (.agg (row32 a)) (.agg (row32 a))).run Try.prog w = .ok (.bool false) w := by
  simp [binOp, run_equal_dig a a ha ha]
set_option maxRecDepth 100000 in
set_option maxHeartbeats 1000000 in
theorem law_NodedbCounts (s : ByteArray) (p q : Int) (w : World) (hs : s.size ≤ 140737488351232) (hp : -9223372036854775808 ≤ p ∧ p ≤ 9223372036854775807) (hq : -9223372036854775808 ≤ q ∧ q ≤ 9223372036854775807) :
    Calls Try.prog 4 #[.string s, .int .i64 p, .int .i64 q] w (PostT w) := by
  by_cases hr : 0 ≤ p ∧ 0 ≤ q ∧ p ≤ 200 ∧ q ≤ 200
  · clear hp hq
    obtain ⟨hp0, hq0, hp1, hq1⟩ := hr
    obtain ⟨p, rfl⟩ := Int.eq_ofNat_of_zero_le hp0
    obtain ⟨q, rfl⟩ := Int.eq_ofNat_of_zero_le hq0
    have hsz : s.data.toList.length = s.size := Array.length_toList
    have hdl := Dig.of_length s.data.toList
    have HS := Lib.hid hs
    clear hs
    go_enter Try.func4, Try.ntmps4
    go_wp2_with fail
    refine (law_begun 1 _).mono ?_
    rintro e w1 ⟨T, b, rfl, hst⟩
    have hT : T ≠ b := hst.2.2.1.ne
    have hcv := Lib.run_convert_string_bytes (P := Try.prog) w1 9 26 5 s Try.underlying9 Try.underlying26 Try.underlying5
    have hcp := conv_post s w1 5 (by have := HS.out; omega)
    replace hst := Lib.hid hst
    replace hcp := Lib.hid hcp
    go_wp2_with fail
    clear hcv
    refine (rdig_Of s.data.toList _ s.size _ _ hcp.out.1 (by have := HS.out; omega)).mono ?_
    rintro e w2 ⟨rfl, hb2⟩
    replace hst := Lib.hid ((hst.out.step hcp.out.2.2).step hb2)
    clear hcp hb2
    generalize hD : Dig.of s.data.toList = d at *
    have HD := Lib.hid hD
    clear hD
    have hsd := row32_size hdl
    unfold digV
    go_wp2_with (refine wpList_store_row rfl 30 _ _ rfl w2.heap.size (row32 d) rfl rfl _ _ (Blk.zeros w2 _ 30 rfl) (by rw [hsd]; exact info_digest) (by rw [hsd]; rfl) (row32_one _) ?_)
    refine code_at (CountI w T b w2.heap.size d s 0) ?_ ?_
    · have hb3 := below_row ((Below.refl w2.heap.size w2).alloc (Nat.le_refl _) (.cells (bv zero32).toArray 30)) (Nat.le_refl _) (row32 d)
      have h := hst.out
      exact ⟨h.2.2.1.step hb3, (Blk.zeros w2 _ 30 rfl).row _, h.2.2.2.trans (hb3.mono h.2.2.2.size), h.1, by have := h.2.2.1.map.lt; omega⟩
    clear hst
    generalize w2.heap.size = Dg
    intro w3 hi
    have hne := run_neq_dig d hdl
    replace hne := Lib.hid hne
    go_loopw [10] (fun i wr => ∃ k : Nat, k ≤ p ∧ i = .int .i64 k ∧ CountI w T b Dg d s k wr) (fun i _ => p - (intOf i).toNat)
    case atStart => exact ⟨0, Nat.zero_le _, rfl, hi⟩
    case round =>
      clear hi
      obtain ⟨k, hk, rfl, hi⟩ := hrel
      by_cases hlt : k < p
      · replace hi := Lib.hid hi
        go_wp2_with fail
        refine (db_Put T b 1 _ s (stV s k) _ hi.out.1 (by have := HS.out; omega) d HD.out (stN_get d s k) (stV_small s k (by have := HS.out; omega) (by omega))).mono ?_
        rintro e w4 ⟨rfl, hst4, hg4⟩
        obtain ⟨e1, e2, e3⟩ := stN_put d s k (by omega)
        rw [e2] at hst4
        rw [e1, e3]
        clear e1 e2 e3
        replace hi := Lib.hid (hi.out.next hst4 hg4)
        clear hst4 hg4
        unfold digV
        have hne := hne.out
        go_wp2_with (first
          | (refine wpList_store_row rfl 30 _ _ rfl w4.heap.size (row32 d) rfl rfl _ _ (Blk.zeros w4 _ 30 rfl) (by rw [hsd]; exact info_digest) (by rw [hsd]; rfl) (row32_one _) ?_)
          | (refine wpList_load_row rfl 30 _ rfl w4.heap.size rfl _ (row32 d) _ _ ((Blk.zeros w4 _ 30 rfl).row _) Try.underlying30 rfl (by rw [hsd]; exact info_digest) ?_)
          | (refine wpList_load_row rfl 30 _ rfl Dg rfl _ (row32 d) _ _ ((hi.out.2.1.alloc _).row_far _ (by have := hi.out.2.1.lt; omega)) Try.underlying30 rfl (by rw [hsd]; exact info_digest) ?_))
        have hb3 := below_row ((Below.refl w4.heap.size w4).alloc (Nat.le_refl _) (.cells (bv zero32).toArray 30)) (Nat.le_refl _) (row32 d)
        exact ⟨⟨k + 1, by omega, by go_num, hi.out.step hb3⟩, by simp [intOf]; omega⟩
      · obtain rfl : k = p := by omega
        go_wp2_with fail
        obtain ⟨wo, rfl⟩ : ∃ wo : World, wo = wr := ⟨_, rfl⟩
        go_loopw [13] (fun i wr => ∃ k2 : Nat, k2 ≤ q ∧ i = .int .i64 k2 ∧ CountI w T b Dg d s (k - k2) wr) (fun i _ => q - (intOf i).toNat)
        case atStart => exact ⟨0, Nat.zero_le _, rfl, hi⟩
        case round =>
          clear hi
          obtain ⟨k2, hk2, rfl, hi⟩ := hrel
          by_cases hlt2 : k2 < q
          · replace hi := Lib.hid hi
            go_wp2_with (refine wpList_load_row rfl 30 _ rfl Dg rfl _ (row32 d) _ _ hi.out.2.1 Try.underlying30 rfl (by rw [hsd]; exact info_digest) ?_)
            refine (db_Drop T b 1 _ d (stV s (k - k2)) _ hi.out.1 hdl (stN_get d s (k - k2)) (stV_pos s (k - k2) (by omega))).mono ?_
            rintro e w4 ⟨rfl, hst4, hg4⟩
            obtain ⟨e1, e2, e3⟩ := stN_drop d s (k - k2)
            rw [e1] at hst4
            rw [e2, e3]
            clear e1 e2 e3
            replace hi := Lib.hid (hi.out.next hst4 hg4)
            clear hst4 hg4
            rcases Nat.lt_trichotomy (k2 + 1) k with hc | hc | hc
            · have f1 : decide (k - k2 = 1) = false := by simp; omega
              have f2 : (if k - k2 = 0 then (61 : Int) else 0) = 0 := if_neg (by omega)
              have f3 : ((k2 : Int) == (k : Int) - 1) = false := by simp; omega
              have f4 : decide (k2 < k) = true := by simp; omega
              have f5 : decide ((k2 : Int) < (k : Int)) = true := by simp; omega
              rw [f1, f2]
              clear f1 f2
              go_wp2_with fail
              exact ⟨⟨k2 + 1, by omega, by go_num, by have := hi.out; rwa [Nat.sub_sub] at this⟩, by simp [intOf]; omega⟩
            · have f1 : decide (k - k2 = 1) = true := by simp; omega
              have f2 : (if k - k2 = 0 then (61 : Int) else 0) = 0 := if_neg (by omega)
              have f3 : ((k2 : Int) == (k : Int) - 1) = true := by simp; omega
              have f4 : decide (k2 < k) = true := by simp; omega
              have f5 : decide ((k2 : Int) < (k : Int)) = true := by simp; omega
              rw [f1, f2]
              clear f1 f2
              replace hc := Lib.hid hc
              go_wp2_with fail
              exact ⟨⟨k2 + 1, by omega, by go_num, by have := hi.out; rwa [Nat.sub_sub] at this⟩, by simp [intOf]; omega⟩
            · have f1 : decide (k - k2 = 1) = false := by simp; omega
              have f2 : (if k - k2 = 0 then (61 : Int) else 0) = 61 := if_pos (by omega)
              have f3 : ((k2 : Int) == (k : Int) - 1) = false := by simp; omega
              have f4 : decide (k2 < k) = false := by simp; omega
              have f5 : decide ((k2 : Int) < (k : Int)) = false := by simp; omega
              rw [f1, f2]
              clear f1 f2
              go_wp2_with fail
              exact ⟨⟨k2 + 1, by omega, by go_num, by have := hi.out; rwa [Nat.sub_sub] at this⟩, by simp [intOf]; omega⟩
          · obtain rfl : k2 = q := by omega
            replace hi := Lib.hid hi
            go_wp2_with (refine wpList_load_row rfl 30 _ rfl Dg rfl _ (row32 d) _ _ hi.out.2.1 Try.underlying30 rfl (by rw [hsd]; exact info_digest) ?_)
            refine (db_Get T b 1 _ d (stV s (k - k2)) _ hi.out.1 hdl (stN_get d s (k - k2))).mono ?_
            rintro e w4 ⟨rfl, hb4⟩
            replace hi := Lib.hid (hi.out.step hb4)
            clear hb4
            have hln := stN_len d s (k - k2)
            rcases Nat.lt_or_ge k2 k with hc | hc
            · have hv : stV s (k - k2) = some (s, ((k - k2 : Nat) : Int)) := by unfold stV; rw [if_neg (by omega)]
              rw [hv]
              simp only [Option.getD_some, Option.isSome_some]
              clear hv
              have g1 : ((k - k2 : Nat) : Int) = (k : Int) - k2 := by omega
              rw [g1]
              clear g1
              have hln1 : (stN d s (k - k2)).length = 1 := by rw [hln]; omega
              clear hln
              replace hln1 := Lib.hid hln1
              obtain ⟨z, hz⟩ : ∃ z : Int, z = (k : Int) - k2 := ⟨_, rfl⟩
              have hz0 : 0 < z := by omega
              have hz1 : z ≤ 200 := by omega
              have hmx : max z 0 = z := by omega
              have hmn : min z 1 = 1 := by omega
              have hzz : (k : Int) - k2 = z := hz.symm
              rw [← hz]
              clear hz
              go_wp2_with fail
              refine (db_Len T b 1 _ _ hi.out.1).mono ?_
              rintro e _ ⟨rfl, rfl⟩
              rw [hln1.out]
              go_wp2_with fail
              go_ret
              exact ⟨rfl, hi.out.2.2.1⟩
            · have hv : stV s (k - k2) = none := by unfold stV; rw [if_pos (by omega)]
              rw [hv]
              simp only [Option.getD_none, Option.isSome_none]
              clear hv
              have hln1 : (stN d s (k - k2)).length = 0 := by rw [hln]; omega
              clear hln
              replace hln1 := Lib.hid hln1
              obtain ⟨z, hz⟩ : ∃ z : Int, z = (k : Int) - k2 := ⟨_, rfl⟩
              have hz0 : z ≤ 0 := by omega
              have hz1 : -200 ≤ z := by omega
              have hmx : max z 0 = 0 := by omega
              have hzz : (k : Int) - k2 = z := hz.symm
              clear hz
              by_cases he : s = ⟨#[]⟩
              · subst he
                clear hsz
                go_wp2_with fail
                refine (db_Len T b 1 _ _ hi.out.1).mono ?_
                rintro e _ ⟨rfl, rfl⟩
                rw [hln1.out]
                go_wp2_with fail
                go_ret
                exact ⟨rfl, hi.out.2.2.1⟩
              · have he1 : ¬ s.toList = [] := fun h => he (bytes_ext (by rw [ByteArray.toList_eq] at h; rw [h]))
                have he2 : s.toList.isEmpty = false := by cases hl : s.toList with
                  | nil => exact absurd hl he1
                  | cons _ _ => rfl
                go_wp2_with fail
                refine (db_Len T b 1 _ _ hi.out.1).mono ?_
                rintro e _ ⟨rfl, rfl⟩
                rw [hln1.out]
                go_wp2_with fail
                go_ret
                exact ⟨rfl, hi.out.2.2.1⟩
  · have hfin : ∀ (w1 : World), Below w.heap.size w w1 → True := fun _ _ => trivial
    go_enter Try.func4, Try.ntmps4
    go_wp2_with fail
    refine (law_begun 1 _).mono ?_
    rintro e w1 ⟨T, b, rfl, hst⟩
    have hb1 := Lib.hid hst.2.2.2
    clear hst hfin
    by_cases h1 : p < 0
    · have d1 : decide (p < 0) = true := by simpa using h1
      go_wp2_with fail
      go_ret
      exact ⟨rfl, hb1.out⟩
    have d1 : decide (p < 0) = false := by simpa using h1
    by_cases h2 : q < 0
    · have d2 : decide (q < 0) = true := by simpa using h2
      go_wp2_with fail
      go_ret
      exact ⟨rfl, hb1.out⟩
    have d2 : decide (q < 0) = false := by simpa using h2
    by_cases h3 : 200 < p
    · have d3 : decide (200 < p) = true := by simpa using h3
      go_wp2_with fail
      go_ret
      exact ⟨rfl, hb1.out⟩
    have d3 : decide (200 < p) = false := by simpa using h3
    have h4 : 200 < q := by omega
    have d4 : decide (200 < q) = true := by simpa using h4
    go_wp2_with fail
    go_ret
    exact ⟨rfl, hb1.out⟩
end Go.Proofs.Ytioanppnkhiokaa
