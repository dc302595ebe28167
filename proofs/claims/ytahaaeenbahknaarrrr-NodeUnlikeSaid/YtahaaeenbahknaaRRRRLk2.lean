/-
  Package nest, what looks: lists.
-/
import Derived.Test.YtahaaeenbahknaaRRRRLk1
namespace Go.Proofs.YtahaaeenbahknaaRRRR
open Go.RowKit

/-- the contract of look on items of one depth, at the place where they may stand -/
def LookC (d : Nat) : Prop := ∀ (S : Nat → Prop) (g W : Nat) (v : Value) (x : Ns.It (d + 1)) (w : World), Blk w g 59 #[.int .i64 W, .int .i64 0] → (∀ q, S q → q ≠ g) → Sits S w (d + 1) v x → Ns.fit d x → W + (Ns.enc (d + 1) x).length ≤ 16777215 →
  Calls Try.prog 30 #[.pointer (some ⟨g, 0, none⟩), v, .int .i64 ((8 - d : Nat) : Int)] w fun e w' => e = .returned (.tuple #[]) ∧ ∃ W', W' ≤ W + (Ns.enc (d + 1) x).length ∧ Blk w' g 59 #[.int .i64 W', .int .i64 0] ∧ w.grownBy w' (some g)
theorem encT_max (b : List UInt8) : max b.length 1 ≤ (Ns.encT b).length := by
  rw [Ns.encT_len]
  split
  · rename_i h
    have := of_decide_eq_true h
    omega
  · split <;> omega
set_option maxHeartbeats 2000000 in
set_option maxRecDepth 100000 in
theorem look_list0 (d : Nat) (hw : LookC d) (S : Nat → Prop) (g D W0 : Nat) (hde : ((8 - d : Nat) : Int) = D + 1) (hD : D = 0) (hD8 : D < 8) (A : Option Addr) (n c : Nat) (vs : List Value) (xs : List (Ns.It (d + 1))) (w : World) (hg : g < w.heap.size)
    (hk : Blk w g 59 #[.int .i64 W0, .int .i64 0]) (hS : ∀ q, S q → q ≠ g) (hn : n = xs.length) (hc : n ≤ c) (hcm : c ≤ maxLen) (hin : InS S w 3 A n (flat vs)) (hall : All2 (Sits S w (d + 1)) vs xs) (hfit : ∀ x ∈ xs, Ns.fit d x)
     (hlim : W0 + (xs.flatMap (Ns.enc (d + 1))).length ≤ 16777215) :
    Calls Try.prog 30 #[.pointer (some ⟨g, 0, none⟩), lsV A n c, .int .i64 D] w fun e w' => e = .returned (.tuple #[]) ∧ ∃ W', W' ≤ W0 + (xs.flatMap (Ns.enc (d + 1))).length ∧ Blk w' g 59 #[.int .i64 W', .int .i64 0] ∧ w.grownBy w' (some g) := by
  have hstep : ∀ k (hk : k < xs.length), (xs.take (k + 1)).flatMap (Ns.enc (d + 1)) = (xs.take k).flatMap (Ns.enc (d + 1)) ++ Ns.enc (d + 1) xs[k] := by
    intro k hk
    rw [List.take_succ_eq_append_getElem hk, List.flatMap_append]
    simp
  have hle : ∀ k, ((xs.take k).flatMap (Ns.enc (d + 1))).length ≤ (xs.flatMap (Ns.enc (d + 1))).length := by
    intro k
    have h1 := congrArg (fun l => (List.flatMap (Ns.enc (d + 1)) l).length) (List.take_append_drop k xs)
    simp only [List.flatMap_append, List.length_append] at h1
    omega
  have hn63 : (n : Int) ≤ 9223372036854775807 := by unfold maxLen at hcm; omega
  have hnr : ¬ (n : Int) < 0 := by omega
  have hDw : IntKind.i64.wrap ((D : Int) + 1) = (D : Int) + 1 := by rw [IntKind.wrap_i64]; omega
  have hlimW : (W0 : Int) ≤ 16777215 := by omega
  have hD8' : ¬ (D : Int) = 8 := by omega
  subst hD
  replace hde := Lib.hid hde
  replace hstep := Lib.hid hstep
  replace hle := Lib.hid hle
  replace hS := Lib.hid hS
  replace hn := Lib.hid hn
  replace hin := Lib.hid hin
  replace hall := Lib.hid hall
  replace hfit := Lib.hid hfit
  replace hw := Lib.hid hw
  replace hlim := Lib.hid hlim
  clear hc hcm
  have g0 : w.cell? ⟨g, 0, none⟩ = some (.int .i64 W0) := hk.cell 0
  have g1 : w.cell? ⟨g, 1, none⟩ = some (.int .i64 0) := hk.cell 1
  have f0 := hk.frozen 0
  have hb2 := Blk.new w 46 #[.bool true, .slice none 0 0, .slice A n c]
  have hk2 := hk.alloc (.cells #[.bool true, .slice none 0 0, .slice A n c] 46)
  have hgr2 := grown_alloc (World.grownBy.refl w (some g)) (.cells #[.bool true, .slice none 0 0, .slice A n c] 46)
  replace hk2 := Lib.hid hk2
  replace hb2 := Lib.hid hb2
  replace hgr2 := Lib.hid hgr2
  clear hk
  unfold lsV
  go_enter Try.func30, Try.ntmps30
  go_wp2_with fail
  clear g0 g1 f0
  generalize w.alloc (.cells #[.bool true, .slice none 0 0, .slice A n c] 46) = w2 at *
  go_loopw [6] (fun i wr => ∃ (k W' : Nat), k ≤ xs.length ∧ i = .int .i64 k ∧ W' ≤ W0 + ((xs.take k).flatMap (Ns.enc (d + 1))).length ∧ Blk wr g 59 #[.int .i64 W', .int .i64 0] ∧ Blk wr w.heap.size 46 #[.bool true, .slice none 0 0, .slice A n c] ∧ w.grownBy wr (some g)) (fun i _ => xs.length - (intOf i).toNat)
  case atStart => exact ⟨0, W0, Nat.zero_le _, rfl, Nat.le_add_right _ _, hk2.out, hb2.out, hgr2.out⟩
  case round =>
    clear hk2 hb2 hgr2
    obtain ⟨k, W', hk, rfl, hW', hkr, hbr, hgr⟩ := hrel
    by_cases hlt : k < xs.length
    · have hbs := hgr.size
      have g1 : wr.cell? ⟨g, 1, none⟩ = some (.int .i64 0) := hkr.cell 1
      have g2 : wr.cell? ⟨w.heap.size, 2, none⟩ = some (.slice A n c) := hbr.cell 2
      have hmv : ∀ q, S q → q < w.heap.size → S q ∧ wr.heap[q]? = w.heap[q]? := fun q h1 h2 => ⟨h1, hgr.block q h2 (fun e => by injection e with e; exact hS.out q h1 e)⟩
      obtain ⟨gi, o, a, b, cc, rfl, hSg, hgi, hrg, hone, hsit⟩ := items_at (hin.out.move hmv hbs) (hall.out.imp fun v x hx => hx.move _ _ _ hmv hbs) hn.out k hlt
      have hrg2 : wr.rangeAt gi (o + k * 3) [a, b, cc] := by rw [Nat.mul_comm k 3]; exact hrg
      have hs1 := hle.out (k + 1)
      rw [hstep.out k hlt, List.length_append] at hs1
      have hlimo := hlim.out
      have hcall := hw.out S g W' (.agg #[a, b, cc]) xs[k] wr hkr hS.out hsit (hfit.out _ (List.getElem_mem hlt)) (by omega)
      rw [hde.out] at hcall
      clear hrg hsit hs1 hlimo hmv
      replace hkr := Lib.hid hkr
      replace hbr := Lib.hid hbr
      replace hgr := Lib.hid hgr
      replace hW' := Lib.hid hW'
      have hlt' : (k : Int) < n := by have := hn.out; omega
      go_wp2_with (refine wpList_load_mid rfl 46 _ rfl gi (o + k * 3) rfl [a, b, cc] _ hrg2 Try.underlying46 rfl info_item3 ?_)
      refine hcall.mono ?_
      rintro e w5 ⟨rfl, W5, hW5, hk5, hg5⟩
      have hb5 := Lib.hid (hbr.out.grown hg5 (fun e => by have := hg; omega))
      have hgr5 := Lib.hid (hgr.out.trans hg5)
      replace hk5 := Lib.hid hk5
      replace hW5 := Lib.hid hW5
      clear hcall g1 g2 hg5
      go_wp2_with fail
      refine ⟨⟨k + 1, W5, by omega, by go_num, ?_, hk5.out, hb5.out, hgr5.out⟩, ?_⟩
      · rw [hstep.out k hlt, List.length_append]
        have h1 := hW5.out
        have h2 := hW'.out
        omega
      · simp [intOf]; omega
    · obtain rfl : k = xs.length := by omega
      rw [List.take_length] at hW'
      have g2 : wr.cell? ⟨w.heap.size, 2, none⟩ = some (.slice A n c) := hbr.cell 2
      have hlt' : ¬ (xs.length : Int) < n := by have := hn.out; omega
      replace hkr := Lib.hid hkr
      replace hbr := Lib.hid hbr
      replace hgr := Lib.hid hgr
      replace hW' := Lib.hid hW'
      go_wp2_with fail
      go_end0
      refine ⟨rfl, W', ?_, hkr.out, hgr.out⟩
      rw [← List.length_flatMap]
      exact hW'.out
set_option maxHeartbeats 2000000 in
set_option maxRecDepth 100000 in
theorem look_list1 (d : Nat) (hw : LookC d) (S : Nat → Prop) (g D W : Nat) (hde : ((8 - d : Nat) : Int) = D + 1) (hD : 0 < D) (hD8 : D < 8) (A : Option Addr) (n c : Nat) (vs : List Value) (xs : List (Ns.It (d + 1))) (w : World) (hg : g < w.heap.size)
    (hk : Blk w g 59 #[.int .i64 W, .int .i64 0]) (hS : ∀ q, S q → q ≠ g) (hn : n = xs.length) (hc : n ≤ c) (hcm : c ≤ maxLen) (hin : InS S w 3 A n (flat vs)) (hall : All2 (Sits S w (d + 1)) vs xs) (hfit : ∀ x ∈ xs, Ns.fit d x)
    (W0 : Nat) (hW0 : W0 = W + 1) (hlim : W0 + (xs.flatMap (Ns.enc (d + 1))).length ≤ 16777215) :
    Calls Try.prog 30 #[.pointer (some ⟨g, 0, none⟩), lsV A n c, .int .i64 D] w fun e w' => e = .returned (.tuple #[]) ∧ ∃ W', W' ≤ W0 + (xs.flatMap (Ns.enc (d + 1))).length ∧ Blk w' g 59 #[.int .i64 W', .int .i64 0] ∧ w.grownBy w' (some g) := by
  have hstep : ∀ k (hk : k < xs.length), (xs.take (k + 1)).flatMap (Ns.enc (d + 1)) = (xs.take k).flatMap (Ns.enc (d + 1)) ++ Ns.enc (d + 1) xs[k] := by
    intro k hk
    rw [List.take_succ_eq_append_getElem hk, List.flatMap_append]
    simp
  have hle : ∀ k, ((xs.take k).flatMap (Ns.enc (d + 1))).length ≤ (xs.flatMap (Ns.enc (d + 1))).length := by
    intro k
    have h1 := congrArg (fun l => (List.flatMap (Ns.enc (d + 1)) l).length) (List.take_append_drop k xs)
    simp only [List.flatMap_append, List.length_append] at h1
    omega
  have hn63 : (n : Int) ≤ 9223372036854775807 := by unfold maxLen at hcm; omega
  have hnr : ¬ (n : Int) < 0 := by omega
  have hDw : IntKind.i64.wrap ((D : Int) + 1) = (D : Int) + 1 := by rw [IntKind.wrap_i64]; omega
  have hlimW : (W0 : Int) ≤ 16777215 := by omega
  have hD8' : ¬ (D : Int) = 8 := by omega
  have hD0 : ¬ (D : Int) = 0 := by omega
  have hWw : IntKind.i64.wrap ((W : Int) + 1) = (W0 : Int) := by rw [IntKind.wrap_i64]; omega
  replace hW0 := Lib.hid hW0
  replace hde := Lib.hid hde
  replace hstep := Lib.hid hstep
  replace hle := Lib.hid hle
  replace hS := Lib.hid hS
  replace hn := Lib.hid hn
  replace hin := Lib.hid hin
  replace hall := Lib.hid hall
  replace hfit := Lib.hid hfit
  replace hw := Lib.hid hw
  replace hlim := Lib.hid hlim
  clear hc hcm
  have g0 : w.cell? ⟨g, 0, none⟩ = some (.int .i64 W) := hk.cell 0
  have g1 : w.cell? ⟨g, 1, none⟩ = some (.int .i64 0) := hk.cell 1
  have f0 := hk.frozen 0
  have hb2 : Blk ((w.setCell ⟨g, 0, none⟩ (.int .i64 W0)).alloc (.cells #[.bool true, .slice none 0 0, .slice A n c] 46)) w.heap.size 46 #[.bool true, .slice none 0 0, .slice A n c] := Blk.new' (by rw [size_set])
  have hk2 := ((hk.set_ 0 (.int .i64 W0)).eq (show _ = #[.int .i64 W0, .int .i64 0] from rfl)).alloc (.cells #[.bool true, .slice none 0 0, .slice A n c] 46)
  have hgr2 := grown_alloc (grown_set (i := 0) (u := .int .i64 W0) (World.grownBy.refl w (some g))) (.cells #[.bool true, .slice none 0 0, .slice A n c] 46)
  replace hk2 := Lib.hid hk2
  replace hb2 := Lib.hid hb2
  replace hgr2 := Lib.hid hgr2
  clear hk
  unfold lsV
  go_enter Try.func30, Try.ntmps30
  go_wp2_with fail
  clear g0 g1 f0
  generalize (w.setCell ⟨g, 0, none⟩ (.int .i64 W0)).alloc (.cells #[.bool true, .slice none 0 0, .slice A n c] 46) = w2 at *
  go_loopw [6] (fun i wr => ∃ (k W' : Nat), k ≤ xs.length ∧ i = .int .i64 k ∧ W' ≤ W0 + ((xs.take k).flatMap (Ns.enc (d + 1))).length ∧ Blk wr g 59 #[.int .i64 W', .int .i64 0] ∧ Blk wr w.heap.size 46 #[.bool true, .slice none 0 0, .slice A n c] ∧ w.grownBy wr (some g)) (fun i _ => xs.length - (intOf i).toNat)
  case atStart => exact ⟨0, W0, Nat.zero_le _, rfl, Nat.le_add_right _ _, hk2.out, hb2.out, hgr2.out⟩
  case round =>
    clear hk2 hb2 hgr2
    obtain ⟨k, W', hk, rfl, hW', hkr, hbr, hgr⟩ := hrel
    by_cases hlt : k < xs.length
    · have hbs := hgr.size
      have g1 : wr.cell? ⟨g, 1, none⟩ = some (.int .i64 0) := hkr.cell 1
      have g2 : wr.cell? ⟨w.heap.size, 2, none⟩ = some (.slice A n c) := hbr.cell 2
      have hmv : ∀ q, S q → q < w.heap.size → S q ∧ wr.heap[q]? = w.heap[q]? := fun q h1 h2 => ⟨h1, hgr.block q h2 (fun e => by injection e with e; exact hS.out q h1 e)⟩
      obtain ⟨gi, o, a, b, cc, rfl, hSg, hgi, hrg, hone, hsit⟩ := items_at (hin.out.move hmv hbs) (hall.out.imp fun v x hx => hx.move _ _ _ hmv hbs) hn.out k hlt
      have hrg2 : wr.rangeAt gi (o + k * 3) [a, b, cc] := by rw [Nat.mul_comm k 3]; exact hrg
      have hs1 := hle.out (k + 1)
      rw [hstep.out k hlt, List.length_append] at hs1
      have hlimo := hlim.out
      have hcall := hw.out S g W' (.agg #[a, b, cc]) xs[k] wr hkr hS.out hsit (hfit.out _ (List.getElem_mem hlt)) (by omega)
      rw [hde.out] at hcall
      clear hrg hsit hs1 hlimo hmv
      replace hkr := Lib.hid hkr
      replace hbr := Lib.hid hbr
      replace hgr := Lib.hid hgr
      replace hW' := Lib.hid hW'
      have hlt' : (k : Int) < n := by have := hn.out; omega
      go_wp2_with (refine wpList_load_mid rfl 46 _ rfl gi (o + k * 3) rfl [a, b, cc] _ hrg2 Try.underlying46 rfl info_item3 ?_)
      refine hcall.mono ?_
      rintro e w5 ⟨rfl, W5, hW5, hk5, hg5⟩
      have hb5 := Lib.hid (hbr.out.grown hg5 (fun e => by have := hg; omega))
      have hgr5 := Lib.hid (hgr.out.trans hg5)
      replace hk5 := Lib.hid hk5
      replace hW5 := Lib.hid hW5
      clear hcall g1 g2 hg5
      go_wp2_with fail
      refine ⟨⟨k + 1, W5, by omega, by go_num, ?_, hk5.out, hb5.out, hgr5.out⟩, ?_⟩
      · rw [hstep.out k hlt, List.length_append]
        have h1 := hW5.out
        have h2 := hW'.out
        omega
      · simp [intOf]; omega
    · obtain rfl : k = xs.length := by omega
      rw [List.take_length] at hW'
      have g2 : wr.cell? ⟨w.heap.size, 2, none⟩ = some (.slice A n c) := hbr.cell 2
      have hlt' : ¬ (xs.length : Int) < n := by have := hn.out; omega
      replace hkr := Lib.hid hkr
      replace hbr := Lib.hid hbr
      replace hgr := Lib.hid hgr
      replace hW' := Lib.hid hW'
      go_wp2_with fail
      go_end0
      refine ⟨rfl, W', ?_, hkr.out, hgr.out⟩
      rw [← List.length_flatMap]
      exact hW'.out
theorem look_all : ∀ (d : Nat), d ≤ 8 → LookC d := by
  intro d
  induction d with
  | zero =>
    intro hd S g W v x w hk hS hsit hfit hlim
    match x, hsit, hfit, hlim with
    | .inl b, hsit, hfit, hlim =>
      obtain ⟨A, n, c, rfl, hn, hc, hm, hin⟩ := hsit
      have hle := encT_max b
      have hlim' : W + (Ns.encT b).length ≤ 16777215 := hlim
      refine (look_text g W (8 - 0) A n c w hk (by rw [hn]; omega)).mono ?_
      rintro e w' ⟨rfl, h1, h2⟩
      refine ⟨rfl, _, ?_, h1, h2⟩
      show W + max n 1 ≤ W + (Ns.encT b).length
      omega
    | .inr xs, _, hfit, _ => exact hfit.elim
  | succ d ih =>
    intro hd S g W v x w hk hS hsit hfit hlim
    match x, hsit, hfit, hlim with
    | .inl b, hsit, hfit, hlim =>
      obtain ⟨A, n, c, rfl, hn, hc, hm, hin⟩ := hsit
      have hle := encT_max b
      have hlim' : W + (Ns.encT b).length ≤ 16777215 := hlim
      refine (look_text g W (8 - (d + 1)) A n c w hk (by rw [hn]; omega)).mono ?_
      rintro e w' ⟨rfl, h1, h2⟩
      refine ⟨rfl, _, ?_, h1, h2⟩
      show W + max n 1 ≤ W + (Ns.encT b).length
      omega
    | .inr xs, hsit, hfit, hlim =>
      obtain ⟨A, n, c, vs, rfl, hn, hc, hm, hin, hall⟩ := hsit
      have hf : (xs.flatMap (Ns.enc (d + 1))).length ≤ Ns.maxBytes ∧ ∀ x ∈ xs, Ns.fit d x := hfit
      have he : (Ns.enc (d + 1 + 1) (.inr xs)).length = (Ns.head 192 (xs.flatMap (Ns.enc (d + 1))).length).length + (xs.flatMap (Ns.enc (d + 1))).length := by
        show (Ns.head 192 (xs.flatMap (Ns.enc (d + 1))).length ++ xs.flatMap (Ns.enc (d + 1))).length = _
        rw [List.length_append]
      have hp := Ns.head_pos 192 (xs.flatMap (Ns.enc (d + 1))).length
      rcases Nat.lt_or_ge d 7 with h7 | h7
      · refine (look_list1 d (ih (by omega)) S g (8 - (d + 1)) W (by omega) (by omega) (by omega) A n c vs xs w hk.lt hk hS hn hc hm hin hall hf.2 (W + 1) rfl (by omega)).mono ?_
        rintro e w' ⟨rfl, W', h0, h1, h2⟩
        exact ⟨rfl, W', by omega, h1, h2⟩
      · obtain rfl : d = 7 := by omega
        refine (look_list0 7 (ih (by omega)) S g 0 W (by omega) rfl (by omega) A n c vs xs w hk.lt hk hS hn hc hm hin hall hf.2 (by omega)).mono ?_
        rintro e w' ⟨rfl, W', h0, h1, h2⟩
        exact ⟨rfl, W', by omega, h1, h2⟩
end Go.Proofs.YtahaaeenbahknaaRRRR
