/-
  Texts of a proof, one behind the other: Lk2, En1, Ne7, NoF, NoB, No2, Li1, Wo1, Wo2, Li2, No3, No4, No5, NibL, NodL, No6.
-/
import Derived.Test.YteknhmhmepnfjaaNodeEncodesA2
import Derived.Laws.CopyRow
import Derived.Great.BuildSlice
import Derived.Deep.Cut
/-
  Package nest, what looks: lists.
-/
namespace Go.Proofs.Yteknhmhmepnfjaa
open Go.RowKit

/-- the contract of look on items of one depth, at the place where they may stand -/
def LookC (d : Nat) : Prop := ∀ (S : Nat → Prop) (g W : Nat) (v : Value) (x : Ns.It (d + 1)) (w : World), Blk w g 63 #[.int .i64 W, .int .i64 0] → (∀ q, S q → q ≠ g) → Sits S w (d + 1) v x → Ns.fit d x → W + (Ns.enc (d + 1) x).length ≤ 16777215 →
  Calls Try.prog 41 #[.pointer (some ⟨g, 0, none⟩), v, .int .i64 ((8 - d : Nat) : Int)] w fun e w' => e = .returned (.tuple #[]) ∧ ∃ W', W' ≤ W + (Ns.enc (d + 1) x).length ∧ Blk w' g 63 #[.int .i64 W', .int .i64 0] ∧ w.grownBy w' (some g)
theorem encT_max (b : List UInt8) : max b.length 1 ≤ (Ns.encT b).length := by
  rw [Ns.encT_len]
  split
  · rename_i h
    have := of_decide_eq_true h
    omega
  · split <;> omega
set_option maxHeartbeats 2000000 in
set_option maxRecDepth 100000 in
theorem look_list0 (d : Nat) (hw : LookC d) (S : Nat → Prop) (g D W0 : Nat) (hde : ((8 - d : Nat) : Int) = D + 1) (hD : D = 0) (hD8 : D < 8) (A : Option Addr) (n c : Nat) (vs : List Value) (xs : List (Ns.It (d + 1))) (w : World) (hg : g < w.heap.size)
    (hk : Blk w g 63 #[.int .i64 W0, .int .i64 0]) (hS : ∀ q, S q → q ≠ g) (hn : n = xs.length) (hc : n ≤ c) (hcm : c ≤ maxLen) (hin : InS S w 3 A n (flat vs)) (hall : All2 (Sits S w (d + 1)) vs xs) (hfit : ∀ x ∈ xs, Ns.fit d x)
     (hlim : W0 + (xs.flatMap (Ns.enc (d + 1))).length ≤ 16777215) :
    Calls Try.prog 41 #[.pointer (some ⟨g, 0, none⟩), lsV A n c, .int .i64 D] w fun e w' => e = .returned (.tuple #[]) ∧ ∃ W', W' ≤ W0 + (xs.flatMap (Ns.enc (d + 1))).length ∧ Blk w' g 63 #[.int .i64 W', .int .i64 0] ∧ w.grownBy w' (some g) := by
  have hstep : ∀ k (hk : k < xs.length), (xs.take (k + 1)).flatMap (Ns.enc (d + 1)) = (xs.take k).flatMap (Ns.enc (d + 1)) ++ Ns.enc (d + 1) xs[k] := by
    intro k hk
    rw [List.take_succ_eq_append_getElem hk, List.flatMap_append]
    simp
  have hle : ∀ k, ((xs.take k).flatMap (Ns.enc (d + 1))).length ≤ (xs.flatMap (Ns.enc (d + 1))).length := by
    intro k
    have h1 := congrArg (fun l => (List.flatMap (Ns.enc (d + 1)) l).length) (List.take_append_drop k xs)
    simp only [List.flatMap_append, List.length_append] at h1
    omega
  have hn63 : (n : Int) ≤ 9223372036854775807 := by unfold maxLen at hcm; omega
  have hnr : ¬ (n : Int) < 0 := by omega
  have hDw : IntKind.i64.wrap ((D : Int) + 1) = (D : Int) + 1 := by rw [IntKind.wrap_i64]; omega
  have hlimW : (W0 : Int) ≤ 16777215 := by omega
  have hD8' : ¬ (D : Int) = 8 := by omega
  subst hD
  replace hde := Lib.hid hde
  replace hstep := Lib.hid hstep
  replace hle := Lib.hid hle
  replace hS := Lib.hid hS
  replace hn := Lib.hid hn
  replace hin := Lib.hid hin
  replace hall := Lib.hid hall
  replace hfit := Lib.hid hfit
  replace hw := Lib.hid hw
  replace hlim := Lib.hid hlim
  clear hc hcm
  have g0 : w.cell? ⟨g, 0, none⟩ = some (.int .i64 W0) := hk.cell 0
  have g1 : w.cell? ⟨g, 1, none⟩ = some (.int .i64 0) := hk.cell 1
  have f0 := hk.frozen 0
  have hb2 := Blk.new w 48 #[.bool true, .slice none 0 0, .slice A n c]
  have hk2 := hk.alloc (.cells #[.bool true, .slice none 0 0, .slice A n c] 48)
  have hgr2 := grown_alloc (World.grownBy.refl w (some g)) (.cells #[.bool true, .slice none 0 0, .slice A n c] 48)
  replace hk2 := Lib.hid hk2
  replace hb2 := Lib.hid hb2
  replace hgr2 := Lib.hid hgr2
  clear hk
  unfold lsV
  go_enter Try.func41, Try.ntmps41
  go_wp2_with fail
  clear g0 g1 f0
  generalize w.alloc (.cells #[.bool true, .slice none 0 0, .slice A n c] 48) = w2 at *
  go_loopw [6] (fun i wr => ∃ (k W' : Nat), k ≤ xs.length ∧ i = .int .i64 k ∧ W' ≤ W0 + ((xs.take k).flatMap (Ns.enc (d + 1))).length ∧ Blk wr g 63 #[.int .i64 W', .int .i64 0] ∧ Blk wr w.heap.size 48 #[.bool true, .slice none 0 0, .slice A n c] ∧ w.grownBy wr (some g)) (fun i _ => xs.length - (intOf i).toNat)
  case atStart => exact ⟨0, W0, Nat.zero_le _, rfl, Nat.le_add_right _ _, hk2.out, hb2.out, hgr2.out⟩
  case round =>
    clear hk2 hb2 hgr2
    obtain ⟨k, W', hk, rfl, hW', hkr, hbr, hgr⟩ := hrel
    by_cases hlt : k < xs.length
    · have hbs := hgr.size
      have g1 : wr.cell? ⟨g, 1, none⟩ = some (.int .i64 0) := hkr.cell 1
      have g2 : wr.cell? ⟨w.heap.size, 2, none⟩ = some (.slice A n c) := hbr.cell 2
      have hmv : ∀ q, S q → q < w.heap.size → S q ∧ wr.heap[q]? = w.heap[q]? := fun q h1 h2 => ⟨h1, hgr.block q h2 (fun e => by injection e with e; exact hS.out q h1 e)⟩
      obtain ⟨gi, o, a, b, cc, rfl, hSg, hgi, hrg, hone, hsit⟩ := items_at (hin.out.move hmv hbs) (hall.out.imp fun v x hx => hx.move _ _ _ hmv hbs) hn.out k hlt
      have hrg2 : wr.rangeAt gi (o + k * 3) [a, b, cc] := by rw [Nat.mul_comm k 3]; exact hrg
      have hs1 := hle.out (k + 1)
      rw [hstep.out k hlt, List.length_append] at hs1
      have hlimo := hlim.out
      have hcall := hw.out S g W' (.agg #[a, b, cc]) xs[k] wr hkr hS.out hsit (hfit.out _ (List.getElem_mem hlt)) (by omega)
      rw [hde.out] at hcall
      clear hrg hsit hs1 hlimo hmv
      replace hkr := Lib.hid hkr
      replace hbr := Lib.hid hbr
      replace hgr := Lib.hid hgr
      replace hW' := Lib.hid hW'
      have hlt' : (k : Int) < n := by have := hn.out; omega
      go_wp2_with (refine wpList_load_mid rfl 48 _ rfl gi (o + k * 3) rfl [a, b, cc] _ hrg2 Try.underlying48 rfl info_item3 ?_)
      refine hcall.mono ?_
      rintro e w5 ⟨rfl, W5, hW5, hk5, hg5⟩
      have hb5 := Lib.hid (hbr.out.grown hg5 (fun e => by have := hg; omega))
      have hgr5 := Lib.hid (hgr.out.trans hg5)
      replace hk5 := Lib.hid hk5
      replace hW5 := Lib.hid hW5
      clear hcall g1 g2 hg5
      go_wp2_with fail
      refine ⟨⟨k + 1, W5, by omega, by go_num, ?_, hk5.out, hb5.out, hgr5.out⟩, ?_⟩
      · rw [hstep.out k hlt, List.length_append]
        have h1 := hW5.out
        have h2 := hW'.out
        omega
      · simp [intOf]; omega
    · obtain rfl : k = xs.length := by omega
      rw [List.take_length] at hW'
      have g2 : wr.cell? ⟨w.heap.size, 2, none⟩ = some (.slice A n c) := hbr.cell 2
      have hlt' : ¬ (xs.length : Int) < n := by have := hn.out; omega
      replace hkr := Lib.hid hkr
      replace hbr := Lib.hid hbr
      replace hgr := Lib.hid hgr
      replace hW' := Lib.hid hW'
      go_wp2_with fail
      go_end0
      refine ⟨rfl, W', ?_, hkr.out, hgr.out⟩
      rw [← List.length_flatMap]
      exact hW'.out
set_option maxHeartbeats 2000000 in
set_option maxRecDepth 100000 in
theorem look_list1 (d : Nat) (hw : LookC d) (S : Nat → Prop) (g D W : Nat) (hde : ((8 - d : Nat) : Int) = D + 1) (hD : 0 < D) (hD8 : D < 8) (A : Option Addr) (n c : Nat) (vs : List Value) (xs : List (Ns.It (d + 1))) (w : World) (hg : g < w.heap.size)
    (hk : Blk w g 63 #[.int .i64 W, .int .i64 0]) (hS : ∀ q, S q → q ≠ g) (hn : n = xs.length) (hc : n ≤ c) (hcm : c ≤ maxLen) (hin : InS S w 3 A n (flat vs)) (hall : All2 (Sits S w (d + 1)) vs xs) (hfit : ∀ x ∈ xs, Ns.fit d x)
    (W0 : Nat) (hW0 : W0 = W + 1) (hlim : W0 + (xs.flatMap (Ns.enc (d + 1))).length ≤ 16777215) :
    Calls Try.prog 41 #[.pointer (some ⟨g, 0, none⟩), lsV A n c, .int .i64 D] w fun e w' => e = .returned (.tuple #[]) ∧ ∃ W', W' ≤ W0 + (xs.flatMap (Ns.enc (d + 1))).length ∧ Blk w' g 63 #[.int .i64 W', .int .i64 0] ∧ w.grownBy w' (some g) := by
  have hstep : ∀ k (hk : k < xs.length), (xs.take (k + 1)).flatMap (Ns.enc (d + 1)) = (xs.take k).flatMap (Ns.enc (d + 1)) ++ Ns.enc (d + 1) xs[k] := by
    intro k hk
    rw [List.take_succ_eq_append_getElem hk, List.flatMap_append]
    simp
  have hle : ∀ k, ((xs.take k).flatMap (Ns.enc (d + 1))).length ≤ (xs.flatMap (Ns.enc (d + 1))).length := by
    intro k
    have h1 := congrArg (fun l => (List.flatMap (Ns.enc (d + 1)) l).length) (List.take_append_drop k xs)
    simp only [List.flatMap_append, List.length_append] at h1
    omega
  have hn63 : (n : Int) ≤ 9223372036854775807 := by unfold maxLen at hcm; omega
  have hnr : ¬ (n : Int) < 0 := by omega
  have hDw : IntKind.i64.wrap ((D : Int) + 1) = (D : Int) + 1 := by rw [IntKind.wrap_i64]; omega
  have hlimW : (W0 : Int) ≤ 16777215 := by omega
  have hD8' : ¬ (D : Int) = 8 := by omega
  have hD0 : ¬ (D : Int) = 0 := by omega
  have hWw : IntKind.i64.wrap ((W : Int) + 1) = (W0 : Int) := by rw [IntKind.wrap_i64]; omega
  replace hW0 := Lib.hid hW0
  replace hde := Lib.hid hde
  replace hstep := Lib.hid hstep
  replace hle := Lib.hid hle
  replace hS := Lib.hid hS
  replace hn := Lib.hid hn
  replace hin := Lib.hid hin
  replace hall := Lib.hid hall
  replace hfit := Lib.hid hfit
  replace hw := Lib.hid hw
  replace hlim := Lib.hid hlim
  clear hc hcm
  have g0 : w.cell? ⟨g, 0, none⟩ = some (.int .i64 W) := hk.cell 0
  have g1 : w.cell? ⟨g, 1, none⟩ = some (.int .i64 0) := hk.cell 1
  have f0 := hk.frozen 0
  have hb2 : Blk ((w.setCell ⟨g, 0, none⟩ (.int .i64 W0)).alloc (.cells #[.bool true, .slice none 0 0, .slice A n c] 48)) w.heap.size 48 #[.bool true, .slice none 0 0, .slice A n c] := Blk.new' (by rw [size_set])
  have hk2 := ((hk.set_ 0 (.int .i64 W0)).eq (show _ = #[.int .i64 W0, .int .i64 0] from rfl)).alloc (.cells #[.bool true, .slice none 0 0, .slice A n c] 48)
  have hgr2 := grown_alloc (grown_set (i := 0) (u := .int .i64 W0) (World.grownBy.refl w (some g))) (.cells #[.bool true, .slice none 0 0, .slice A n c] 48)
  replace hk2 := Lib.hid hk2
  replace hb2 := Lib.hid hb2
  replace hgr2 := Lib.hid hgr2
  clear hk
  unfold lsV
  go_enter Try.func41, Try.ntmps41
  go_wp2_with fail
  clear g0 g1 f0
  generalize (w.setCell ⟨g, 0, none⟩ (.int .i64 W0)).alloc (.cells #[.bool true, .slice none 0 0, .slice A n c] 48) = w2 at *
  go_loopw [6] (fun i wr => ∃ (k W' : Nat), k ≤ xs.length ∧ i = .int .i64 k ∧ W' ≤ W0 + ((xs.take k).flatMap (Ns.enc (d + 1))).length ∧ Blk wr g 63 #[.int .i64 W', .int .i64 0] ∧ Blk wr w.heap.size 48 #[.bool true, .slice none 0 0, .slice A n c] ∧ w.grownBy wr (some g)) (fun i _ => xs.length - (intOf i).toNat)
  case atStart => exact ⟨0, W0, Nat.zero_le _, rfl, Nat.le_add_right _ _, hk2.out, hb2.out, hgr2.out⟩
  case round =>
    clear hk2 hb2 hgr2
    obtain ⟨k, W', hk, rfl, hW', hkr, hbr, hgr⟩ := hrel
    by_cases hlt : k < xs.length
    · have hbs := hgr.size
      have g1 : wr.cell? ⟨g, 1, none⟩ = some (.int .i64 0) := hkr.cell 1
      have g2 : wr.cell? ⟨w.heap.size, 2, none⟩ = some (.slice A n c) := hbr.cell 2
      have hmv : ∀ q, S q → q < w.heap.size → S q ∧ wr.heap[q]? = w.heap[q]? := fun q h1 h2 => ⟨h1, hgr.block q h2 (fun e => by injection e with e; exact hS.out q h1 e)⟩
      obtain ⟨gi, o, a, b, cc, rfl, hSg, hgi, hrg, hone, hsit⟩ := items_at (hin.out.move hmv hbs) (hall.out.imp fun v x hx => hx.move _ _ _ hmv hbs) hn.out k hlt
      have hrg2 : wr.rangeAt gi (o + k * 3) [a, b, cc] := by rw [Nat.mul_comm k 3]; exact hrg
      have hs1 := hle.out (k + 1)
      rw [hstep.out k hlt, List.length_append] at hs1
      have hlimo := hlim.out
      have hcall := hw.out S g W' (.agg #[a, b, cc]) xs[k] wr hkr hS.out hsit (hfit.out _ (List.getElem_mem hlt)) (by omega)
      rw [hde.out] at hcall
      clear hrg hsit hs1 hlimo hmv
      replace hkr := Lib.hid hkr
      replace hbr := Lib.hid hbr
      replace hgr := Lib.hid hgr
      replace hW' := Lib.hid hW'
      have hlt' : (k : Int) < n := by have := hn.out; omega
      go_wp2_with (refine wpList_load_mid rfl 48 _ rfl gi (o + k * 3) rfl [a, b, cc] _ hrg2 Try.underlying48 rfl info_item3 ?_)
      refine hcall.mono ?_
      rintro e w5 ⟨rfl, W5, hW5, hk5, hg5⟩
      have hb5 := Lib.hid (hbr.out.grown hg5 (fun e => by have := hg; omega))
      have hgr5 := Lib.hid (hgr.out.trans hg5)
      replace hk5 := Lib.hid hk5
      replace hW5 := Lib.hid hW5
      clear hcall g1 g2 hg5
      go_wp2_with fail
      refine ⟨⟨k + 1, W5, by omega, by go_num, ?_, hk5.out, hb5.out, hgr5.out⟩, ?_⟩
      · rw [hstep.out k hlt, List.length_append]
        have h1 := hW5.out
        have h2 := hW'.out
        omega
      · simp [intOf]; omega
    · obtain rfl : k = xs.length := by omega
      rw [List.take_length] at hW'
      have g2 : wr.cell? ⟨w.heap.size, 2, none⟩ = some (.slice A n c) := hbr.cell 2
      have hlt' : ¬ (xs.length : Int) < n := by have := hn.out; omega
      replace hkr := Lib.hid hkr
      replace hbr := Lib.hid hbr
      replace hgr := Lib.hid hgr
      replace hW' := Lib.hid hW'
      go_wp2_with fail
      go_end0
      refine ⟨rfl, W', ?_, hkr.out, hgr.out⟩
      rw [← List.length_flatMap]
      exact hW'.out
theorem look_all : ∀ (d : Nat), d ≤ 8 → LookC d := by
  intro d
  induction d with
  | zero =>
    intro hd S g W v x w hk hS hsit hfit hlim
    match x, hsit, hfit, hlim with
    | .inl b, hsit, hfit, hlim =>
      obtain ⟨A, n, c, rfl, hn, hc, hm, hin⟩ := hsit
      have hle := encT_max b
      have hlim' : W + (Ns.encT b).length ≤ 16777215 := hlim
      refine (look_text g W (8 - 0) A n c w hk (by rw [hn]; omega)).mono ?_
      rintro e w' ⟨rfl, h1, h2⟩
      refine ⟨rfl, _, ?_, h1, h2⟩
      show W + max n 1 ≤ W + (Ns.encT b).length
      omega
    | .inr xs, _, hfit, _ => exact hfit.elim
  | succ d ih =>
    intro hd S g W v x w hk hS hsit hfit hlim
    match x, hsit, hfit, hlim with
    | .inl b, hsit, hfit, hlim =>
      obtain ⟨A, n, c, rfl, hn, hc, hm, hin⟩ := hsit
      have hle := encT_max b
      have hlim' : W + (Ns.encT b).length ≤ 16777215 := hlim
      refine (look_text g W (8 - (d + 1)) A n c w hk (by rw [hn]; omega)).mono ?_
      rintro e w' ⟨rfl, h1, h2⟩
      refine ⟨rfl, _, ?_, h1, h2⟩
      show W + max n 1 ≤ W + (Ns.encT b).length
      omega
    | .inr xs, hsit, hfit, hlim =>
      obtain ⟨A, n, c, vs, rfl, hn, hc, hm, hin, hall⟩ := hsit
      have hf : (xs.flatMap (Ns.enc (d + 1))).length ≤ Ns.maxBytes ∧ ∀ x ∈ xs, Ns.fit d x := hfit
      have he : (Ns.enc (d + 1 + 1) (.inr xs)).length = (Ns.head 192 (xs.flatMap (Ns.enc (d + 1))).length).length + (xs.flatMap (Ns.enc (d + 1))).length := by
        show (Ns.head 192 (xs.flatMap (Ns.enc (d + 1))).length ++ xs.flatMap (Ns.enc (d + 1))).length = _
        rw [List.length_append]
      have hp := Ns.head_pos 192 (xs.flatMap (Ns.enc (d + 1))).length
      rcases Nat.lt_or_ge d 7 with h7 | h7
      · refine (look_list1 d (ih (by omega)) S g (8 - (d + 1)) W (by omega) (by omega) (by omega) A n c vs xs w hk.lt hk hS hn hc hm hin hall hf.2 (W + 1) rfl (by omega)).mono ?_
        rintro e w' ⟨rfl, W', h0, h1, h2⟩
        exact ⟨rfl, W', by omega, h1, h2⟩
      · obtain rfl : d = 7 := by omega
        refine (look_list0 7 (ih (by omega)) S g 0 W (by omega) rfl (by omega) A n c vs xs w hk.lt hk hS hn hc hm hin hall hf.2 (by omega)).mono ?_
        rintro e w' ⟨rfl, W', h0, h1, h2⟩
        exact ⟨rfl, W', by omega, h1, h2⟩
end Go.Proofs.Yteknhmhmepnfjaa

/-
  Package nest: Encode, of items that may be written.
-/
namespace Go.Proofs.Yteknhmhmepnfjaa
open Go.RowKit

set_option maxHeartbeats 1000000 in
set_option maxRecDepth 100000 in
theorem nest_Encode (S : Nat → Prop) (v : Value) (x : Ns.It 9) (w : World) (hsit : Sits S w 9 v x) (hS : ∀ q, S q → q < w.heap.size) (hfit : Ns.fit 8 x) (hlim : (Ns.enc 9 x).length ≤ 16777215) (h55 : (Ns.body 9 x).length ≤ 55) :
    Calls Try.prog 28 #[v] w (PostBe w (Ns.enc 9 x) 0) := by
  obtain ⟨a, b, c, rfl, hcells, hone⟩ := hsit.cells
  have hbody := Ns.body_le 9 x
  have hbp : (Ns.body 9 x).length < 4611686018427387904 := by omega
  have hb1 : Blk ((w.alloc (.cells #[a, b, c] 48)).alloc (.cells #[.int .i64 0, .int .i64 0] 63)) w.heap.size 48 #[a, b, c] := (Blk.new w _ _).alloc _
  have hk1 : Blk ((w.alloc (.cells #[a, b, c] 48)).alloc (.cells #[.int .i64 0, .int .i64 0] 63)) (w.heap.size + 1) 63 #[.int .i64 ((0 : Nat) : Int), .int .i64 0] := Blk.new' (by simp)
  have hbe1 : Below w.heap.size w ((w.alloc (.cells #[a, b, c] 48)).alloc (.cells #[.int .i64 0, .int .i64 0] 63)) := ((Below.refl _ _).alloc (Nat.le_refl _) _).alloc (by simp) _
  have hsit1 : Sits S ((w.alloc (.cells #[a, b, c] 48)).alloc (.cells #[.int .i64 0, .int .i64 0] 63)) 9 (.agg #[a, b, c]) x := hsit.move _ _ _ (fun q h1 h2 => ⟨h1, hbe1.block q h2⟩) hbe1.size
  have hlook := look_all 8 (Nat.le_refl _) S (w.heap.size + 1) 0 _ x _ hk1 (fun q h e => by have := hS q h; omega) hsit1 hfit (by show 0 + (Ns.enc 9 x).length ≤ 16777215; omega)
  rw [show ((8 - 8 : Nat) : Int) = 0 from rfl] at hlook
  replace hk1 := Lib.hid hk1
  replace hbe1 := Lib.hid hbe1
  replace hsit := Lib.hid hsit
  replace hS := Lib.hid hS
  replace hfit := Lib.hid hfit
  clear hsit1
  go_enter Try.func28, Try.ntmps28
  go_wp2_with (refine wpList_load_row rfl 48 _ rfl w.heap.size rfl _ _ _ _ hb1 Try.underlying48 rfl info_item3 ?_)
  refine hlook.mono ?_
  rintro e w2 ⟨rfl, W, hW, hk2, hg2⟩
  have hb2 := hb1.grown hg2 (by omega)
  have hbe2 := hbe1.out.trans ⟨hg2.os, hg2.tape, hg2.output, hg2.size, fun k hk => hg2.block k (by simp; omega) (by simp; omega)⟩
  have hsit2 : Sits S w2 9 (.agg #[a, b, c]) x := hsit.out.move _ _ _ (fun q h1 h2 => ⟨h1, hbe2.block q h2⟩) hbe2.size
  have hbd := nest_body 8 S _ x w2 hsit2 hbp
  have e1 : w2.cell? ⟨w.heap.size + 1, 1, none⟩ = some (.int .i64 0) := hk2.cell 1
  have h24 : ((Ns.body 9 x).length : Int) ≤ 16777215 := by omega
  have hb2l := hb2.lt
  clear hlook hb1 hk1 hbe1 hg2 hk2
  replace hbe2 := Lib.hid hbe2
  replace hsit2 := Lib.hid hsit2
  obtain ⟨L, hL⟩ : ∃ L, L = (Ns.body 9 x).length := ⟨_, rfl⟩
  rw [← hL] at hbd h24
  replace hL := Lib.hid hL
  go_wp2_with (refine wpList_load_row rfl 48 _ rfl w.heap.size rfl _ _ _ _ hb2 Try.underlying48 rfl info_item3 ?_)
  refine hbd.mono ?_
  rintro e w3 ⟨rfl, hbe3⟩
  have hb3 := hb2.below hbe3 hb2l
  have hbw := hbe2.out.trans (hbe3.mono hbe2.out.size)
  have hsit3 : Sits S w3 9 (.agg #[a, b, c]) x := hsit2.out.move _ _ _ (fun q h1 h2 => ⟨h1, hbe3.block q h2⟩) hbe3.size
  have hwr := write_all 9 S none 0 0 w3.heap.size [] _ x w3 (World.ownsRow_nil _ _ _ _) rfl (Nat.le_refl _) (fun q h => Nat.lt_of_lt_of_le (hS.out q h) hbw.size) hsit3 (by show 0 + (Ns.enc 9 x).length ≤ _; omega) h55
  clear hbd e1 hb2 hbe3 hsit2 hsit3
  replace hbw := Lib.hid hbw
  go_wp2_with (refine wpList_load_row rfl 48 _ rfl w.heap.size rfl _ _ _ _ hb3 Try.underlying48 rfl info_item3 ?_)
  refine hwr.mono ?_
  rintro e w4 ⟨A', m', c', rfl, hown, hm', hgr, -⟩
  clear hwr hb3
  have hfin : NewB w w4 A' m' c' (Ns.enc 9 x) := new_of rfl hm' hbw.out hown ⟨hgr.os, hgr.tape, hgr.output, hgr.size, fun k hk => hgr.block k hk (by simp [Value.ownBlock])⟩
  replace hfin := Lib.hid hfin
  clear hown hgr hm'
  go_wp2_with fail
  go_ret2
  exact ⟨A', m', c', rfl, hfin.out⟩
end Go.Proofs.Yteknhmhmepnfjaa

/-
  Package nest: write, Encode, of items of any length that may be.
-/
namespace Go.Proofs.Yteknhmhmepnfjaa
open Go.RowKit

theorem Ns.head_big (base n : Nat) (h : 55 < n) : Ns.head base n = [UInt8.ofNat (base + 55 + (Wd.be 8 n).length)] ++ Wd.be 8 n := by unfold Ns.head; rw [if_neg (by omega)]; rfl
theorem write_any : ∀ (d : Nat), WriteA d
  | 0 => fun S A m c B l v x => nomatch x
  | d + 1 => by
    intro S A m c B l v x w hown hm hB hS hsit hlim h24
    match x, hsit, hlim, h24 with
    | .inl b, hsit, hlim, h24 =>
      have h24' : b.length ≤ 16777215 := h24
      rcases Nat.lt_or_ge 55 b.length with h55 | h55
      · obtain ⟨A2, n, c2, rfl, hn, hc, hcm, hin⟩ := hsit
        subst hn
        have he : Ns.enc (d + 1) (.inl b) = [UInt8.ofNat (128 + 55 + (Wd.be 8 b.length).length)] ++ Wd.be 8 b.length ++ b := by
          show Ns.encT b = _
          unfold Ns.encT
          rw [if_neg (fun e => by omega), Ns.head_big _ _ h55]
        have hk := Ns.be_short b.length h55 (by unfold Ns.maxBytes; omega)
        rw [he] at hlim ⊢
        simp only [List.length_append, List.length_singleton] at hlim
        rw [← List.append_assoc, ← List.append_assoc]
        exact write_text_long A m c B l A2 _ c2 b w hown hm hB ⟨rfl, hc, hcm, hin.reads fun g h _ => hS g h⟩ h55 h24' (by omega)
      · exact write_all (d + 1) S A m c B l v (.inl b) w hown hm hB hS hsit (by omega) h55
    | .inr xs, hsit, hlim, h24 =>
      have h24' : (xs.flatMap (Ns.enc d)).length ≤ 16777215 := h24
      rcases Nat.lt_or_ge 55 (xs.flatMap (Ns.enc d)).length with h55 | h55
      · obtain ⟨A2, n, c2, vs, rfl, hn, hc, hcm, hin, hall⟩ := hsit
        have he : Ns.enc (d + 1) (.inr xs) = [UInt8.ofNat (192 + 55 + (Wd.be 8 (xs.flatMap (Ns.enc d)).length).length)] ++ Wd.be 8 (xs.flatMap (Ns.enc d)).length ++ xs.flatMap (Ns.enc d) := by
          show Ns.head 192 (xs.flatMap (Ns.enc d)).length ++ xs.flatMap (Ns.enc d) = _
          rw [Ns.head_big _ _ h55]
        rw [he] at hlim ⊢
        simp only [List.length_append, List.length_singleton] at hlim
        rw [← List.append_assoc, ← List.append_assoc]
        exact write_list_long d (write_any d) S A m c B l A2 n c2 vs xs w hown hm hB hS hn hc hcm hin hall _ rfl h55 h24' (by omega)
      · exact write_all (d + 1) S A m c B l v (.inr xs) w hown hm hB hS hsit (by omega) h55
set_option maxHeartbeats 1000000 in
set_option maxRecDepth 100000 in
theorem nest_Encode_any (S : Nat → Prop) (v : Value) (x : Ns.It 9) (w : World) (hsit : Sits S w 9 v x) (hS : ∀ q, S q → q < w.heap.size) (hfit : Ns.fit 8 x) (hlim : (Ns.enc 9 x).length ≤ 16777215) :
    Calls Try.prog 28 #[v] w (PostBe w (Ns.enc 9 x) 0) := by
  obtain ⟨a, b, c, rfl, hcells, hone⟩ := hsit.cells
  have hbody := Ns.body_le 9 x
  have hbp : (Ns.body 9 x).length < 4611686018427387904 := by omega
  have hb1 : Blk ((w.alloc (.cells #[a, b, c] 48)).alloc (.cells #[.int .i64 0, .int .i64 0] 63)) w.heap.size 48 #[a, b, c] := (Blk.new w _ _).alloc _
  have hk1 : Blk ((w.alloc (.cells #[a, b, c] 48)).alloc (.cells #[.int .i64 0, .int .i64 0] 63)) (w.heap.size + 1) 63 #[.int .i64 ((0 : Nat) : Int), .int .i64 0] := Blk.new' (by simp)
  have hbe1 : Below w.heap.size w ((w.alloc (.cells #[a, b, c] 48)).alloc (.cells #[.int .i64 0, .int .i64 0] 63)) := ((Below.refl _ _).alloc (Nat.le_refl _) _).alloc (by simp) _
  have hsit1 : Sits S ((w.alloc (.cells #[a, b, c] 48)).alloc (.cells #[.int .i64 0, .int .i64 0] 63)) 9 (.agg #[a, b, c]) x := hsit.move _ _ _ (fun q h1 h2 => ⟨h1, hbe1.block q h2⟩) hbe1.size
  have hlook := look_all 8 (Nat.le_refl _) S (w.heap.size + 1) 0 _ x _ hk1 (fun q h e => by have := hS q h; omega) hsit1 hfit (by show 0 + (Ns.enc 9 x).length ≤ 16777215; omega)
  rw [show ((8 - 8 : Nat) : Int) = 0 from rfl] at hlook
  replace hk1 := Lib.hid hk1
  replace hbe1 := Lib.hid hbe1
  replace hsit := Lib.hid hsit
  replace hS := Lib.hid hS
  replace hfit := Lib.hid hfit
  clear hsit1
  go_enter Try.func28, Try.ntmps28
  go_wp2_with (refine wpList_load_row rfl 48 _ rfl w.heap.size rfl _ _ _ _ hb1 Try.underlying48 rfl info_item3 ?_)
  refine hlook.mono ?_
  rintro e w2 ⟨rfl, W, hW, hk2, hg2⟩
  have hb2 := hb1.grown hg2 (by omega)
  have hbe2 := hbe1.out.trans ⟨hg2.os, hg2.tape, hg2.output, hg2.size, fun k hk => hg2.block k (by simp; omega) (by simp; omega)⟩
  have hsit2 : Sits S w2 9 (.agg #[a, b, c]) x := hsit.out.move _ _ _ (fun q h1 h2 => ⟨h1, hbe2.block q h2⟩) hbe2.size
  have hbd := nest_body 8 S _ x w2 hsit2 hbp
  have e1 : w2.cell? ⟨w.heap.size + 1, 1, none⟩ = some (.int .i64 0) := hk2.cell 1
  have h24 : ((Ns.body 9 x).length : Int) ≤ 16777215 := by omega
  have hb2l := hb2.lt
  clear hlook hb1 hk1 hbe1 hg2 hk2
  replace hbe2 := Lib.hid hbe2
  replace hsit2 := Lib.hid hsit2
  obtain ⟨L, hL⟩ : ∃ L, L = (Ns.body 9 x).length := ⟨_, rfl⟩
  rw [← hL] at hbd h24
  replace hL := Lib.hid hL
  go_wp2_with (refine wpList_load_row rfl 48 _ rfl w.heap.size rfl _ _ _ _ hb2 Try.underlying48 rfl info_item3 ?_)
  refine hbd.mono ?_
  rintro e w3 ⟨rfl, hbe3⟩
  have hb3 := hb2.below hbe3 hb2l
  have hbw := hbe2.out.trans (hbe3.mono hbe2.out.size)
  have hsit3 : Sits S w3 9 (.agg #[a, b, c]) x := hsit2.out.move _ _ _ (fun q h1 h2 => ⟨h1, hbe3.block q h2⟩) hbe3.size
  have hwr := write_any 9 S none 0 0 w3.heap.size [] _ x w3 (World.ownsRow_nil _ _ _ _) rfl (Nat.le_refl _) (fun q h => Nat.lt_of_lt_of_le (hS.out q h) hbw.size) hsit3 (by show 0 + (Ns.enc 9 x).length + 8 ≤ _; omega) (by omega)
  clear hbd e1 hb2 hbe3 hsit2 hsit3
  replace hbw := Lib.hid hbw
  go_wp2_with (refine wpList_load_row rfl 48 _ rfl w.heap.size rfl _ _ _ _ hb3 Try.underlying48 rfl info_item3 ?_)
  refine hwr.mono ?_
  rintro e w4 ⟨A', m', c', rfl, hown, hm', hgr, -⟩
  clear hwr hb3
  have hfin : NewB w w4 A' m' c' (Ns.enc 9 x) := new_of rfl hm' hbw.out hown ⟨hgr.os, hgr.tape, hgr.output, hgr.size, fun k hk => hgr.block k hk (by simp [Value.ownBlock])⟩
  replace hfin := Lib.hid hfin
  clear hown hgr hm'
  go_wp2_with fail
  go_ret2
  exact ⟨A', m', c', rfl, hfin.out⟩
end Go.Proofs.Yteknhmhmepnfjaa

/-
  Package node: ref (what an item names).
-/
namespace Go.Proofs.Yteknhmhmepnfjaa
open Go.RowKit

/-- 'copy(a[:], b)' into a row that is known whole -/
theorem wp_copy_row {P : Program} {o : Oper} {a : Act} {w : World} {K : Act → World → Prop} {Q : Exit → Act → World → Prop} (d s : Operand) (dT sT elem : TypeId)
    (ho : o.op = .call { callee := .builtin .copy, args := #[d, s], argTypes := #[dT, sT] }) (g off dLen dCap : Nat) (ad : Addr) (sLen sCap : Nat) (cur : Array Value) (t : TypeId) (cs : List Value)
    (hd : a.eval d = .slice (some ⟨g, off, none⟩) dLen dCap) (hs : a.eval s = .slice (some ad) sLen sCap)
    (hu : P.underlying dT = some (.slice elem)) (hi : (P.info? elem).map (·.size) = some 1) (hg : w.heap[g]? = some (.cells cur t (0, 0))) (hn : cs.length = Nat.min sLen dLen)
    (hsrc : ∀ j v, cs[j]? = some v → w.cell? (ad.add j) = some v) (hfit : off + cs.length ≤ cur.size) (h1 : ∀ v ∈ cs, v.oneCell' = true)
    (h : K (a.put o.dst (goInt cs.length)) (w.setRow g (cur.toList.take off ++ cs ++ cur.toList.drop (off + cs.length)).toArray)) : o.wp P a w K Q := by
  have hrun := run_copy_row P w dT sT o.type elem g off dLen dCap ad sLen sCap cur t cs hu hi hg hn hsrc hfit h1
  unfold Oper.wp execOp
  simp only [ho, resolve, invoke, builtin, Sem.run_bind, Sem.run_pure, Result.andThen_ok, List.map_toArray, List.map_cons, List.map_nil, hd, hs, hrun]
  exact h
/-- what ref answers -/
def RefQ (x : Ns.It 8) (w : World) (e : Ending) (w' : World) : Prop := Below w.heap.size w w' ∧ ∃ v, e = .returned (.tuple #[v, .bool (Nd.refOf x).2]) ∧ RefIn (Fr w' w.heap.size) w' v (Nd.refOf x).1
theorem refRow_z (k : Int) (A : Option Addr) (n c : Nat) : refRow k Nd.z32 A n c = #[.int .i64 k, .int .u8 0, .int .u8 0, .int .u8 0, .int .u8 0, .int .u8 0, .int .u8 0, .int .u8 0, .int .u8 0, .int .u8 0, .int .u8 0, .int .u8 0, .int .u8 0, .int .u8 0, .int .u8 0, .int .u8 0, .int .u8 0, .int .u8 0, .int .u8 0, .int .u8 0, .int .u8 0, .int .u8 0, .int .u8 0, .int .u8 0, .int .u8 0, .int .u8 0, .int .u8 0, .int .u8 0, .int .u8 0, .int .u8 0, .int .u8 0, .int .u8 0, .int .u8 0, .slice A n c] := rfl
/-- a digest is being read out of a text of 32 bytes -/
structure RefC (w : World) (ga oa c : Nat) (z : Value) (W : World) : Prop where
  it : Blk W w.heap.size 48 #[.bool false, .slice (some ⟨ga, oa, none⟩) 32 c, z]
  res : Blk W (w.heap.size + 1) 26 refZ
  r : Blk W (w.heap.size + 2) 26 (refRow 2 Nd.z32 none 0 0)
  bel : Below w.heap.size w W
set_option maxHeartbeats 2000000 in
set_option maxRecDepth 100000 in
theorem node_ref (S : Nat → Prop) (v : Value) (x : Ns.It 8) (w : World) (hsit : Sits S w 8 v x) (hS : ∀ q, S q → q < w.heap.size) (hfit : Ns.fit 7 x) (hlim : (Ns.enc 8 x).length ≤ 16777215) :
    Calls Try.prog 51 #[v] w (RefQ x w) := by
  have hslot := hsit.row
  have hup := Sits.up 8 v x hsit
  obtain ⟨A, n, c, z, rfl, hn, hc, hm, hin, hz⟩ := hslot
  have hb1 : Blk ((w.alloc (.cells #[.bool (isList x), .slice A n c, z] 48)).alloc (.cells refZ 26)) w.heap.size 48 #[.bool (isList x), .slice A n c, z] := (Blk.new w _ _).alloc _
  have hr1 : Blk ((w.alloc (.cells #[.bool (isList x), .slice A n c, z] 48)).alloc (.cells refZ 26)) (w.heap.size + 1) 26 refZ := Blk.new' (by simp)
  have hbe1 : Below w.heap.size w ((w.alloc (.cells #[.bool (isList x), .slice A n c, z] 48)).alloc (.cells refZ 26)) := ((Below.refl _ _).alloc (Nat.le_refl _) _).alloc (by simp) _
  have hsz1 : ((w.alloc (.cells #[.bool (isList x), .slice A n c, z] 48)).alloc (.cells refZ 26)).heap.size = w.heap.size + 2 := by simp
  have hBy : Bytes w w.heap.size A n c (bytesOf x) := ⟨hn, hc, hm, hin.reads fun g _ h => h⟩
  replace hBy := Lib.hid hBy
  replace hS := Lib.hid hS
  replace hfit := Lib.hid hfit
  replace hbe1 := Lib.hid hbe1
  replace hsz1 := Lib.hid hsz1
  clear hin hsit hc hm
  cases hl : isList x with
  | true =>
    rw [hl] at hb1 hr1 hbe1 hsz1 hup
    have hro : Nd.refOf x = (⟨1, Nd.z32, Ns.enc 8 x⟩, decide ((Ns.enc 8 x).length < 32)) := by unfold Nd.refOf; rw [if_pos hl]
    have hen := nest_Encode_any S (.agg #[.bool true, .slice A n c, z]) (Ns.up 8 x) _ (hup.move _ _ _ (fun q h1 h2 => ⟨h1, hbe1.out.block q h2⟩) hbe1.out.size) (fun q h => by have := hS.out q h; rw [hsz1.out]; omega) (Ns.fit_up 7 x hfit.out) (by rw [Ns.enc_up]; exact hlim)
    rw [Ns.enc_up] at hen
    replace hro := Lib.hid hro
    clear hup hn
    replace hr1 := Lib.hid hr1
    go_enter Try.func51, Try.ntmps51
    have g0 : ((w.alloc (.cells #[.bool true, .slice A n c, z] 48)).alloc (.cells refZ 26)).cell? ⟨w.heap.size, 0, none⟩ = some (.bool true) := hb1.cell 0
    go_wp2_with (refine wpList_load_row rfl 48 _ rfl w.heap.size rfl _ _ _ _ hb1 Try.underlying48 rfl info_item3 ?_)
    refine hen.mono ?_
    rintro e w2 ⟨A2, n2, c2, rfl, hN⟩
    have hn2 := hN.1
    have hr2 := hr1.out.below hN.2.2 (by rw [hsz1.out]; omega)
    have hbe2 := hbe1.out.trans (hN.2.2.mono hbe1.out.size)
    have hO := Own.of_row hN.2.1
    have hres : RefIn (Fr (w2.setRow (w.heap.size + 1) (refRow 1 Nd.z32 A2 n2 c2)) w.heap.size) (w2.setRow (w.heap.size + 1) (refRow 1 Nd.z32 A2 n2 c2)) (.agg (refRow 1 Nd.z32 A2 n2 c2)) ⟨1, Nd.z32, Ns.enc 8 x⟩ :=
      ⟨A2, n2, c2, rfl, rfl, hn2, hO.cap, hO.lim, (InS.of_ownF hO).move (fun q h1 h2 => have h3 : w.heap.size + 2 ≤ q := hsz1.out ▸ h1.1; have e := setRow_other w2 (w.heap.size + 1) q (refRow 1 Nd.z32 A2 n2 c2) (by omega); ⟨h1.move e (by omega), e⟩) (by simp)⟩
    have hbe3 := below_row hbe2 (show w.heap.size ≤ w.heap.size + 1 by omega) (refRow 1 Nd.z32 A2 n2 c2)
    clear hen hN hO hb1 g0 hlim
    replace hn2 := Lib.hid hn2
    replace hres := Lib.hid hres
    replace hbe3 := Lib.hid hbe3
    by_cases h32 : n2 < 32
    · have h32' :  (n2 : Int) < 32 := by omega
      have hfl := Lib.hid (show decide ((Ns.enc 8 x).length < 32) = true by rw [← hn2.out]; simp; omega)
      clear h32
      go_wp2_with (refine wpList_store_row rfl 26 _ _ rfl (w.heap.size + 1) (refRow 1 Nd.z32 A2 n2 c2) rfl rfl _ _ hr2 (by rw [refRow_size rfl]; exact info_ref) (by rw [refRow_size rfl]; rfl) (refRow_one _ _ _ _ _) ?_)
      refine bodyPost_ret (v := .tuple #[.agg (refRow 1 Nd.z32 A2 n2 c2), .bool true]) (results_row_tmp rfl _ _ (w.heap.size + 1) _ (refRow 1 Nd.z32 A2 n2 c2) _ _ _ rfl rfl (hr2.row _) Try.underlying26 rfl (by rw [refRow_size rfl]; exact info_ref)) rfl ?_
      refine ⟨hbe3.out, .agg (refRow 1 Nd.z32 A2 n2 c2), ?_, ?_⟩
      · rw [hro.out]; simp only; rw [hfl.out]
      · rw [hro.out]; exact hres.out
    · have h32' : ¬ (n2 : Int) < 32 := by omega
      have h32d : decide ((n2 : Int) < 32) = false := decide_eq_false h32'
      have hfl := Lib.hid (show decide ((Ns.enc 8 x).length < 32) = false by rw [← hn2.out]; simp; omega)
      clear h32
      go_wp2_with (refine wpList_store_row rfl 26 _ _ rfl (w.heap.size + 1) (refRow 1 Nd.z32 A2 n2 c2) rfl rfl _ _ hr2 (by rw [refRow_size rfl]; exact info_ref) (by rw [refRow_size rfl]; rfl) (refRow_one _ _ _ _ _) ?_)
      refine bodyPost_ret (v := .tuple #[.agg (refRow 1 Nd.z32 A2 n2 c2), .bool false]) (results_row_tmp rfl _ _ (w.heap.size + 1) _ (refRow 1 Nd.z32 A2 n2 c2) _ _ _ rfl rfl (hr2.row _) Try.underlying26 rfl (by rw [refRow_size rfl]; exact info_ref)) rfl ?_
      refine ⟨hbe3.out, .agg (refRow 1 Nd.z32 A2 n2 c2), ?_, ?_⟩
      · rw [hro.out]; simp only; rw [hfl.out]
      · rw [hro.out]; exact hres.out
  | false =>
    rw [hl] at hb1 hr1 hbe1 hsz1
    have g0 : ((w.alloc (.cells #[.bool false, .slice A n c, z] 48)).alloc (.cells refZ 26)).cell? ⟨w.heap.size, 0, none⟩ = some (.bool false) := hb1.cell 0
    have g1 : ((w.alloc (.cells #[.bool false, .slice A n c, z] 48)).alloc (.cells refZ 26)).cell? ⟨w.heap.size, 1, none⟩ = some (.slice A n c) := hb1.cell 1
    have hro0 : Nd.refOf x = if (bytesOf x).length = 0 then (Nd.rf0, true) else if (bytesOf x).length = 32 then (⟨2, bytesOf x, []⟩, true) else (Nd.rf0, false) := by unfold Nd.refOf; rw [if_neg (by rw [hl]; simp)]
    have hzero : RefIn (Fr (((w.alloc (.cells #[.bool false, .slice A n c, z] 48)).alloc (.cells refZ 26)).setRow (w.heap.size + 1) (refRow 0 Nd.z32 none 0 0)) w.heap.size) (((w.alloc (.cells #[.bool false, .slice A n c, z] 48)).alloc (.cells refZ 26)).setRow (w.heap.size + 1) (refRow 0 Nd.z32 none 0 0)) (.agg (refRow 0 Nd.z32 none 0 0)) Nd.rf0 := ⟨none, 0, 0, rfl, rfl, rfl, Nat.le_refl _, by unfold maxLen; omega, ⟨rfl, fun h => by omega⟩⟩
    have hbeZ := below_row hbe1.out (show w.heap.size ≤ w.heap.size + 1 by omega) (refRow 0 Nd.z32 none 0 0)
    generalize bytesOf x = b at *
    replace hzero := Lib.hid hzero
    replace hbeZ := Lib.hid hbeZ
    replace hn := Lib.hid hn
    clear hup
    by_cases h0 : n = 0
    · have hro := Lib.hid (show Nd.refOf x = (Nd.rf0, true) by rw [hro0, if_pos (by rw [← hn.out]; exact h0)])
      have h0' : (n : Int) = 0 := by omega
      clear hro0 h0
      go_enter Try.func51, Try.ntmps51
      go_wp2_with (refine wpList_store_row rfl 26 _ _ rfl (w.heap.size + 1) (refRow 0 Nd.z32 none 0 0) rfl rfl _ _ hr1 (by rw [refRow_size rfl]; exact info_ref) (by rw [refRow_size rfl]; rfl) (refRow_one _ _ _ _ _) ?_)
      refine bodyPost_ret (v := .tuple #[.agg (refRow 0 Nd.z32 none 0 0), .bool true]) (results_row_tmp rfl _ _ (w.heap.size + 1) _ (refRow 0 Nd.z32 none 0 0) _ _ _ rfl rfl (hr1.row _) Try.underlying26 rfl (by rw [refRow_size rfl]; exact info_ref)) rfl ?_
      exact ⟨hbeZ.out, _, by rw [hro.out], by rw [hro.out]; exact hzero.out⟩
    have h0' : ¬ (n : Int) = 0 := by omega
    by_cases h32 : n = 32
    · have hbl : b.length = 32 := by rw [← hn.out]; exact h32
      have hro := Lib.hid (show Nd.refOf x = (⟨2, b, []⟩, true) by rw [hro0, if_neg (by omega), if_pos hbl])
      obtain ⟨ga, oa, rfl, hga, hcl⟩ := hBy.out.reads.2 (by omega)
      subst h32
      have hw2b : Below w.heap.size w ((((w.alloc (.cells #[.bool false, .slice (some ⟨ga, oa, none⟩) 32 c, z] 48)).alloc (.cells refZ 26)).alloc (.cells refZ 26)).setRow (w.heap.size + 2) (refRow 2 Nd.z32 none 0 0)) := below_row (hbe1.out.alloc hbe1.out.size _) (by omega) _
      have hI : RefC w ga oa c z ((((w.alloc (.cells #[.bool false, .slice (some ⟨ga, oa, none⟩) 32 c, z] 48)).alloc (.cells refZ 26)).alloc (.cells refZ 26)).setRow (w.heap.size + 2) (refRow 2 Nd.z32 none 0 0)) := by
        refine ⟨?_, ?_, ?_, hw2b⟩
        · exact (hb1.alloc _).row_far _ (by omega)
        · exact (hr1.alloc _).row_far _ (by omega)
        · exact (Blk.new' hsz1.out.symm).row _
      replace hI := Lib.hid hI
      replace hbl := Lib.hid hbl
      clear hro0 hw2b hb1 hr1
      go_enter Try.func51, Try.ntmps51
      go_wp2_with (refine wpList_store_row rfl 26 _ _ rfl (w.heap.size + 2) (refRow 2 Nd.z32 none 0 0) rfl rfl _ _ (Blk.new' (w := ((w.alloc (.cells #[.bool false, .slice (some ⟨ga, oa, none⟩) 32 c, z] 48)).alloc (.cells refZ 26))) (cs := refZ) (t := 26) hsz1.out.symm) (by rw [refRow_size rfl]; exact info_ref) (by rw [refRow_size rfl]; rfl) (refRow_one _ _ _ _ _) ?_; refine list_at (RefC w ga oa c z) hI.out ?_; intro w3 hI3; replace hI3 := Lib.hid hI3)
      simp only [Act.put]
      have hrow : ((refRow 2 Nd.z32 none 0 0).toList.take 1 ++ bv b ++ (refRow 2 Nd.z32 none 0 0).toList.drop (1 + (bv b).length)).toArray = refRow 2 b none 0 0 := by
        rw [bv_length, hbl.out]; rfl
      have hcl3 : ∀ (j : Nat) (u : Value), (bv b)[j]? = some u → w3.drew.cell? (Addr.add ⟨ga, oa, none⟩ j) = some u := fun j u hu => by
        rw [add_mk]
        exact (hI3.out.bel.cell (p := ⟨ga, oa + j, none⟩) hga).trans (hcl j u hu)
      clear hcl g0 g1 hI
      refine wp_region_M (M := [4]) (S := (fun W => W.cell? ⟨w.heap.size, 1, none⟩ = some (.slice (some ⟨ga, oa, none⟩) 32 c))) (by kernel_rfl) (by exact hI3.out.it.drew.cell 1) (fun hS => ?_)
      (refine mPure (i := 0) (v := ?v1) rfl (by kernel_rfl) (fun _ _ _ h => h) (Or.inl ⟨by rfl, ?y1⟩) (.inr hS) ?r1; (case y1 => (intro W hW; clear hW; go_simp; (try with_reducible rfl); done)); try simp only [Act.put, List.setIfInBounds_toArray, List.set_cons_zero, List.set_cons_succ])
      (refine mPure (i := 1) (v := ?v2) rfl (by kernel_rfl) (fun _ _ _ h => h) (Or.inl ⟨by rfl, ?y2⟩) (.inr hS) ?r2; (case y2 => (intro W hW; clear hW; go_simp; (try with_reducible rfl); done)); try simp only [Act.put, List.setIfInBounds_toArray, List.set_cons_zero, List.set_cons_succ])
      (refine mPure (i := 2) (v := ?v3) rfl (by kernel_rfl) (fun _ _ _ h => h) (Or.inl ⟨by rfl, ?y3⟩) (.inr hS) ?r3; (case y3 => (intro W hW; clear hW; go_simp; (try with_reducible rfl); done)); try simp only [Act.put, List.setIfInBounds_toArray, List.set_cons_zero, List.set_cons_succ])
      (refine mTake (i := 3) (v := ?v4) rfl (by kernel_rfl) (fun _ _ _ h => h) (Or.inl ⟨by rfl, ?y4⟩) hS ?r4; (case y4 => (intro W hW; ((have g := hW; go_simp)); (try with_reducible rfl); done)); try simp only [Act.put, List.setIfInBounds_toArray, List.set_cons_zero, List.set_cons_succ])
      (refine mOne (i := 4) rfl (by kernel_rfl) (fun K hK => ?_))
      rw [if_pos (by rfl)]
      refine wp_copy_row _ _ 22 22 5 rfl (w.heap.size + 2) 1 32 32 ⟨ga, oa, none⟩ 32 c (refRow 2 Nd.z32 none 0 0) 26 (bv b) rfl rfl Try.underlying22 (by kernel_rfl) hI3.out.r.drew (by rw [bv_length, hbl.out]; rfl) hcl3 (by rw [bv_length, hbl.out, refRow_size rfl]; omega) (bv_one b) ?_
      rw [hrow]
      (refine hK.out _ _ (.inl ⟨4, by simp, by kernel_rfl⟩) ?_; clear hK K; try simp only [Act.put, List.setIfInBounds_toArray, List.set_cons_zero, List.set_cons_succ])
      refine wpAnyM_done (by kernel_rfl) ?_ _
      have hr5 : Blk (w3.drew.setRow (w.heap.size + 2) (refRow 2 b none 0 0)) (w.heap.size + 2) 26 (refRow 2 b none 0 0) := hI3.out.r.drew.row _
      have hq5 : Blk (w3.drew.setRow (w.heap.size + 2) (refRow 2 b none 0 0)) (w.heap.size + 1) 26 refZ := hI3.out.res.drew.row_far _ (by omega)
      have hb5 := below_row hI3.out.bel.drew (show w.heap.size ≤ w.heap.size + 2 by omega) (refRow 2 b none 0 0)
      have hres : RefIn (Fr ((w3.drew.setRow (w.heap.size + 2) (refRow 2 b none 0 0)).setRow (w.heap.size + 1) (refRow 2 b none 0 0)) w.heap.size) ((w3.drew.setRow (w.heap.size + 2) (refRow 2 b none 0 0)).setRow (w.heap.size + 1) (refRow 2 b none 0 0)) (.agg (refRow 2 b none 0 0)) ⟨2, b, []⟩ := ⟨none, 0, 0, rfl, hbl.out, rfl, Nat.le_refl _, by unfold maxLen; omega, ⟨rfl, fun h => by omega⟩⟩
      have hb6 := below_row hb5 (show w.heap.size ≤ w.heap.size + 1 by omega) (refRow 2 b none 0 0)
      replace hres := Lib.hid hres
      replace hb6 := Lib.hid hb6
      clear hb5 hcl3 hrow
      go_wp2_with (first
        | (refine wpList_load_row rfl 26 _ rfl (w.heap.size + 2) rfl _ _ _ _ hr5 Try.underlying26 rfl (by rw [refRow_size hbl.out]; exact info_ref) ?_)
        | (refine wpList_store_row rfl 26 _ _ rfl (w.heap.size + 1) (refRow 2 b none 0 0) rfl rfl _ _ hq5 (by rw [refRow_size hbl.out]; exact info_ref) (by rw [refRow_size hbl.out]; rfl) (refRow_one _ _ _ _ _) ?_))
      refine bodyPost_ret (v := .tuple #[.agg (refRow 2 b none 0 0), .bool true]) (results_row_tmp rfl _ _ (w.heap.size + 1) _ (refRow 2 b none 0 0) _ _ _ rfl rfl (hq5.row _) Try.underlying26 rfl (by rw [refRow_size hbl.out]; exact info_ref)) rfl ?_
      exact ⟨hb6.out, _, by rw [hro.out], by rw [hro.out]; exact hres.out⟩
    · have hro := Lib.hid (show Nd.refOf x = (Nd.rf0, false) by rw [hro0, if_neg (by rw [← hn.out]; exact h0), if_neg (by rw [← hn.out]; exact h32)])
      have h32' : ¬ (n : Int) = 32 := by omega
      clear hro0 h0 h32
      go_enter Try.func51, Try.ntmps51
      go_wp2_with (refine wpList_store_row rfl 26 _ _ rfl (w.heap.size + 1) (refRow 0 Nd.z32 none 0 0) rfl rfl _ _ hr1 (by rw [refRow_size rfl]; exact info_ref) (by rw [refRow_size rfl]; rfl) (refRow_one _ _ _ _ _) ?_)
      refine bodyPost_ret (v := .tuple #[.agg (refRow 0 Nd.z32 none 0 0), .bool false]) (results_row_tmp rfl _ _ (w.heap.size + 1) _ (refRow 0 Nd.z32 none 0 0) _ _ _ rfl rfl (hr1.row _) Try.underlying26 rfl (by rw [refRow_size rfl]; exact info_ref)) rfl ?_
      exact ⟨hbeZ.out, _, by rw [hro.out], by rw [hro.out]; exact hzero.out⟩
end Go.Proofs.Yteknhmhmepnfjaa

/-
  Nodes built of parts.
-/
namespace Go.Proofs.Yteknhmhmepnfjaa
open Go.RowKit

theorem list_fold_set (off : Nat) : ∀ (l : List Value) (k : Nat) (cs : Array Value), off + k + l.length ≤ cs.size →
    (l.zipIdx k).foldl (fun (cs : Array Value) (p : Value × Nat) => cs.setIfInBounds (off + p.2) p.1) cs = (cs.toList.take (off + k) ++ l ++ cs.toList.drop (off + k + l.length)).toArray
  | [], k, cs, _ => by simp
  | v :: l, k, cs, h => by
    rw [List.zipIdx_cons, List.foldl_cons, list_fold_set off l (k + 1) _ (by simp at h ⊢; omega)]
    simp only [List.length_cons] at h
    apply Array.ext'
    simp only [Array.toList_setIfInBounds]
    apply List.ext_getElem?
    intro i
    simp only [List.append_assoc, List.getElem?_append, List.getElem?_drop, List.getElem?_take, List.length_append, List.length_take, List.length_set, List.getElem?_set, List.length_cons, List.getElem?_cons, Array.length_toList]
    have hk : min (off + (k + 1)) cs.size = off + k + 1 := by omega
    have hk2 : min (off + k) cs.size = off + k := by omega
    rw [hk, hk2]
    by_cases h1 : i < off + k
    · rw [if_pos (by omega), if_pos (by omega), if_pos h1, if_pos h1]
      rw [if_neg (by omega)]
    · by_cases h2 : i = off + k
      · subst h2
        rw [if_pos (by omega), if_pos (by omega), if_neg h1]
        simp
        omega
      · rw [if_neg (by omega), if_neg h1]
        by_cases h3 : i < off + k + 1 + l.length
        · rw [if_pos (by omega), if_pos (by omega), if_neg (by omega)]
          congr 1 <;> omega
        · rw [if_neg (by omega), if_neg (by omega), if_neg (by omega)]
          congr 1 <;> omega
theorem fold_set (v : Value) (l : List Value) (hv : v.cells.toList = l) (off : Nat) (cs : Array Value) (h : off + l.length ≤ cs.size) :
    (v.cells.zipIdx.foldl (fun (cs : Array Value) (p : Value × Nat) => cs.setIfInBounds (off + p.2) p.1) cs) = (cs.toList.take off ++ l ++ cs.toList.drop (off + l.length)).toArray := by
  rw [← Array.foldl_toList, Array.toList_zipIdx, hv]
  exact list_fold_set off l 0 cs (by simpa using h)
def nodPlaces : Array (Nat × Nat) := #[(0, 1), (1, 1), (2, 1), (3, 34), (37, 1)]
theorem built_node (parts : List (Nat × Value)) : Try.prog.built 29 parts = Instr.fill (nodPlaces[·]?) noZ parts := by kernel_rfl
theorem wpList_built {P : Program} {ops : Array Oper} {rest : List Oper} {o : Oper} {a : Act} {w : World} {Q : Exit → Act → World → Prop} (hg : o.guard = none) (t : TypeId) (parts : Array (Nat × Operand)) (ho : o.op = .build t parts) (cells : Array Value)
    (hb : P.built t (parts.map fun (i, x) => (i, a.eval x)).toList = some cells)
    (h : wpList P ops Q rest (a.put o.dst (.agg cells)) w) : wpList P ops Q (o :: rest) a w :=
  wpList_build hg t parts ho (by rw [hb]; rfl) (by rw [hb]; exact h)
theorem built_ext (k : Int) (A : Option Addr) (n c : Nat) (rk : Int) (rd : List UInt8) (hd : rd.length = 32) (A' : Option Addr) (n' c' : Nat) :
    Try.prog.built 29 [(0, .int .i64 k), (1, .slice A n c), (3, .agg (refRow rk rd A' n' c'))] = some (nodRow k A n c none 0 0 rk rd A' n' c' none 0 0) := by
  rw [built_node]
  have hs : (refRow rk rd A' n' c').size = 34 := refRow_size hd
  have e1 : Instr.fill (nodPlaces[·]?) noZ [(0, .int .i64 k), (1, .slice A n c), (3, .agg (refRow rk rd A' n' c'))] = Instr.fill (nodPlaces[·]?) (nodRow k A n c none 0 0 0 Nd.z32 none 0 0 none 0 0) [(3, .agg (refRow rk rd A' n' c'))] := by rfl
  rw [e1]
  have hz : (nodRow k A n c none 0 0 0 Nd.z32 none 0 0 none 0 0).size = 38 := nodRow_size rfl
  have hl : (refCells rk rd A' n' c').length = 34 := refCells_length hd
  have hf := fold_set (.agg (refRow rk rd A' n' c')) (refCells rk rd A' n' c') rfl 3 (nodRow k A n c none 0 0 0 Nd.z32 none 0 0 none 0 0) (by rw [hl, hz]; omega)
  unfold Instr.fill
  have hp : nodPlaces[3]? = some (3, 34) := rfl
  simp only [hp]
  rw [if_neg (by
    show ¬ ((decide ((refRow rk rd A' n' c').size ≠ 34) || decide (3 + (refRow rk rd A' n' c').size > (nodRow k A n c none 0 0 0 Nd.z32 none 0 0 none 0 0).size)) = true)
    rw [hs, hz]; decide)]
  unfold Instr.fill
  rw [hf]
  congr 1
  rw [hl]
  rfl
end Go.Proofs.Yteknhmhmepnfjaa

/-
  Package node: two (a leaf, or an extension, out of two items).
-/
namespace Go.Proofs.Yteknhmhmepnfjaa
open Go.RowKit

/-- what two and many answer -/
def ShpQ (S : Nat → Prop) (x : Nd.No) (ok : Bool) (w : World) (e : Ending) (w' : World) : Prop := Below w.heap.size w w' ∧ ∃ v, e = .returned (.tuple #[v, .bool ok]) ∧ NodIn (fun q => S q ∨ Fr w' w.heap.size q) w' v x
/-- in the midst of two -/
structure TwoI (w : World) (rp ro : Array Value) (W : World) : Prop where
  p : Blk W w.heap.size 48 rp
  o : Blk W (w.heap.size + 1) 48 ro
  n : Blk W (w.heap.size + 2) 29 noZ
  bel : Below w.heap.size w W
  sz : w.heap.size + 3 ≤ W.heap.size
theorem TwoI.step {w W W' : World} {rp ro : Array Value} (h : TwoI w rp ro W) (hb : Below W.heap.size W W') : TwoI w rp ro W' := by
  have := h.sz
  exact ⟨h.p.below hb h.p.lt, h.o.below hb h.o.lt, h.n.below hb h.n.lt, h.bel.trans (hb.mono h.bel.size), Nat.le_trans h.sz hb.size⟩
theorem NodIn.zero (S : Nat → Prop) (w : World) : NodIn S w (.agg noZ) Nd.no0 :=
  ⟨none, 0, 0, none, 0, 0, none, 0, 0, none, 0, 0, [], rfl, rfl, ⟨rfl, Nat.le_refl _, by unfold maxLen; omega, ⟨rfl, fun h => by omega⟩⟩, ⟨rfl, Nat.le_refl _, by unfold maxLen; omega, ⟨rfl, fun h => by omega⟩⟩, ⟨rfl, Nat.le_refl _, by unfold maxLen; omega, ⟨rfl, fun h => by omega⟩⟩, rfl, Nat.le_refl _, by unfold maxLen; omega, ⟨rfl, fun h => by omega⟩, All2.nil⟩
theorem nodRow_one (k ck : Int) (Ap Av Ac Ak : Option Addr) (np cp nv cv nc cc nk kk : Nat) (cd : List UInt8) : (nodRow k Ap np cp Av nv cv ck cd Ac nc cc Ak nk kk).all (·.oneCell') = true :=
  Array.all_eq_true_iff_forall_mem.2 (by intro u hu; exact nodCells_one k ck Ap Av Ac Ak np cp nv cv nc cc nk kk cd u (by simpa [nodRow] using hu))
theorem noZ_one : noZ.all (·.oneCell') = true := by kernel_rfl
set_option maxHeartbeats 2000000 in
set_option maxRecDepth 100000 in
theorem node_two (S : Nat → Prop) (vp vo : Value) (p o : Ns.It 8) (w : World) (hsp : Sits S w 8 vp p) (hso : Sits S w 8 vo o) (hS : ∀ q, S q → q < w.heap.size) (hfp : (bytesOf p).length ≤ 16777215) (hfo : Ns.fit 7 o) (hlim : (Ns.enc 8 o).length ≤ 16777215) :
    Calls Try.prog 34 #[vp, vo] w (ShpQ S (Nd.two p o).1 (Nd.two p o).2 w) := by
  have hso2 := hso
  obtain ⟨A, n, c, z, rfl, hn, hc, hm, hin, hz⟩ := hsp.row
  obtain ⟨A2, n2, c2, z2, rfl, hn2, hc2, hm2, hin2, hz2⟩ := hso.row
  have hW : TwoI w #[.bool (isList p), .slice A n c, z] #[.bool (isList o), .slice A2 n2 c2, z2] (((w.alloc (.cells #[.bool (isList p), .slice A n c, z] 48)).alloc (.cells #[.bool (isList o), .slice A2 n2 c2, z2] 48)).alloc (.cells noZ 29)) :=
    ⟨((Blk.new w _ _).alloc _).alloc _, (Blk.new' (by simp)).alloc _, Blk.new' (by simp), (((Below.refl _ _).alloc (Nat.le_refl _) _).alloc (by simp) _).alloc (by simp; omega) _, by simp⟩
  have hB : Bytes w w.heap.size A n c (bytesOf p) := ⟨hn, hc, hm, hin.reads fun g _ h => h⟩
  have hlen := hB.len
  have hun := nib_Unpack (bytesOf p) A n c w.heap.size (((w.alloc (.cells #[.bool (isList p), .slice A n c, z] 48)).alloc (.cells #[.bool (isList o), .slice A2 n2 c2, z2] 48)).alloc (.cells noZ 29)) (hB.below hW.bel) (by have := hW.sz; omega) (by omega)
  have hT : Nd.two p o = if (Nib.unpack (bytesOf p)).isSome = false ∨ isList p = true then (Nd.no0, false)
      else if Nib.unpackB (bytesOf p) = true then (⟨1, Nib.unpackL (bytesOf p), bytesOf o, Nd.rf0, []⟩, !isList o)
      else (⟨2, Nib.unpackL (bytesOf p), [], (Nd.refOf o).1, []⟩, (Nd.refOf o).2) := rfl
  have hE : Nib.unpackE (bytesOf p) = if (Nib.unpack (bytesOf p)).isSome = true then 0 else 40 := rfl
  generalize Nd.two p o = T at *
  generalize isList p = lp at *
  have g1 : (((w.alloc (.cells #[.bool lp, .slice A n c, z] 48)).alloc (.cells #[.bool (isList o), .slice A2 n2 c2, z2] 48)).alloc (.cells noZ 29)).cell? ⟨w.heap.size, 1, none⟩ = some (.slice A n c) := hW.p.cell 1
  generalize hlo : isList o = lo at *
  replace hW := Lib.hid hW
  replace hT := Lib.hid hT
  replace hE := Lib.hid hE
  have hSh := Lib.hid hS
  clear hS
  replace hso2 := Lib.hid hso2
  replace hfo := Lib.hid hfo
  replace hlim := Lib.hid hlim
  replace hin2 := Lib.hid hin2
  replace hn2 := Lib.hid hn2
  clear hin hc hm hn hlen hB hsp hso hfp hlo
  go_enter Try.func34, Try.ntmps34
  go_wp2_with fail
  refine hun.mono ?_
  rintro e w1 ⟨A1, m1, c1, rfl, hm1, hO, hbe1⟩
  have hI := hW.out.step hbe1
  clear hun g1 hW
  have q0 : w1.cell? ⟨w.heap.size, 0, none⟩ = some (.bool lp) := hI.p.cell 0
  replace hI := Lib.hid hI
  replace hO := Lib.hid hO
  replace hm1 := Lib.hid hm1
  replace hbe1 := Lib.hid hbe1
  generalize Nib.unpackE (bytesOf p) = E at *
  generalize Nib.unpackB (bytesOf p) = UB at *
  generalize Nib.unpackL (bytesOf p) = UL at *
  by_cases hbad : (Nib.unpack (bytesOf p)).isSome = false ∨ lp = true
  · have hT0 := Lib.hid (show T = (Nd.no0, false) by rw [hT.out, if_pos hbad])
    have hcode : (E = 40) ∨ (E = 0 ∧ lp = true) := by
      rw [hE.out]
      rcases hbad with h | h
      · rw [h]; exact .inl rfl
      · by_cases h2 : (Nib.unpack (bytesOf p)).isSome = true
        · rw [if_pos h2]; exact .inr ⟨rfl, h⟩
        · rw [if_neg h2]; exact .inl rfl
    clear hT hE hbad
    have hfin : ShpQ S T.1 T.2 w (.returned (.tuple #[.agg noZ, .bool false])) (w1.setRow (w.heap.size + 2) noZ) := by
      rw [hT0.out]
      exact ⟨below_row hI.out.bel (by omega) _, _, rfl, NodIn.zero _ _⟩
    replace hfin := Lib.hid hfin
    rcases hcode with rfl | ⟨rfl, rfl⟩
    all_goals
      go_wp2_with (refine wpList_store_row rfl 29 _ _ rfl (w.heap.size + 2) noZ rfl rfl _ _ hI.out.n info_node rfl noZ_one ?_)
      refine bodyPost_ret (v := .tuple #[.agg noZ, .bool false]) (results_row_tmp rfl _ _ (w.heap.size + 2) _ noZ _ _ _ rfl rfl (hI.out.n.row _) Try.underlying29 rfl info_node) rfl ?_
      exact hfin.out
  · have hlp : lp = false := by cases lp; rfl; exact absurd (.inr rfl) hbad
    have hso3 : (Nib.unpack (bytesOf p)).isSome = true := by
      cases h : (Nib.unpack (bytesOf p)).isSome
      · exact absurd (.inl h) hbad
      · rfl
    have hE0 : E = 0 := by rw [hE.out, if_pos hso3]
    have hT1 := hT.out
    rw [if_neg hbad] at hT1
    clear hT hE hbad hso3
    subst hlp
    subst hE0
    cases UB with
    | true =>
      replace hT1 := Lib.hid (hT1.trans (if_pos rfl))
      go_wp2_with fail

      have hv2 : (w1.drew.setRow (w.heap.size + 2) (nodRow 1 A1 m1 c1 A2 n2 c2 0 Nd.z32 none 0 0 none 0 0)).cell? ⟨w.heap.size + 1, 0, none⟩ = some (.bool lo) ∧ (w1.drew.setRow (w.heap.size + 2) (nodRow 1 A1 m1 c1 A2 n2 c2 0 Nd.z32 none 0 0 none 0 0)).cell? ⟨w.heap.size + 1, 1, none⟩ = some (.slice A2 n2 c2) := by
        have := hI.out.o.drew.row_far (nodRow 1 A1 m1 c1 A2 n2 c2 0 Nd.z32 none 0 0 none 0 0) (show w.heap.size + 1 ≠ w.heap.size + 2 by omega)
        exact ⟨this.cell 0, this.cell 1⟩
      replace hv2 := Lib.hid hv2
      refine wp_region_held_drew (S := (fun W => W.cell? ⟨w.heap.size + 1, 0, none⟩ = some (.bool lo) ∧ W.cell? ⟨w.heap.size + 1, 1, none⟩ = some (.slice A2 n2 c2))) (by kernel_rfl) (by exact ⟨hI.out.o.drew.cell 0, hI.out.o.drew.cell 1⟩) (fun hS => ?_)
      (refine hTake (i := 0) (v := ?v1) rfl (by kernel_rfl) (by kernel_rfl) (by kernel_rfl) (fun _ _ _ h => h) (Or.inl ⟨by rfl, ?y1⟩) hS ?r1; (case y1 => (intro W hW; (go_simp); (try with_reducible rfl); done)); try simp only [Act.put, List.setIfInBounds_toArray, List.set_cons_zero, List.set_cons_succ])
      (refine hTake (i := 1) (v := ?v2) rfl (by kernel_rfl) (by kernel_rfl) (by kernel_rfl) (fun _ _ _ h => h) (Or.inl ⟨by rfl, ?y2⟩) hS ?r2; (case y2 => (intro W hW; (go_simp); (try with_reducible rfl); done)); try simp only [Act.put, List.setIfInBounds_toArray, List.set_cons_zero, List.set_cons_succ])
      (refine hTake (i := 2) (v := ?v3) rfl (by kernel_rfl) (by kernel_rfl) (by kernel_rfl) (fun _ _ _ h => h) (Or.inl ⟨by rfl, ?y3⟩) hS ?r3; (case y3 => (intro W hW; ((have g := hW.2; go_simp)); (try with_reducible rfl); done)); try simp only [Act.put, List.setIfInBounds_toArray, List.set_cons_zero, List.set_cons_succ])
      (refine hTake (i := 3) (v := ?v4) rfl (by kernel_rfl) (by kernel_rfl) (by kernel_rfl) (fun _ _ _ h => h) (Or.inl ⟨by rfl, ?y4⟩) hS ?r4; (case y4 => (intro W hW; (go_simp); (try with_reducible rfl); done)); try simp only [Act.put, List.setIfInBounds_toArray, List.set_cons_zero, List.set_cons_succ])
      (refine hTake (i := 4) (v := ?v5) rfl (by kernel_rfl) (by kernel_rfl) (by kernel_rfl) (fun _ _ _ h => h) (Or.inl ⟨by rfl, ?y5⟩) hS ?r5; (case y5 => (intro W hW; (go_simp); (try with_reducible rfl); done)); try simp only [Act.put, List.setIfInBounds_toArray, List.set_cons_zero, List.set_cons_succ])
      (refine hTake (i := 5) (v := ?v6) rfl (by kernel_rfl) (by kernel_rfl) (by kernel_rfl) (fun _ _ _ h => h) (Or.inl ⟨by rfl, ?y6⟩) hS ?r6; (case y6 => (intro W hW; ((have g := hW.1; go_simp)); (try with_reducible rfl); done)); try simp only [Act.put, List.setIfInBounds_toArray, List.set_cons_zero, List.set_cons_succ])
      (refine hTake (i := 6) (v := ?v7) rfl (by kernel_rfl) (by kernel_rfl) (by kernel_rfl) (fun _ _ _ h => h) (Or.inl ⟨by rfl, ?y7⟩) hS ?r7; (case y7 => (intro W hW; (go_simp); (try with_reducible rfl); done)); try simp only [Act.put, List.setIfInBounds_toArray, List.set_cons_zero, List.set_cons_succ])
      (refine hOne (i := 7) rfl (by kernel_rfl) (fun K hK => ?_))
      rw [if_pos (by rfl)]
      refine wp_store_row 29 _ _ rfl (w.heap.size + 2) (nodRow 1 A1 m1 c1 A2 n2 c2 0 Nd.z32 none 0 0 none 0 0) rfl rfl _ _ hI.out.n.drew (by rw [nodRow_size rfl]; exact info_node) (by rw [nodRow_size rfl]; rfl) (nodRow_one _ _ _ _ _ _ _ _ _ _ _ _ _ _ _) ?_
      (refine hK.out _ _ hv2.out (fun hS => ?_); clear hK K; try simp only [Act.put, List.setIfInBounds_toArray, List.set_cons_zero, List.set_cons_succ])
      (refine hTake (i := 8) (v := ?v8) rfl (by kernel_rfl) (by kernel_rfl) (by kernel_rfl) (fun _ _ _ h => h) (Or.inl ⟨by rfl, ?y8⟩) hS ?r8; (case y8 => (intro W hW; (go_simp); (try with_reducible rfl); done)); try simp only [Act.put, List.setIfInBounds_toArray, List.set_cons_zero, List.set_cons_succ])
      refine wpAnyH_done (by kernel_rfl) ?_ _
      clear hS
      have hs3 := hI.out.sz
      have hbF := below_row hI.out.bel.drew (show w.heap.size ≤ w.heap.size + 2 by omega) (nodRow 1 A1 m1 c1 A2 n2 c2 0 Nd.z32 none 0 0 none 0 0)
      have hX : NodIn (fun q => S q ∨ Fr (w1.drew.setRow (w.heap.size + 2) (nodRow 1 A1 m1 c1 A2 n2 c2 0 Nd.z32 none 0 0 none 0 0)) w.heap.size q) (w1.drew.setRow (w.heap.size + 2) (nodRow 1 A1 m1 c1 A2 n2 c2 0 Nd.z32 none 0 0 none 0 0)) (.agg (nodRow 1 A1 m1 c1 A2 n2 c2 0 Nd.z32 none 0 0 none 0 0)) ⟨1, UL, bytesOf o, Nd.rf0, []⟩ :=
        ⟨A1, m1, c1, A2, n2, c2, none, 0, 0, none, 0, 0, [], rfl, rfl,
          ⟨hm1.out, hO.out.cap, hO.out.lim, (InS.of_ownF hO.out).move (fun q h1 h2 => by
            have h3 := h1.1
            simp only [World.size_alloc] at h3
            have e : (w1.drew.setRow (w.heap.size + 2) (nodRow 1 A1 m1 c1 A2 n2 c2 0 Nd.z32 none 0 0 none 0 0)).heap[q]? = w1.heap[q]? := setRow_other _ _ q _ (by omega)
            exact ⟨.inr (h1.move e (by omega)), e⟩) (by simp)⟩,
          ⟨hn2.out, hc2, hm2, hin2.out.move (fun q h1 h2 => ⟨.inl h1, hbF.block q h2⟩) hbF.size⟩,
          ⟨rfl, Nat.le_refl _, by unfold maxLen; omega, ⟨rfl, fun h => by omega⟩⟩, rfl, Nat.le_refl _, by unfold maxLen; omega, ⟨rfl, fun h => by omega⟩, All2.nil⟩
      have hn6 : Blk (w1.drew.setRow (w.heap.size + 2) (nodRow 1 A1 m1 c1 A2 n2 c2 0 Nd.z32 none 0 0 none 0 0)) (w.heap.size + 2) 29 (nodRow 1 A1 m1 c1 A2 n2 c2 0 Nd.z32 none 0 0 none 0 0) := hI.out.n.drew.row _
      replace hX := Lib.hid hX
      replace hbF := Lib.hid hbF
      replace hn6 := Lib.hid hn6
      go_wp2_with fail
      refine bodyPost_ret (v := .tuple #[.agg (nodRow 1 A1 m1 c1 A2 n2 c2 0 Nd.z32 none 0 0 none 0 0), .bool (!lo)]) (results_row_tmp rfl _ _ (w.heap.size + 2) _ (nodRow 1 A1 m1 c1 A2 n2 c2 0 Nd.z32 none 0 0 none 0 0) _ _ _ rfl rfl hn6.out Try.underlying29 rfl (by rw [nodRow_size rfl]; exact info_node)) rfl ?_
      rw [hT1.out]
      exact ⟨hbF.out, _, rfl, hX.out⟩
    | false =>
      replace hT1 := Lib.hid (hT1.trans (if_neg (by simp)))
      have hs3 := hI.out.sz
      have hcall := node_ref S (.agg #[.bool lo, .slice A2 n2 c2, z2]) o w1 (hso2.out.move _ _ _ (fun q h1 h2 => ⟨h1, hI.out.bel.block q h2⟩) hI.out.bel.size) (fun q h => by have := hSh.out q h; omega) hfo.out hlim.out
      have hbo := hI.out.o
      go_wp2_with (refine wpList_load_row rfl 48 _ rfl (w.heap.size + 1) rfl _ _ _ _ hbo Try.underlying48 rfl info_item3 ?_)
      refine hcall.mono ?_
      rintro e w2 ⟨hb2, vr, rfl, A3, n3, c3, rfl, hd3, hn3, hc3, hm3, hi3⟩
      clear hcall hbo
      generalize (Nd.refOf o).2 = ok2 at *
      generalize (Nd.refOf o).1 = R at *
      obtain ⟨rk, rd, ri⟩ := R
      simp only at hd3 hn3 hi3
      have hI2 := hI.out.step hb2
      have hrs := ref_stored (wr := w2) (refRow rk rd A3 n3 c3)
      replace hI2 := Lib.hid hI2
      replace hrs := Lib.hid hrs
      replace hn3 := Lib.hid hn3
      replace hd3 := Lib.hid hd3
      replace hb2 := Lib.hid hb2
      clear hI q0
      go_wp2_with (first
        | (refine wpList_load_row rfl 26 _ rfl w2.heap.size rfl _ _ _ _ hI3.out.it Try.underlying26 rfl (by rw [refRow_size hd3.out]; exact info_ref) ?_)
        | (refine wpList_built rfl 29 _ rfl (nodRow 2 A1 m1 c1 none 0 0 rk rd A3 n3 c3 none 0 0) (by rw [Array.toList_map]; exact built_ext 2 A1 m1 c1 rk rd hd3.out A3 n3 c3) ?_)
        | (refine wpList_store_row rfl 29 _ _ rfl (w.heap.size + 2) (nodRow 2 A1 m1 c1 none 0 0 rk rd A3 n3 c3 none 0 0) rfl rfl _ _ (hI2.out.n.below (hI3.out.bel.mono (Nat.le_refl _)) hI2.out.n.lt) (by rw [nodRow_size hd3.out]; exact info_node) (by rw [nodRow_size hd3.out]; rfl) (nodRow_one _ _ _ _ _ _ _ _ _ _ _ _ _ _ _) ?_)
        | (refine wpList_store_row rfl 26 _ _ rfl w2.heap.size (refRow rk rd A3 n3 c3) rfl rfl _ _ (Blk.new w2 26 refZ) (by rw [refRow_size hd3.out]; exact info_ref) (by rw [refRow_size hd3.out]; rfl) (refRow_one _ _ _ _ _) ?_; refine list_at (RefS w2 _) hrs.out ?_; intro w3 hI3; replace hI3 := Lib.hid hI3)
        | fail)
      have hI4 := hI2.out.step hI3.out.bel
      have hbF := below_row hI4.bel (show w.heap.size ≤ w.heap.size + 2 by omega) (nodRow 2 A1 m1 c1 none 0 0 rk rd A3 n3 c3 none 0 0)
      have hsz3 := hI3.out.bel.size
      have hsz2 := hb2.out.size
      have hX : NodIn (fun q => S q ∨ Fr (w3.setRow (w.heap.size + 2) (nodRow 2 A1 m1 c1 none 0 0 rk rd A3 n3 c3 none 0 0)) w.heap.size q) (w3.setRow (w.heap.size + 2) (nodRow 2 A1 m1 c1 none 0 0 rk rd A3 n3 c3 none 0 0)) (.agg (nodRow 2 A1 m1 c1 none 0 0 rk rd A3 n3 c3 none 0 0)) ⟨2, UL, [], ⟨rk, rd, ri⟩, []⟩ :=
        ⟨A1, m1, c1, none, 0, 0, A3, n3, c3, none, 0, 0, [], rfl, hd3.out,
          ⟨hm1.out, hO.out.cap, hO.out.lim, (InS.of_ownF hO.out).move (fun q h1 h2 => by
            have h3 := h1.1
            simp only [World.size_alloc] at h3
            have e : (w3.setRow (w.heap.size + 2) (nodRow 2 A1 m1 c1 none 0 0 rk rd A3 n3 c3 none 0 0)).heap[q]? = w1.heap[q]? := (setRow_other _ _ q _ (by omega)).trans ((hI3.out.bel.block q (by omega)).trans (hb2.out.block q h2))
            exact ⟨.inr (h1.move e (by omega)), e⟩) (by simp; omega)⟩,
          ⟨rfl, Nat.le_refl _, by unfold maxLen; omega, ⟨rfl, fun h => by omega⟩⟩,
          ⟨hn3.out, hc3, hm3, hi3.move (fun q h1 h2 => by have h3 := h1.1; have e : (w3.setRow (w.heap.size + 2) (nodRow 2 A1 m1 c1 none 0 0 rk rd A3 n3 c3 none 0 0)).heap[q]? = w2.heap[q]? := (setRow_other _ _ q _ (by omega)).trans (hI3.out.bel.block q h2); exact ⟨.inr (h1.move e (by omega)), e⟩) (by simp; omega)⟩,
          rfl, Nat.le_refl _, by unfold maxLen; omega, ⟨rfl, fun h => by omega⟩, All2.nil⟩
      have hn6 : Blk (w3.setRow (w.heap.size + 2) (nodRow 2 A1 m1 c1 none 0 0 rk rd A3 n3 c3 none 0 0)) (w.heap.size + 2) 29 (nodRow 2 A1 m1 c1 none 0 0 rk rd A3 n3 c3 none 0 0) := hI4.n.row _
      refine bodyPost_ret (v := .tuple #[.agg (nodRow 2 A1 m1 c1 none 0 0 rk rd A3 n3 c3 none 0 0), .bool ok2]) (results_row_tmp rfl _ _ (w.heap.size + 2) _ (nodRow 2 A1 m1 c1 none 0 0 rk rd A3 n3 c3 none 0 0) _ _ _ rfl rfl hn6 Try.underlying29 rfl (by rw [nodRow_size hd3.out]; exact info_node)) rfl ?_
      rw [hT1.out]
      exact ⟨hbF, _, rfl, hX⟩
end Go.Proofs.Yteknhmhmepnfjaa

/-
  Package nest: List (slices.Clone of items).
-/
namespace Go.Proofs.Yteknhmhmepnfjaa
open Go.RowKit

theorem flat_one_cell {α : Type} {R : Value → α → Prop} {vs : List Value} {xs : List α} (h : All2 R vs xs) (hR : ∀ v x, R v x → ∀ u ∈ v.cells.toList, u.oneCell' = true) : ∀ u ∈ flat vs, u.oneCell' = true := by
  intro u hu
  obtain ⟨v, hv, hu⟩ := List.mem_flatMap.1 hu
  obtain ⟨i, hi, rfl⟩ := List.mem_iff_getElem.1 hv
  obtain ⟨v', hv', hr⟩ := h.2 i (xs[i]'(by rw [← h.1]; exact hi)) (List.getElem?_eq_getElem _)
  rw [List.getElem?_eq_getElem hi] at hv'
  cases hv'
  exact hR _ _ hr u hu
theorem clone_items (A : Option Addr) (n c B : Nat) (xs : List Value) (w : World) (h : Reads w B 3 A n xs) (hc : n ≤ c) (hcm : c ≤ maxLen) (hB : B ≤ w.heap.size) (h1 : ∀ u ∈ xs, u.oneCell' = true) (hl : n ≤ 16777216) :
    Calls Try.prog 44 #[.slice A n c] w fun e w' => ∃ A' c', e = .returned (.slice A' n c') ∧ n ≤ c' ∧ c' ≤ maxLen ∧ InS (fun q => w.heap.size ≤ q) w' 3 A' n xs ∧ Below w.heap.size w w' := by
  rcases A with _ | a
  · have hn : n = 0 := by
      rcases Nat.eq_zero_or_pos n with h0 | h0
      · exact h0
      · obtain ⟨g, o, e, _⟩ := h.2 h0
        cases e
    subst hn
    have hx : xs = [] := List.eq_nil_of_length_eq_zero (by have := h.1; omega)
    subst hx
    have hq := Lib.run_eql_slice_nil w 45 48 none 0 c 0 0 Try.underlying45
    go_enter Try.func44, Try.ntmps44
    go_wp2
    go_ret
    exact ⟨_, _, rfl, Nat.le_refl _, by unfold maxLen; omega, ⟨rfl, fun h => by omega⟩, Below.refl _ _⟩
  · go_enter Try.func44, Try.ntmps44
    have hq := Lib.run_eql_slice_nil w 45 48 (some a) n c 0 0 Try.underlying45
    have ho : (w.alloc (.cells #[] 48)).ownsRow w.heap.size 48 3 (.slice (some ⟨w.heap.size, 0, none⟩) 0 0) 0 [] :=
      ⟨rfl, .inr ⟨w.heap.size, 0, #[], rfl, Nat.le_refl _, heap_alloc_new w _, by simp, by simp [maxLen], by simp, by simp⟩⟩
    obtain ⟨i0, hi, hz0, hz1, hz2⟩ := info_parts info_item
    go_wp2_with (at_builtin; refine wpList_append_any _ rfl _ _ 45 rfl w.heap.size 48 i0 itemZ 3 56 Try.underlying45 hi hz0 hz1 hz2 rfl (by omega) _ 0 [] rfl ho B _ n c xs rfl (h.alloc hB _) h1 (by unfold maxLen at *; omega) (by omega) (by simp) ?_; intro v1 w1 hown1 hg1 hob)
    rw [List.nil_append, Nat.zero_add] at hown1
    obtain ⟨A1, c1, rfl⟩ : ∃ A1 c1, v1 = .slice A1 n c1 := by
      rcases hown1.2 with ⟨rfl, h0⟩ | ⟨g, cap, cur, rfl, _⟩
      · rw [h0]; exact ⟨_, _, rfl⟩
      · exact ⟨_, _, rfl⟩
    have hO := Own.of_row hown1
    go_ret
    refine ⟨A1, c1, rfl, hO.cap, hO.lim, InS.of_own hO, ?_⟩
    refine ((Below.refl w.heap.size w).alloc (Nat.le_refl _) (.cells #[] 48)).trans ⟨hg1.os, hg1.tape, hg1.output, hg1.size, fun k hk => hg1.block k (by simp; omega) (fun e => by have := (ho.lt _ e.symm).1; omega)⟩
theorem InS.or {S S' : Nat → Prop} {w : World} {size n : Nat} {A : Option Addr} {xs : List Value} (h : InS S w size A n xs) (hS : ∀ q, S q → q < w.heap.size → S' q) : InS S' w size A n xs := h.move (fun q h1 h2 => ⟨hS q h1 h2, rfl⟩) (Nat.le_refl _)
set_option maxHeartbeats 1000000 in
theorem nest_List (d : Nat) (S : Nat → Prop) (A : Option Addr) (n c : Nat) (vs : List Value) (xs : List (Ns.It d)) (w : World) (hS : ∀ q, S q → q < w.heap.size) (hn : n = xs.length) (hc : n ≤ c) (hm : c ≤ maxLen) (hin : InS S w 3 A n (flat vs)) (hall : All2 (Sits S w d) vs xs) (hl : n ≤ 16777216) :
    Calls Try.prog 29 #[.slice A n c] w fun e w' => ∃ v, e = .returned v ∧ Sits (fun q => S q ∨ w.heap.size ≤ q) w' (d + 1) v (.inr xs) ∧ Below w.heap.size w w' := by
  have hb0 : Blk (w.alloc (.cells rowZ 48)) w.heap.size 48 rowZ := Blk.new w _ _
  have hbe : Below w.heap.size w (w.alloc (.cells rowZ 48)) := (Below.refl _ _).alloc (Nat.le_refl _) _
  have hs0 : (w.alloc (.cells rowZ 48)).heap.size = w.heap.size + 1 := by simp
  have hin0 := hin.reads (B := w.heap.size) (fun g _ h => h)
  have hf := clone_items A n c w.heap.size (flat vs) (w.alloc (.cells rowZ 48)) (hin0.alloc (Nat.le_refl _) _) hc hm (by simp) (flat_one_cell hall fun v x hx u hu => by
    obtain ⟨a, b, c, _, h2, h3⟩ := hx.cells
    rw [h2] at hu
    exact h3 u hu) hl
  replace hin := Lib.hid hin
  replace hall := Lib.hid hall
  replace hn := Lib.hid hn
  replace hS := Lib.hid hS
  clear hc hm hin0
  go_enter Try.func29, Try.ntmps29
  go_wp2_with fail
  refine hf.mono ?_
  rintro e w1 ⟨A1, c1, rfl, hc1, hm1, hin1, hbel⟩
  have hb1 := hb0.below hbel (by omega)
  have hs1 := hbel.size
  clear hf hb0
  replace hin1 := Lib.hid hin1
  replace hbel := Lib.hid hbel
  replace hbe := Lib.hid hbe
  replace hc1 := Lib.hid hc1
  replace hm1 := Lib.hid hm1
  go_wp2_with (refine wpList_store_row rfl 48 _ _ rfl w.heap.size #[.bool true, .slice none 0 0, .slice A1 n c1] rfl rfl _ _ hb1 info_item3 rfl (by simp [Value.oneCell']) ?_)
  refine bodyPost_ret (v := lsV A1 n c1) (results_cell_row rfl _ _ w.heap.size _ #[.bool true, .slice none 0 0, .slice A1 n c1] _ _ rfl (hb1.row _) Try.underlying48 rfl info_item3) rfl ?_
  have hB1 : Below w.heap.size w w1 := hbe.out.trans (hbel.out.mono (by omega))
  refine ⟨_, rfl, ⟨A1, n, c1, vs, rfl, hn.out, hc1.out, hm1.out, ?_, ?_⟩, below_row hB1 (Nat.le_refl _) _⟩
  · exact hin1.out.move (fun q h1 h2 => ⟨.inr (by rw [hs0] at h1; omega), setRow_other w1 _ q _ (by rw [hs0] at h1; omega)⟩) (by simp)
  · exact hall.out.imp fun v x hx => hx.move _ _ _ (fun q h1 h2 => ⟨.inl h1, (setRow_other w1 _ q _ (by omega)).trans (hB1.block q h2)⟩) (by simp; have := hB1.size; omega)
end Go.Proofs.Yteknhmhmepnfjaa

/-
  Package words: number, Read, Key, Bytes.
-/
namespace Go.Proofs.Yteknhmhmepnfjaa
open Go.RowKit

namespace Wd
theorem shl_or8 (m : Nat) (c : UInt8) (hm : m < 72057594037927936) : bits .or .u64 (IntKind.u64.wrap ((m : Int) * 256)) (IntKind.u64.wrap (c.toNat : Int)) = ((m * 256 + c.toNat : Nat) : Int) := by
  have hc := c.toNat_lt
  have e1 : IntKind.u64.wrap ((m : Int) * 256) = (m : Int) * 256 := by rw [IntKind.wrap_u64]; omega
  have e2 : IntKind.u64.wrap (c.toNat : Int) = (c.toNat : Int) := by rw [IntKind.wrap_u64]; omega
  rw [e1, e2, bits_join .u64 64 (by decide) (fun n h0 h1 => by rw [IntKind.wrap_u64]; omega) 8 _ _ (by omega) (by omega) (by omega) (by omega) (by omega) (by omega)]
  omega
end Wd
/-- what Read answers -/
def Wd.word (l : List UInt8) : Option Nat := if l.length ≤ 8 ∧ Wd.tight l = true then some (Wd.rd l) else none
def wordV (x : Option Nat) : Value := match x with
  | some n => .tuple #[.int .u64 n, .bool true]
  | none => .tuple #[.int .u64 0, .bool false]
theorem fix_cells (n : Nat) : bv (Wd.fix 8 n) = [.int .u8 ((n / 72057594037927936 % 256 : Nat) : Int), .int .u8 ((n / 281474976710656 % 256 : Nat) : Int), .int .u8 ((n / 1099511627776 % 256 : Nat) : Int), .int .u8 ((n / 4294967296 % 256 : Nat) : Int),
    .int .u8 ((n / 16777216 % 256 : Nat) : Int), .int .u8 ((n / 65536 % 256 : Nat) : Int), .int .u8 ((n / 256 % 256 : Nat) : Int), .int .u8 ((n % 256 : Nat) : Int)] := by
  simp only [Wd.fix, bv, List.nil_append, List.cons_append, List.map_cons, List.map_nil, Wd.byte_mod, Nat.div_div_eq_div_mul]
end Go.Proofs.Yteknhmhmepnfjaa

/-
  Package words: Bytes.
-/
namespace Go.Proofs.Yteknhmhmepnfjaa
open Go.RowKit

end Go.Proofs.Yteknhmhmepnfjaa

/-
  Lists of items that a function appends to; package receipt: list.
-/
namespace Go.Proofs.Yteknhmhmepnfjaa
open Go.RowKit

/-- where an item's memory may lie: at S, or at B and behind; not in the list's own block -/
def Apart (S : Nat → Prop) (B : Nat) (v : Value) (q : Nat) : Prop := (S q ∨ B ≤ q) ∧ v.ownBlock ≠ some q
structure ItL (S : Nat → Prop) (B : Nat) (w : World) (d : Nat) (A : Option Addr) (m c : Nat) (vs : List Value) (xs : List (Ns.It d)) : Prop where
  own : w.ownsRow B 48 3 (.slice A m c) m (flat vs)
  len : m = xs.length
  all : All2 (Sits (Apart S B (.slice A m c)) w d) vs xs
section
variable {S : Nat → Prop} {B d m c : Nat} {w w' : World} {A : Option Addr} {vs : List Value} {xs : List (Ns.It d)}
theorem ItL.start : ItL S B w d none 0 0 [] [] := ⟨World.ownsRow_nil _ _ _ _, rfl, All2.nil⟩
theorem ItL.below (h : ItL S B w d A m c vs xs) (hb : Below w.heap.size w w') : ItL S B w' d A m c vs xs := by
  refine ⟨h.own.kept (row := none) ⟨hb.os, hb.tape, hb.output, hb.size, fun k hk _ => hb.block k hk⟩ ?_, h.len, h.all.imp fun v x hx => hx.move _ _ _ (fun q h1 h2 => ⟨h1, hb.block q h2⟩) hb.size⟩
  cases e : (Value.slice A m c).ownBlock with
  | none => exact .inl rfl
  | some q => exact .inr (by simp)
theorem ItL.snoc {A' : Option Addr} {c' : Nat} {v : Value} {x : Ns.It d} (h : ItL S B w d A m c vs xs) (hS : ∀ q, S q → q < w.heap.size) (hv : Sits (Apart S B (.slice A m c)) w d v x)
    (hown : w'.ownsRow B 48 3 (.slice A' (m + 1) c') (m + 1) (flat vs ++ v.cells.toList)) (hg : w.grownBy w' (Value.slice A m c).ownBlock)
    (hob : (Value.slice A' (m + 1) c').ownBlock = (Value.slice A m c).ownBlock ∨ (∃ q, (Value.slice A' (m + 1) c').ownBlock = some q ∧ w.heap.size ≤ q)) : ItL S B w' d A' (m + 1) c' (vs ++ [v]) (xs ++ [x]) := by
  have hmv : ∀ q, Apart S B (.slice A m c) q → q < w.heap.size → Apart S B (.slice A' (m + 1) c') q ∧ w'.heap[q]? = w.heap[q]? := by
    intro q ⟨h1, h2⟩ h3
    refine ⟨⟨h1, ?_⟩, hg.block q h3 (fun e => h2 e.symm)⟩
    rcases hob with e | ⟨g, e, hg⟩
    · rw [e]; exact h2
    · rw [e]; intro e2; injection e2 with e2; omega
  refine ⟨?_, ?_, (h.all.imp fun v x hx => hx.move _ _ _ hmv hg.size).snoc (hv.move _ _ _ hmv hg.size)⟩
  · rw [flat_append, flat_one]; exact hown
  · rw [List.length_append, h.len]; rfl
/-- 'x = append(x, one)' -/
theorem wpList_append_it {ops : Array Oper} {rest : List Oper} {o : Oper} {a : Act} {Q : Exit → Act → World → Prop} {gx : Nat} {v : Value} {x : Ns.It d} (hgd : o.guard = none) (s y : Operand)
    (ho : o.op = .call { callee := .builtin .append, args := #[s, y], argTypes := #[45, 45] })
    (h : ItL S B w d A m c vs xs) (hS : ∀ q, S q → q < w.heap.size) (hB : B ≤ w.heap.size) (hs : a.eval s = .slice A m c) (hx : a.eval y = .slice (some ⟨gx, 0, none⟩) 1 1) (hgx : gx < w.heap.size) (hb : Blk w gx 48 v.cells) (hv : Sits (Apart S B (.slice A m c)) w d v x)
    (hlim : m < 16777216)
    (H : ∀ A' c' w', ItL S B w' d A' (m + 1) c' (vs ++ [v]) (xs ++ [x]) → w.grownBy w' (Value.slice A m c).ownBlock → wpList Try.prog ops Q rest (a.put o.dst (.slice A' (m + 1) c')) w') : wpList Try.prog ops Q (o :: rest) a w := by
  obtain ⟨i0, hi, hz0, hz1, hz2⟩ := info_parts info_item
  obtain ⟨p, q, r, rfl, hc, h1⟩ := hv.cells
  have hr : Reads w (gx + 1) 3 (some ⟨gx, 0, none⟩) 1 [p, q, r] := ⟨rfl, fun _ => ⟨gx, 0, rfl, by omega, fun j u hu => by
    rw [Nat.zero_add, hb.cell j, ← Array.getElem?_toList, hc]; exact hu⟩⟩
  refine wpList_append_any w hgd s y 45 ho B 48 i0 itemZ 3 56 Try.underlying45 hi hz0 hz1 hz2 rfl (by omega) (.slice A m c) m (flat vs) hs h.own (gx + 1) _ 1 1 [p, q, r] hx hr h1 (by unfold maxLen; omega) (by omega) hB ?_
  intro v' w' hown hg hob
  obtain ⟨A', c', rfl⟩ : ∃ A' c', v' = .slice A' (m + 1) c' := by
    rcases hown.2 with ⟨rfl, h0⟩ | ⟨g, cap, cur, rfl, _⟩
    · omega
    · exact ⟨_, _, rfl⟩
  exact H A' c' w' (h.snoc hS hv (by rw [hc]; exact hown) hg (hob.imp id fun e => ⟨_, e, Nat.le_refl _⟩)) hg
end
/-- words in memory -/
def u64v (ns : List Nat) : List Value := ns.map fun (k : Nat) => .int .u64 (k : Int)
theorem u64v_at (ns : List Nat) (k : Nat) (hk : k < ns.length) : (u64v ns)[k]? = some (.int .u64 ((ns[k] : Nat) : Int)) := by simp [u64v, hk]
/-- a receipt's words as items -/
def wordsI (ns : List Nat) : List (Ns.It 8) := ns.map fun n => Ns.tx (Wd.be 8 n)
end Go.Proofs.Yteknhmhmepnfjaa

/-
  Lists of references that a function appends to; package node: many.
-/
namespace Go.Proofs.Yteknhmhmepnfjaa
open Go.RowKit

theorem info_ref4 : (Try.prog.info? 26).map (fun i => (i.zero, i.size, i.bytes)) = some (some (.agg refZ), 34, 64) := by kernel_rfl
/-- a list of references that is being appended to -/
structure RfL (B : Nat) (w : World) (A : Option Addr) (m c : Nat) (vs : List Value) (rs : List Nd.Rf) : Prop where
  own : w.ownsRow B 26 34 (.slice A m c) m (flat vs)
  len : m = rs.length
  all : All2 (RefIn (Apart (fun _ => False) B (.slice A m c)) w) vs rs
section
variable {B m c : Nat} {w w' : World} {A : Option Addr} {vs : List Value} {rs : List Nd.Rf}
theorem RfL.start : RfL B w none 0 0 [] [] := ⟨World.ownsRow_nil _ _ _ _, rfl, All2.nil⟩
theorem RfL.below (h : RfL B w A m c vs rs) (hb : Below w.heap.size w w') : RfL B w' A m c vs rs := by
  refine ⟨h.own.kept (row := none) ⟨hb.os, hb.tape, hb.output, hb.size, fun k hk _ => hb.block k hk⟩ ?_, h.len, h.all.imp fun v x hx => hx.move (fun q h1 h2 => ⟨h1, hb.block q h2⟩) hb.size⟩
  cases e : (Value.slice A m c).ownBlock with
  | none => exact .inl rfl
  | some q => exact .inr (by simp)
theorem RfL.snoc {A' : Option Addr} {c' : Nat} {v : Value} {x : Nd.Rf} (h : RfL B w A m c vs rs) (hv : RefIn (Apart (fun _ => False) B (.slice A m c)) w v x)
    (hown : w'.ownsRow B 26 34 (.slice A' (m + 1) c') (m + 1) (flat vs ++ v.cells.toList)) (hg : w.grownBy w' (Value.slice A m c).ownBlock)
    (hob : (Value.slice A' (m + 1) c').ownBlock = (Value.slice A m c).ownBlock ∨ (∃ q, (Value.slice A' (m + 1) c').ownBlock = some q ∧ w.heap.size ≤ q)) : RfL B w' A' (m + 1) c' (vs ++ [v]) (rs ++ [x]) := by
  have hmv : ∀ q, Apart (fun _ => False) B (.slice A m c) q → q < w.heap.size → Apart (fun _ => False) B (.slice A' (m + 1) c') q ∧ w'.heap[q]? = w.heap[q]? := by
    intro q ⟨h1, h2⟩ h3
    refine ⟨⟨h1, ?_⟩, hg.block q h3 (fun e => h2 e.symm)⟩
    rcases hob with e | ⟨g, e, hg⟩
    · rw [e]; exact h2
    · rw [e]; intro e2; injection e2 with e2; omega
  refine ⟨?_, ?_, (h.all.imp fun v x hx => hx.move hmv hg.size).snoc (hv.move hmv hg.size)⟩
  · rw [flat_append, flat_one]; exact hown
  · rw [List.length_append, h.len]; rfl
/-- .. what its references lie in is not frozen -/
def FrL (B : Nat) (w : World) (A : Option Addr) (m c : Nat) (vs : List Value) (rs : List Nd.Rf) : Prop := All2 (RefIn (fun q => Fr w B q ∧ (Value.slice A m c).ownBlock ≠ some q) w) vs rs
theorem FrL.start : FrL B w none 0 0 [] [] := All2.nil
theorem FrL.keep (h : FrL B w A m c vs rs) (hk : ∀ q, B ≤ q → q < w.heap.size → (Value.slice A m c).ownBlock ≠ some q → w'.heap[q]? = w.heap[q]?) (hs : w.heap.size ≤ w'.heap.size) : FrL B w' A m c vs rs :=
  h.imp fun _ _ hx => hx.move (fun q h1 h2 => have e := hk q h1.1.1 h2 h1.2; ⟨⟨h1.1.move e h1.1.1, h1.2⟩, e⟩) hs
theorem FrL.snoc {A' : Option Addr} {c' : Nat} {v : Value} {x : Nd.Rf} (h : FrL B w A m c vs rs) (hv : RefIn (fun q => Fr w B q ∧ (Value.slice A m c).ownBlock ≠ some q) w v x) (hg : w.grownBy w' (Value.slice A m c).ownBlock)
    (hob : (Value.slice A' (m + 1) c').ownBlock = (Value.slice A m c).ownBlock ∨ (∃ q, (Value.slice A' (m + 1) c').ownBlock = some q ∧ w.heap.size ≤ q)) : FrL B w' A' (m + 1) c' (vs ++ [v]) (rs ++ [x]) := by
  have hmv : ∀ q, (Fr w B q ∧ (Value.slice A m c).ownBlock ≠ some q) → q < w.heap.size → (Fr w' B q ∧ (Value.slice A' (m + 1) c').ownBlock ≠ some q) ∧ w'.heap[q]? = w.heap[q]? := by
    intro q ⟨h1, h2⟩ h3
    have e := hg.block q h3 (fun e => h2 e.symm)
    refine ⟨⟨h1.move e h1.1, ?_⟩, e⟩
    rcases hob with e | ⟨g, e, hg⟩
    · rw [e]; exact h2
    · rw [e]; intro e2; injection e2 with e2; omega
  exact (h.imp fun v x hx => hx.move hmv hg.size).snoc (hv.move hmv hg.size)
/-- '[]api.Ref{r}' -/
theorem wpList_build_ref {ops : Array Oper} {rest : List Oper} {o : Oper} {a : Act} {Q : Exit → Act → World → Prop} (hg : o.guard = none) (parts : Array (Nat × Operand)) (ho : o.op = .buildSlice 27 1 parts)
    (k : Int) (d : List UInt8) (n : Nat) (hd : d.length = 32) (hp : parts.toList.map (fun (i, x) => (i, a.eval x)) = [(0, .agg (refRow k d A n c))])
    (h : wpList Try.prog ops Q rest (a.put o.dst (.slice (some ⟨w.heap.size, 0, none⟩) 1 1)) (w.alloc (.cells (refRow k d A n c) 26))) : wpList Try.prog ops Q (o :: rest) a w := by
  obtain ⟨i0, hi, hz0, hz1, hz2⟩ := info_parts info_ref4
  refine wpList_buildSlice hg 27 26 1 parts ho (refRow k d A n c) i0 (.agg refZ) Try.underlying27 hi hz0 (by rw [hz1]; decide) (by rw [hz1]; decide) ?_ h
  rw [Array.toList_map, hp, hz1]
  have hl : (refCells k d A n c).length = 34 := refCells_length hd
  have hc0 : ((Array.range (1 * 34)).map ((Value.agg refZ).cells[· % (Value.agg refZ).cells.size]!)).size = 34 := by simp
  generalize (Array.range (1 * 34)).map ((Value.agg refZ).cells[· % (Value.agg refZ).cells.size]!) = cs0 at *
  have hf := fold_set (.agg (refRow k d A n c)) (refCells k d A n c) rfl 0 cs0 (by rw [hl, hc0]; omega)
  unfold Instr.fill
  rw [show (some (0 * 34, 34) : Option (Nat × Nat)) = some (0, 34) from rfl]
  simp only
  rw [if_neg (by
    show ¬ ((decide ((refRow k d A n c).size ≠ 34) || decide (0 + (refRow k d A n c).size > cs0.size)) = true)
    rw [refRow_size hd, hc0]; decide)]
  unfold Instr.fill
  rw [hf]
  congr 1
  have : cs0.toList.drop (0 + 34) = [] := List.drop_eq_nil_of_le (by rw [Array.length_toList, hc0]; omega)
  rw [hl, this]
  simp [refRow]
/-- 'x = append(x, r)' -/
theorem wpList_append_refF {ops : Array Oper} {rest : List Oper} {o : Oper} {a : Act} {Q : Exit → Act → World → Prop} {gx : Nat} {k : Int} {d : List UInt8} {A1 : Option Addr} {n1 c1 : Nat} {x : Nd.Rf} (hgd : o.guard = none) (s y : Operand)
    (ho : o.op = .call { callee := .builtin .append, args := #[s, y], argTypes := #[27, 27] })
    (h : RfL B w A m c vs rs) (hB : B ≤ w.heap.size) (hs : a.eval s = .slice A m c) (hx : a.eval y = .slice (some ⟨gx, 0, none⟩) 1 1) (hgx : gx < w.heap.size) (hd : d.length = 32) (hb : Blk w gx 26 (refRow k d A1 n1 c1)) (hv : RefIn (Apart (fun _ => False) B (.slice A m c)) w (.agg (refRow k d A1 n1 c1)) x)
    (hlim : m < 16777216)
    (H : ∀ A' c' w', RfL B w' A' (m + 1) c' (vs ++ [.agg (refRow k d A1 n1 c1)]) (rs ++ [x]) → w.grownBy w' (Value.slice A m c).ownBlock → ((Value.slice A' (m + 1) c').ownBlock = (Value.slice A m c).ownBlock ∨ (∃ q, (Value.slice A' (m + 1) c').ownBlock = some q ∧ w.heap.size ≤ q)) → wpList Try.prog ops Q rest (a.put o.dst (.slice A' (m + 1) c')) w') : wpList Try.prog ops Q (o :: rest) a w := by
  obtain ⟨i0, hi, hz0, hz1, hz2⟩ := info_parts info_ref4
  have hl : (refCells k d A1 n1 c1).length = 34 := refCells_length hd
  have hr : Reads w (gx + 1) 34 (some ⟨gx, 0, none⟩) 1 (refCells k d A1 n1 c1) := ⟨by rw [hl], fun _ => ⟨gx, 0, rfl, by omega, fun j u hu => by
    rw [Nat.zero_add, hb.cell j, ← Array.getElem?_toList]; exact hu⟩⟩
  refine wpList_append_any w hgd s y 27 ho B 26 i0 (.agg refZ) 34 64 Try.underlying27 hi hz0 hz1 hz2 rfl (by omega) (.slice A m c) m (flat vs) hs h.own (gx + 1) _ 1 1 (refCells k d A1 n1 c1) hx hr (refCells_one _ _ _ _ _) (by unfold maxLen; omega) (by omega) hB ?_
  intro v' w' hown hg hob
  obtain ⟨A', c', rfl⟩ : ∃ A' c', v' = .slice A' (m + 1) c' := by
    rcases hown.2 with ⟨rfl, h0⟩ | ⟨g, cap, cur, rfl, _⟩
    · omega
    · exact ⟨_, _, rfl⟩
  exact H A' c' w' (h.snoc hv hown hg (hob.imp id fun e => ⟨_, e, Nat.le_refl _⟩)) hg (hob.imp id fun e => ⟨_, e, Nat.le_refl _⟩)
/-- 'x = append(x, r)' -/
theorem wpList_append_ref {ops : Array Oper} {rest : List Oper} {o : Oper} {a : Act} {Q : Exit → Act → World → Prop} {gx : Nat} {k : Int} {d : List UInt8} {A1 : Option Addr} {n1 c1 : Nat} {x : Nd.Rf} (hgd : o.guard = none) (s y : Operand)
    (ho : o.op = .call { callee := .builtin .append, args := #[s, y], argTypes := #[27, 27] })
    (h : RfL B w A m c vs rs) (hB : B ≤ w.heap.size) (hs : a.eval s = .slice A m c) (hx : a.eval y = .slice (some ⟨gx, 0, none⟩) 1 1) (hgx : gx < w.heap.size) (hd : d.length = 32) (hb : Blk w gx 26 (refRow k d A1 n1 c1)) (hv : RefIn (Apart (fun _ => False) B (.slice A m c)) w (.agg (refRow k d A1 n1 c1)) x)
    (hlim : m < 16777216)
    (H : ∀ A' c' w', RfL B w' A' (m + 1) c' (vs ++ [.agg (refRow k d A1 n1 c1)]) (rs ++ [x]) → w.grownBy w' (Value.slice A m c).ownBlock → wpList Try.prog ops Q rest (a.put o.dst (.slice A' (m + 1) c')) w') : wpList Try.prog ops Q (o :: rest) a w :=
  wpList_append_refF hgd s y ho h hB hs hx hgx hd hb hv hlim fun A' c' w' h1 h2 _ => H A' c' w' h1 h2
end
end Go.Proofs.Yteknhmhmepnfjaa

/-
  Package node: many.
-/
namespace Go.Proofs.Yteknhmhmepnfjaa
open Go.RowKit

/-- in the midst of many: the node being filled -/
structure ManI (w : World) (Av : Option Addr) (nv cv : Nat) (A : Option Addr) (k c : Nat) (W : World) : Prop where
  res : Blk W w.heap.size 29 noZ
  n : Blk W (w.heap.size + 1) 29 (nodRow 3 none 0 0 Av nv cv 0 Nd.z32 none 0 0 A k c)
  bel : Below w.heap.size w W
  sz : w.heap.size + 2 ≤ W.heap.size
theorem ManI.step {w W W' : World} {Av A : Option Addr} {nv cv k c : Nat} (h : ManI w Av nv cv A k c W) (hb : Below W.heap.size W W') : ManI w Av nv cv A k c W' := by
  have := h.sz
  exact ⟨h.res.below hb h.res.lt, h.n.below hb h.n.lt, h.bel.trans (hb.mono h.bel.size), Nat.le_trans h.sz hb.size⟩
theorem RfL.far {B m c g : Nat} {w w' : World} {A : Option Addr} {vs : List Value} {rs : List Nd.Rf} (h : RfL B w A m c vs rs) (hg : w.grownBy w' (some g)) (hgB : g < B) : RfL B w' A m c vs rs := by
  refine ⟨h.own.kept hg ?_, h.len, h.all.imp fun v x hx => hx.move (fun q h1 h2 => ⟨h1, hg.block q h2 (fun e => ?_)⟩) hg.size⟩
  · cases e : (Value.slice A m c).ownBlock with
    | none => exact .inl rfl
    | some q => exact .inr (fun e2 => by injection e2 with e2; have := (h.own.lt q e).1; omega)
  · injection e with e
    rcases h1.1 with h | h
    · exact h
    · omega
/-- the next reference lies in a row of its own -/
structure ManM (w : World) (Av : Option Addr) (nv cv : Nat) (gy : Nat) (row : Array Value) (x : Nd.Rf) (A : Option Addr) (k c : Nat) (vs : List Value) (rs : List Nd.Rf) (W : World) : Prop where
  lst : RfL (w.heap.size + 2) W A k c vs rs
  nod : ManI w Av nv cv A k c W
  y : Blk W gy 26 row
  rv : RefIn (Apart (fun _ => False) (w.heap.size + 2) (.slice A k c)) W (.agg row) x
  frl : FrL (w.heap.size + 2) W A k c vs rs
  fv : RefIn (fun q => Fr W (w.heap.size + 2) q ∧ (Value.slice A k c).ownBlock ≠ some q) W (.agg row) x
theorem man_mid {w wr w3 : World} {Av A : Option Addr} {nv cv k c : Nat} {vs : List Value} {rs : List Nd.Rf} {row : Array Value} {x : Nd.Rf} (h : RfL (w.heap.size + 2) wr A k c vs rs) (hI : ManI w Av nv cv A k c wr) (hF : FrL (w.heap.size + 2) wr A k c vs rs) (hb : Below wr.heap.size wr w3)
    (hv : RefIn (Fr w3 wr.heap.size) w3 (.agg row) x) : ManM w Av nv cv w3.heap.size row x A k c vs rs ((w3.alloc (.cells refZ 26)).setRow w3.heap.size row) := by
  have hs := hb.size
  have hsz := hI.sz
  have hb2 : Below wr.heap.size wr ((w3.alloc (.cells refZ 26)).setRow w3.heap.size row) := below_row (hb.alloc hs _) hs _
  have hk : ∀ q, q < w3.heap.size → ((w3.alloc (.cells refZ 26)).setRow w3.heap.size row).heap[q]? = w3.heap[q]? := fun q h2 => (setRow_other _ _ q _ (by omega)).trans (Below.heap_alloc w3 _ q h2)
  refine ⟨h.below hb2, hI.step hb2, (Blk.new w3 _ _).row _, ?_, hF.keep (fun q _ h2 _ => hb2.block q h2) hb2.size, ?_⟩
  · exact hv.move (fun q h1 h2 => have h3 := h1.1; ⟨⟨.inr (by omega), fun e => by have := (h.own.lt _ e).2; omega⟩, hk q h2⟩) (by simp)
  · exact hv.move (fun q h1 h2 => have h3 := h1.1; ⟨⟨h1.move (hk q h2) (by omega), fun e => by have := (h.own.lt _ e).2; omega⟩, hk q h2⟩) (by simp)
theorem man_next {w w3 w5 : World} {Av A A5 : Option Addr} {nv cv k c c5 gy : Nat} {vs vs' : List Value} {rs rs' : List Nd.Rf} {row cs : Array Value} {x : Nd.Rf} (hrs : vs' = vs ++ [.agg row]) (hrr : rs' = rs ++ [x])
    (hM : ManM w Av nv cv gy row x A k c vs rs w3) (hL : RfL (w.heap.size + 2) w5 A5 (k + 1) c5 vs' rs') (hg : (w3.alloc (.cells cs 26)).grownBy w5 (Value.slice A k c).ownBlock)
    (hob : (Value.slice A5 (k + 1) c5).ownBlock = (Value.slice A k c).ownBlock ∨ (∃ q, (Value.slice A5 (k + 1) c5).ownBlock = some q ∧ (w3.alloc (.cells cs 26)).heap.size ≤ q)) :
    RfL (w.heap.size + 2) (w5.setCell ⟨w.heap.size + 1, 37, none⟩ (.slice A5 (k + 1) c5)) A5 (k + 1) c5 vs' rs' ∧ ManI w Av nv cv A5 (k + 1) c5 (w5.setCell ⟨w.heap.size + 1, 37, none⟩ (.slice A5 (k + 1) c5)) ∧
    FrL (w.heap.size + 2) (w5.setCell ⟨w.heap.size + 1, 37, none⟩ (.slice A5 (k + 1) c5)) A5 (k + 1) c5 vs' rs' := by
  subst hrs hrr
  have hsz := hM.nod.sz
  have hs4 : (w3.alloc (.cells cs 26)).heap.size = w3.heap.size + 1 := by simp
  have hs5 := hg.size
  have hlow : ∀ q, q < w.heap.size + 2 → some q ≠ (Value.slice A k c).ownBlock := fun q hq e => by have := (hM.lst.own.lt q e.symm).1; omega
  have hb5 : ∀ q, q < w.heap.size + 2 → w5.heap[q]? = w3.heap[q]? := fun q hq => (hg.block q (by omega) (hlow q hq)).trans (Below.heap_alloc w3 _ q (by omega))
  have hbel : Below w.heap.size w w5 := (hM.nod.bel.alloc (by omega) (.cells cs 26)).trans ⟨hg.os, hg.tape, hg.output, hg.size, fun q hq => hg.block q (by omega) (hlow q (by omega))⟩
  refine ⟨hL.far (g := w.heap.size + 1) (grown_set (World.grownBy.refl w5 _)) (by omega), ⟨?_, ?_, hbel.setCell (by simp) _, by rw [size_set]; omega⟩, ?_⟩
  · exact (Below.heap_setCell w5 _ _ _ (by simp)).trans ((hb5 _ (by omega)).trans hM.nod.res)
  · have hX5 : Blk w5 (w.heap.size + 1) 29 (nodRow 3 none 0 0 Av nv cv 0 Nd.z32 none 0 0 A k c) := (hb5 _ (by omega)).trans hM.nod.n
    exact (hX5.set_ 37 _).eq rfl
  · have hka : ∀ q, q < w3.heap.size → (w3.alloc (.cells cs 26)).heap[q]? = w3.heap[q]? := fun q h2 => Below.heap_alloc w3 _ q h2
    have h1 := (hM.frl.keep (w' := w3.alloc (.cells cs 26)) (fun q _ h2 _ => hka q h2) (by omega)).snoc (hM.fv.move (fun q h1 h2 => ⟨⟨h1.1.move (hka q h2) h1.1.1, h1.2⟩, hka q h2⟩) (by omega)) hg hob
    exact h1.keep (fun q h2 h3 _ => Below.heap_setCell w5 ⟨w.heap.size + 1, 37, none⟩ _ q (by show q ≠ w.heap.size + 1; omega)) (by rw [size_set]; exact Nat.le_refl _)
/-- an item lies in a row of its own -/
structure ItB (wr : World) (row : Array Value) (W : World) : Prop where
  it : Blk W wr.heap.size 48 row
  bel : Below wr.heap.size wr W
theorem itB_stored {wr : World} (row : Array Value) : ItB wr row ((wr.alloc (.cells rowZ 48)).setRow wr.heap.size row) :=
  ⟨(Blk.new wr _ _).row row, below_row ((Below.refl _ _).alloc (Nat.le_refl _) _) (Nat.le_refl _) _⟩
set_option maxHeartbeats 2000000 in
set_option maxRecDepth 100000 in
theorem node_many (S : Nat → Prop) (A : Option Addr) (c : Nat) (vs : List Value) (xs : List (Ns.It 8)) (w : World) (hin : InS S w 3 A 17 (flat vs)) (hall : All2 (Sits S w 8) vs xs) (h17 : xs.length = 17) (hc : 17 ≤ c) (hm : c ≤ maxLen)
    (hS : ∀ q, S q → q < w.heap.size) (hfit : ∀ x ∈ xs, Ns.fit 7 x) (hlim : ∀ x ∈ xs, (Ns.enc 8 x).length ≤ 16777215) :
    Calls Try.prog 35 #[.slice A 17 c] w (ShpQ S (Nd.many (xs.take 16) (xs[16]'(by omega))).1 (Nd.many (xs.take 16) (xs[16]'(by omega))).2 w) := by
  obtain ⟨g, o, a, b, z, rfl, hSg, hg, hrg, hone, hst⟩ := items_at hin hall h17.symm 16 (by omega)
  obtain ⟨Av, nv, cv, z', he, hnv, hcv, hmv, hiv, hz⟩ := hst.row
  simp only [Value.agg.injEq, Array.mk.injEq, List.cons.injEq, and_true] at he
  obtain ⟨rfl, rfl, rfl⟩ := he
  have hT : Nd.many (xs.take 16) (xs[16]'(by omega)) = (⟨3, [], bytesOf (xs[16]'(by omega)), Nd.rf0, (xs.take 16).map fun x => (Nd.refOf x).1⟩, !isList (xs[16]'(by omega)) && (xs.take 16).all fun x => (Nd.refOf x).2) := rfl
  generalize Nd.many (xs.take 16) (xs[16]'(by omega)) = T at *
  generalize isList (xs[16]'(by omega)) = lz at *
  generalize bytesOf (xs[16]'(by omega)) = bz at *
  have g0 : w.cell? ⟨g, o + 48, none⟩ = some (.bool lz) := hrg 0 _ rfl
  have g1 : w.cell? ⟨g, o + 48 + 1, none⟩ = some (.slice Av nv cv) := hrg 1 _ rfl
  have hW : ManI w Av nv cv none 0 0 (((w.alloc (.cells noZ 29)).alloc (.cells noZ 29)).setRow (w.heap.size + 1) (nodRow 3 none 0 0 Av nv cv 0 Nd.z32 none 0 0 none 0 0)) :=
    ⟨((Blk.new w _ _).alloc _).row_far _ (by omega), (Blk.new' (by simp)).row _, below_row (((Below.refl _ _).alloc (Nat.le_refl _) _).alloc (by simp) _) (by omega) _, by simp⟩
  clear hst hrg hone
  replace hT := Lib.hid hT
  replace hin := Lib.hid hin
  replace hall := Lib.hid hall
  replace h17 := Lib.hid h17
  have hSh := Lib.hid hS
  replace hfit := Lib.hid hfit
  replace hlim := Lib.hid hlim
  replace hiv := Lib.hid hiv
  replace hnv := Lib.hid hnv
  replace hW := Lib.hid hW
  clear hS
  have k0 : (w.alloc (.cells noZ 29)).cell? ⟨g, o + 48, none⟩ = some (.bool lz) := (World.cell?_alloc_lt w _ _ (by exact hg)).trans g0
  have k1 : (w.alloc (.cells noZ 29)).cell? ⟨g, o + 48 + 1, none⟩ = some (.slice Av nv cv) := (World.cell?_alloc_lt w _ _ (by exact hg)).trans g1
  go_enter Try.func35, Try.ntmps35
  go_wp2_with (refine wpList_store_row rfl 29 _ _ rfl (w.heap.size + 1) (nodRow 3 none 0 0 Av nv cv 0 Nd.z32 none 0 0 none 0 0) rfl rfl _ _ (Blk.new' (w := w.alloc (.cells noZ 29)) (t := 29) (cs := noZ) (by simp)) (by rw [nodRow_size rfl]; exact info_node) (by rw [nodRow_size rfl]; rfl) (nodRow_one _ _ _ _ _ _ _ _ _ _ _ _ _ _ _) ?_; refine list_at (ManI w Av nv cv none 0 0) hW.out ?_; intro w1 hI; have k2 : w1.cell? ⟨g, o + 48, none⟩ = some (.bool lz) := (hI.bel.cell (p := ⟨g, o + 48, none⟩) hg).trans g0; replace hI := Lib.hid hI)
  clear k0 k1 k2 hW g0 g1
  have hok : ∀ k (h : k < xs.length), ((xs.take (k + 1)).all fun x => (Nd.refOf x).2) = (((xs.take k).all fun x => (Nd.refOf x).2) && (Nd.refOf xs[k]).2) := by
    intro k h
    rw [List.take_succ_eq_append_getElem h, List.all_append]
    simp
  have hrs : ∀ k (h : k < xs.length), ((xs.take (k + 1)).map fun x => (Nd.refOf x).1) = ((xs.take k).map fun x => (Nd.refOf x).1) ++ [(Nd.refOf xs[k]).1] := by
    intro k h
    rw [List.take_succ_eq_append_getElem h, List.map_append]
    rfl
  replace hok := Lib.hid hok
  replace hrs := Lib.hid hrs
  go_loopw [5, 23] (fun okv i wr => ∃ (k : Nat) (A' : Option Addr) (c' : Nat) (vs' : List Value), k ≤ 16 ∧ i = .int .i64 k ∧ okv = .bool (!lz && (xs.take k).all fun x => (Nd.refOf x).2) ∧ RfL (w.heap.size + 2) wr A' k c' vs' ((xs.take k).map fun x => (Nd.refOf x).1) ∧ ManI w Av nv cv A' k c' wr ∧ FrL (w.heap.size + 2) wr A' k c' vs' ((xs.take k).map fun x => (Nd.refOf x).1)) (fun _ i _ => 16 - (intOf i).toNat)
  case atStart => exact ⟨0, none, 0, [], by omega, rfl, by simp, RfL.start, hI.out, FrL.start⟩
  case round =>
    clear hI
    obtain ⟨k, A', c', vs', hk, rfl, rfl, hL, hI, hF⟩ := hrel
    by_cases hlt : k < 16
    · have hlt' : (k : Int) < 16 := by omega
      have hkl : k < xs.length := by rw [h17.out]; omega
      have hok1 := Lib.hid (hok.out k hkl)
      have hrs1 := Lib.hid (hrs.out k hkl)
      have hbs := hI.bel.size
      have hmv : ∀ q, S q → q < w.heap.size → S q ∧ wr.heap[q]? = w.heap[q]? := fun q h1 h2 => ⟨h1, hI.bel.block q h2⟩
      obtain ⟨g2, o2, a, b, z2, he, hSg2, hg2, hrg2, hone2, hst2⟩ := items_at (hin.out.move hmv hbs) (hall.out.imp fun v x hx => hx.move _ _ _ hmv hbs) h17.out.symm k hkl
      injection he with he
      injection he with he1 he2
      subst he1 he2
      have hf := hfit.out _ (List.getElem_mem hkl)
      have hl := hlim.out _ (List.getElem_mem hkl)
      generalize xs[k] = x at *
      have hB := itB_stored (wr := wr) #[a, b, z2]
      have hcall : ∀ w2, ItB wr #[a, b, z2] w2 → Calls Try.prog 51 #[.agg #[a, b, z2]] w2 (RefQ x w2) := fun w2 h2 =>
        node_ref S (.agg #[a, b, z2]) x w2 (hst2.move _ _ _ (fun q h1 h3 => ⟨h1, h2.bel.block q h3⟩) h2.bel.size) (fun q h => by have := hSh.out q h; have := h2.bel.size; omega) hf hl
      have hok2 : (!lz && (xs.take (k + 1)).all fun x => (Nd.refOf x).2) = ((!lz && (xs.take k).all fun x => (Nd.refOf x).2) && (Nd.refOf x).2) := by rw [hok1.out, Bool.and_assoc]
      have hrg3 : wr.rangeAt g (o + k * 3) [a, b, z2] := by rw [Nat.mul_comm k 3]; exact hrg2
      generalize (!lz && (xs.take k).all fun x => (Nd.refOf x).2) = K0 at *
      generalize (xs.take k).map (fun x => (Nd.refOf x).1) = R0 at *
      clear hst2 hf hl hmv hrg2 hok1
      replace hok2 := Lib.hid hok2
      replace hB := Lib.hid hB
      replace hL := Lib.hid hL
      replace hF := Lib.hid hF
      replace hI := Lib.hid hI
      replace hcall := Lib.hid hcall
      cases K0 with
      | true =>
        go_wp2_with (first
          | (refine wpList_load_mid rfl 48 _ rfl g (o + k * 3) rfl [a, b, z2] _ hrg3 Try.underlying48 rfl info_item3 ?_)
          | (refine wpList_store_row rfl 48 _ _ rfl wr.heap.size #[a, b, z2] rfl rfl _ _ (Blk.new wr 48 rowZ) info_item3 rfl (by simpa using hone2) ?_; refine list_at (ItB wr _) hB.out ?_; intro w2 hI2; replace hI2 := Lib.hid hI2)
          | (refine wpList_load_row rfl 48 _ rfl wr.heap.size rfl _ _ _ _ hI2.out.it Try.underlying48 rfl info_item3 ?_)
          | fail)
        refine (hcall.out w2 hI2.out).mono ?_
        rintro e w3 ⟨hb3, vr, rfl, A3, n3, c3, rfl, hd3, hn3, hc3, hm3, hi3⟩
        clear hcall
        generalize (Nd.refOf x).2 = ok2 at *
        generalize (Nd.refOf x).1 = R at *
        obtain ⟨rk, rd, ri⟩ := R
        simp only at hd3 hn3 hi3
        have hsz2 := hI2.out.bel.size
        have hM := man_mid hL.out hI.out hF.out (hI2.out.bel.trans (hb3.mono hsz2)) (x := ⟨rk, rd, ri⟩) (row := refRow rk rd A3 n3 c3) ⟨A3, n3, c3, rfl, hd3, hn3, hc3, hm3, hi3.move (fun q h1 h2 => ⟨h1.move rfl (by have := h1.1; omega), rfl⟩) (Nat.le_refl _)⟩
        replace hM := Lib.hid hM
        replace hd3 := Lib.hid hd3
        replace hn3 := Lib.hid hn3
        replace hb3 := Lib.hid hb3
        replace hi3 := Lib.hid hi3
        go_wp2_with (first
          | (refine wpList_load_row rfl 26 _ rfl w3.heap.size rfl _ _ _ _ hM4.out.y Try.underlying26 rfl (by rw [refRow_size hd3.out]; exact info_ref) ?_)
          | (refine wpList_build_ref rfl _ rfl rk rd n3 hd3.out rfl ?_)
          | (at_builtin; refine wpList_append_refF rfl _ _ rfl (hM4.out.lst.below ((Below.refl _ _).alloc (Nat.le_refl _) (.cells (refRow rk rd A3 n3 c3) 26))) (by have := hM4.out.nod.sz; simp; omega) rfl rfl (by simp) hd3.out (Blk.new w4 26 (refRow rk rd A3 n3 c3)) (hM4.out.rv.move (fun q h1 h2 => ⟨h1, Below.heap_alloc w4 _ q h2⟩) (by simp)) (by omega) ?_; intro A5 c5 w5 hL5 hg5 hob5; have hn := man_next rfl rfl hM4.out hL5 hg5 hob5; clear hob5; have hX5 : Blk w5 (w.heap.size + 1) 29 (nodRow 3 none 0 0 Av nv cv 0 Nd.z32 none 0 0 A' k c') := ((hg5.block _ (by have := hM4.out.nod.sz; simp; omega) (fun e => by have := (hM4.out.lst.own.lt _ e.symm).1; omega)).trans (Below.heap_alloc w4 _ _ (by have := hM4.out.nod.sz; omega))).trans hM4.out.nod.n; have gx : w5.cell? ⟨w.heap.size + 1, 37, none⟩ = some (.slice A' k c') := hX5.cell 37; have fx := hX5.frozen 37; clear hX5; replace hL5 := Lib.hid hL5; replace hg5 := Lib.hid hg5; replace hn := Lib.hid hn)
          | (refine wpList_store_row rfl 26 _ _ rfl w3.heap.size (refRow rk rd A3 n3 c3) rfl rfl _ _ (Blk.new w3 26 refZ) (by rw [refRow_size hd3.out]; exact info_ref) (by rw [refRow_size hd3.out]; rfl) (refRow_one _ _ _ _ _) ?_; refine list_at (ManM w Av nv cv w3.heap.size (refRow rk rd A3 n3 c3) ⟨rk, rd, ri⟩ A' k c' vs' R0) hM.out ?_; intro w4 hM4; have g37 : w4.cell? ⟨w.heap.size + 1, 37, none⟩ = some (.slice A' k c') := hM4.nod.n.cell 37; replace hM4 := Lib.hid hM4)
          | fail)
        refine ⟨⟨k + 1, A5, c5, _, by omega, by go_num, by rw [hok2.out]; rfl, by rw [hrs1.out]; exact hn.out.1, hn.out.2.1, by rw [hrs1.out]; exact hn.out.2.2⟩, ?_⟩
        simp [intOf]; omega
      | false =>
        go_wp2_with (first
          | (refine wpList_load_mid rfl 48 _ rfl g (o + k * 3) rfl [a, b, z2] _ hrg3 Try.underlying48 rfl info_item3 ?_)
          | (refine wpList_store_row rfl 48 _ _ rfl wr.heap.size #[a, b, z2] rfl rfl _ _ (Blk.new wr 48 rowZ) info_item3 rfl (by simpa using hone2) ?_; refine list_at (ItB wr _) hB.out ?_; intro w2 hI2; replace hI2 := Lib.hid hI2)
          | (refine wpList_load_row rfl 48 _ rfl wr.heap.size rfl _ _ _ _ hI2.out.it Try.underlying48 rfl info_item3 ?_)
          | fail)
        refine (hcall.out w2 hI2.out).mono ?_
        rintro e w3 ⟨hb3, vr, rfl, A3, n3, c3, rfl, hd3, hn3, hc3, hm3, hi3⟩
        clear hcall
        generalize (Nd.refOf x).2 = ok2 at *
        generalize (Nd.refOf x).1 = R at *
        obtain ⟨rk, rd, ri⟩ := R
        simp only at hd3 hn3 hi3
        have hsz2 := hI2.out.bel.size
        have hM := man_mid hL.out hI.out hF.out (hI2.out.bel.trans (hb3.mono hsz2)) (x := ⟨rk, rd, ri⟩) (row := refRow rk rd A3 n3 c3) ⟨A3, n3, c3, rfl, hd3, hn3, hc3, hm3, hi3.move (fun q h1 h2 => ⟨h1.move rfl (by have := h1.1; omega), rfl⟩) (Nat.le_refl _)⟩
        replace hM := Lib.hid hM
        replace hd3 := Lib.hid hd3
        replace hn3 := Lib.hid hn3
        replace hb3 := Lib.hid hb3
        replace hi3 := Lib.hid hi3
        go_wp2_with (first
          | (refine wpList_load_row rfl 26 _ rfl w3.heap.size rfl _ _ _ _ hM4.out.y Try.underlying26 rfl (by rw [refRow_size hd3.out]; exact info_ref) ?_)
          | (refine wpList_build_ref rfl _ rfl rk rd n3 hd3.out rfl ?_)
          | (at_builtin; refine wpList_append_refF rfl _ _ rfl (hM4.out.lst.below ((Below.refl _ _).alloc (Nat.le_refl _) (.cells (refRow rk rd A3 n3 c3) 26))) (by have := hM4.out.nod.sz; simp; omega) rfl rfl (by simp) hd3.out (Blk.new w4 26 (refRow rk rd A3 n3 c3)) (hM4.out.rv.move (fun q h1 h2 => ⟨h1, Below.heap_alloc w4 _ q h2⟩) (by simp)) (by omega) ?_; intro A5 c5 w5 hL5 hg5 hob5; have hn := man_next rfl rfl hM4.out hL5 hg5 hob5; clear hob5; have hX5 : Blk w5 (w.heap.size + 1) 29 (nodRow 3 none 0 0 Av nv cv 0 Nd.z32 none 0 0 A' k c') := ((hg5.block _ (by have := hM4.out.nod.sz; simp; omega) (fun e => by have := (hM4.out.lst.own.lt _ e.symm).1; omega)).trans (Below.heap_alloc w4 _ _ (by have := hM4.out.nod.sz; omega))).trans hM4.out.nod.n; have gx : w5.cell? ⟨w.heap.size + 1, 37, none⟩ = some (.slice A' k c') := hX5.cell 37; have fx := hX5.frozen 37; clear hX5; replace hL5 := Lib.hid hL5; replace hg5 := Lib.hid hg5; replace hn := Lib.hid hn)
          | (refine wpList_store_row rfl 26 _ _ rfl w3.heap.size (refRow rk rd A3 n3 c3) rfl rfl _ _ (Blk.new w3 26 refZ) (by rw [refRow_size hd3.out]; exact info_ref) (by rw [refRow_size hd3.out]; rfl) (refRow_one _ _ _ _ _) ?_; refine list_at (ManM w Av nv cv w3.heap.size (refRow rk rd A3 n3 c3) ⟨rk, rd, ri⟩ A' k c' vs' R0) hM.out ?_; intro w4 hM4; have g37 : w4.cell? ⟨w.heap.size + 1, 37, none⟩ = some (.slice A' k c') := hM4.nod.n.cell 37; replace hM4 := Lib.hid hM4)
          | fail)
        refine ⟨⟨k + 1, A5, c5, _, by omega, by go_num, by rw [hok2.out]; rfl, by rw [hrs1.out]; exact hn.out.1, hn.out.2.1, by rw [hrs1.out]; exact hn.out.2.2⟩, ?_⟩
        simp [intOf]; omega
    · obtain rfl : k = 16 := by omega
      have hlt' : ¬ ((16 : Nat) : Int) < 16 := by omega
      have hsz := hI.sz
      have hO := Own.of_row hL.own
      have hbn := hI.n
      have hbr := hI.res
      replace hL := Lib.hid hL
      replace hF := Lib.hid hF
      replace hI := Lib.hid hI
      replace hO := Lib.hid hO
      go_wp2_with (first
        | (refine wpList_load_row rfl 29 _ rfl (w.heap.size + 1) rfl _ _ _ _ hbn Try.underlying29 rfl (by rw [nodRow_size rfl]; exact info_node) ?_)
        | (refine wpList_store_row rfl 29 _ _ rfl w.heap.size (nodRow 3 none 0 0 Av nv cv 0 Nd.z32 none 0 0 A' 16 c') rfl rfl _ _ hbr (by rw [nodRow_size rfl]; exact info_node) (by rw [nodRow_size rfl]; rfl) (nodRow_one _ _ _ _ _ _ _ _ _ _ _ _ _ _ _) ?_)
        | fail)
      refine bodyPost_ret (v := .tuple #[.agg (nodRow 3 none 0 0 Av nv cv 0 Nd.z32 none 0 0 A' 16 c'), .bool (!lz && (xs.take 16).all fun x => (Nd.refOf x).2)]) (results_row_tmp rfl _ _ w.heap.size _ (nodRow 3 none 0 0 Av nv cv 0 Nd.z32 none 0 0 A' 16 c') _ _ _ rfl rfl (hbr.row _) Try.underlying29 rfl (by rw [nodRow_size rfl]; exact info_node)) rfl ?_
      rw [hT.out]
      have hbF := below_row hI.out.bel (Nat.le_refl _) (nodRow 3 none 0 0 Av nv cv 0 Nd.z32 none 0 0 A' 16 c')
      refine ⟨hbF, _, rfl, none, 0, 0, Av, nv, cv, none, 0, 0, A', 16, c', vs', rfl, rfl, ⟨rfl, Nat.le_refl _, by unfold maxLen; omega, ⟨rfl, fun h => by omega⟩⟩,
        ⟨hnv.out, hcv, ‹cv ≤ maxLen›, hiv.out.move (fun q h1 h2 => ⟨.inl h1, hbF.block q h2⟩) hbF.size⟩, ⟨rfl, Nat.le_refl _, by unfold maxLen; omega, ⟨rfl, fun h => by omega⟩⟩,
        hL.out.len, hO.out.cap, hO.out.lim, (InS.of_ownF hO.out).move (fun q h1 h2 => have h3 := h1.1; have e := setRow_other wr w.heap.size q (nodRow 3 none 0 0 Av nv cv 0 Nd.z32 none 0 0 A' 16 c') (by omega); ⟨.inr (h1.move e (by omega)), e⟩) (by simp), ?_⟩
      refine hF.out.imp fun v x hx => hx.move (fun q h1 h2 => ?_) (by simp)
      have h3 := h1.1.1
      have e := setRow_other wr w.heap.size q (nodRow 3 none 0 0 Av nv cv 0 Nd.z32 none 0 0 A' 16 c') (by omega)
      exact ⟨.inr (h1.1.move e (by omega)), e⟩
end Go.Proofs.Yteknhmhmepnfjaa

/-
  Package node: Decode.
-/
namespace Go.Proofs.Yteknhmhmepnfjaa
open Go.RowKit

theorem NodIn.move {S S' : Nat → Prop} {w w' : World} {v : Value} {x : Nd.No} (h : NodIn S w v x) (hS : ∀ g, S g → g < w.heap.size → S' g ∧ w'.heap[g]? = w.heap[g]?) (hs : w.heap.size ≤ w'.heap.size) : NodIn S' w' v x := by
  obtain ⟨Ap, np, cp, Av, nv, cv, Ac, nc, cc, Ak, nk, kk, vs, h1, h2, ⟨p1, p2, p3, p4⟩, ⟨v1, v2, v3, v4⟩, ⟨c1, c2, c3, c4⟩, k1, k2, k3, k4, k5⟩ := h
  exact ⟨Ap, np, cp, Av, nv, cv, Ac, nc, cc, Ak, nk, kk, vs, h1, h2, ⟨p1, p2, p3, p4.move hS hs⟩, ⟨v1, v2, v3, v4.move hS hs⟩, ⟨c1, c2, c3, c4.move hS hs⟩, k1, k2, k3, k4.move hS hs, k5.imp fun v x hx => hx.move hS hs⟩
namespace Nd
theorem shape_many (xs : List (Ns.It 8)) (h : xs.length = 17) : shape xs = many (xs.take 16) (xs[16]'(by omega)) := by
  unfold shape
  split
  · simp at h
  · rw [dif_pos h]
theorem shape_else (xs : List (Ns.It 8)) (h : xs.length ≠ 17) (h2 : xs.length ≠ 2) : shape xs = (no0, false) := by
  unfold shape
  split
  · simp at h2
  · rw [dif_neg h]
theorem list_two {α : Type} (xs : List α) (h : xs.length = 2) : ∃ p o, xs = [p, o] := by
  match xs, h with
  | [p, o], _ => exact ⟨p, o, rfl⟩
end Nd
theorem enc_mem (d : Nat) (xs : List (Ns.It d)) (x : Ns.It d) (hx : x ∈ xs) : (Ns.enc d x).length ≤ (xs.flatMap (Ns.enc d)).length := by
  induction xs with
  | nil => cases hx
  | cons y ys ih =>
    rw [List.flatMap_cons, List.length_append]
    rcases List.mem_cons.1 hx with rfl | hx
    · omega
    · have := ih hx; omega
theorem bytesOf_le (d : Nat) (x : Ns.It (d + 1)) (h : Ns.fit d x) : (bytesOf x).length ≤ 16777215 := by
  cases x with
  | inl b => have h2 := Ns.fit_tx d b; exact (h2 ▸ (show Ns.fit d (Ns.tx b) from h) : b.length ≤ Ns.maxBytes)
  | inr xs => exact Nat.zero_le _
/-- what node.Decode answers: nothing of it is frozen -/
def NodQF (b : List UInt8) (w : World) (e : Ending) (w' : World) : Prop := Below w.heap.size w w' ∧ match Nd.dec b with
  | some x => ∃ v, e = .returned (.tuple #[v, .int .i64 0]) ∧ NodIn (Fr w' w.heap.size) w' v x
  | none => e = .returned (.tuple #[.agg noZ, .int .i64 50])
def NodCF (b : List UInt8) : Prop := ∀ (A : Option Addr) (n c : Nat) (w : World), Bytes w w.heap.size A n c b → Calls Try.prog 13 #[.slice A n c] w (NodQF b w)
theorem NodQF.weak {b : List UInt8} {w w' : World} {e : Ending} (h : NodQF b w e w') : NodQ b w e w' := by
  obtain ⟨hb, h⟩ := h
  refine ⟨hb, ?_⟩
  generalize Nd.dec b = R at *
  cases R with
  | none => exact h
  | some x => obtain ⟨v, rfl, hv⟩ := h; exact ⟨v, rfl, hv.move (fun q h _ => ⟨h.1, rfl⟩) (Nat.le_refl _)⟩
theorem NodCF.weak {b : List UInt8} (h : NodCF b) : NodC b := fun A n c w hB => (h A n c w hB).mono fun _ _ h => h.weak
/-- in the midst of Decode: the result, the item's row -/
structure DecI (w : World) (row : Array Value) (w1 : World) (W : World) : Prop where
  res : Blk W w.heap.size 29 noZ
  it : Blk W w1.heap.size 48 row
  gt : w.heap.size < w1.heap.size
  bel : Below w.heap.size w W
  b1 : Below w1.heap.size w1 W
theorem DecI.step {w w1 W W' : World} {row : Array Value} (h : DecI w row w1 W) (hb : Below W.heap.size W W') : DecI w row w1 W' :=
  ⟨h.res.below hb h.res.lt, h.it.below hb h.it.lt, h.gt, h.bel.trans (hb.mono h.bel.size), h.b1.trans (hb.mono h.b1.size)⟩
theorem dec_stored {w w1 : World} (row : Array Value) (hr : Blk w1 w.heap.size 29 noZ) (hb : Below w.heap.size w w1) : DecI w row w1 ((w1.alloc (.cells rowZ 48)).setRow w1.heap.size row) :=
  ⟨(hr.alloc _).row_far _ (by have := hr.lt; omega), (Blk.new w1 _ _).row _, hr.lt, below_row (hb.alloc hb.size _) hb.size _, below_row ((Below.refl _ _).alloc (Nat.le_refl _) _) (Nat.le_refl _) _⟩
/-- .. the node variable beside it -/
structure DecN (w : World) (row : Array Value) (w1 : World) (gn : Nat) (W : World) : Prop where
  d : DecI w row w1 W
  n : Blk W gn 29 noZ
  gt : w.heap.size < gn
/-- .. and the node that the item says -/
structure DecX (w : World) (gn : Nat) (cs : List Value) (x : Nd.No) (W : World) : Prop where
  res : Blk W w.heap.size 29 noZ
  n : Blk W gn 29 cs.toArray
  gt : w.heap.size < gn
  nin : NodIn (fun q => Fr W (w.heap.size + 1) q ∧ q ≠ gn) W (.agg cs.toArray) x
  bel : Below w.heap.size w W
theorem decX_stored {w w2 w3 : World} {row : Array Value} {w1 : World} {gn : Nat} {cs : List Value} {x : Nd.No} (h : DecN w row w1 gn w2) (hgn : w1.heap.size < gn) (hb : Below w2.heap.size w2 w3)
    (hx : NodIn (fun q => (Fr w1 (w.heap.size + 1) q ∧ q < w1.heap.size) ∨ Fr w3 w2.heap.size q) w3 (.agg cs.toArray) x) : DecX w gn cs x (w3.setRow gn cs.toArray) := by
  have hl := h.n.lt
  have hs := hb.size
  have hg := h.gt
  refine ⟨(h.d.res.below hb h.d.res.lt).row_far _ (by omega), (h.n.below hb h.n.lt).row _, h.gt, hx.move (fun q h1 h2 => ?_) (by simp), below_row (h.d.bel.trans (hb.mono h.d.bel.size)) (by omega) _⟩
  rcases h1 with ⟨h1, h3⟩ | h1
  · have h4 := h1.1
    have e := setRow_other w3 gn q cs.toArray (by omega)
    have e2 : w3.heap[q]? = w1.heap[q]? := (hb.block q (by have := h.d.b1.size; omega)).trans (h.d.b1.block q h3)
    exact ⟨⟨h1.move (e.trans e2) h4, by omega⟩, e⟩
  · have h4 := h1.1
    have e := setRow_other w3 gn q cs.toArray (by omega)
    exact ⟨⟨h1.move e (by omega), by omega⟩, e⟩
theorem DecX.step {w W W' : World} {gn : Nat} {cs : List Value} {x : Nd.No} (h : DecX w gn cs x W) (hb : Below W.heap.size W W') : DecX w gn cs x W' :=
  ⟨h.res.below hb h.res.lt, h.n.below hb h.n.lt, h.gt, h.nin.move (fun q h1 h2 => have e := hb.block q h2; ⟨⟨h1.1.move e h1.1.1, h1.2⟩, e⟩) hb.size, h.bel.trans (hb.mono h.bel.size)⟩
theorem DecX.range {w W : World} {gn : Nat} {cs : List Value} {x : Nd.No} (h : DecX w gn cs x W) : W.rangeAt gn 0 cs := by
  intro j u hu
  rw [Nat.zero_add, h.n.cell j, List.getElem?_toArray]
  exact hu
/-- what region 8 reads -/
structure Dec8 (g1 g o : Nat) (c2 : Nat) (l1 l2 : List Value) (W : World) : Prop where
  it : W.cell? ⟨g1, 2, none⟩ = some (.slice (some ⟨g, o, none⟩) 2 c2)
  r1 : W.rangeAt g o l1
  r2 : W.rangeAt g (o + 3) l2
theorem Dec8.step {g1 g o c2 : Nat} {l1 l2 : List Value} {W W' : World} (h : Dec8 g1 g o c2 l1 l2 W) (hb : Below W.heap.size W W') (h1 : g1 < W.heap.size) (h2 : g < W.heap.size) : Dec8 g1 g o c2 l1 l2 W' :=
  ⟨(hb.cell (p := ⟨g1, 2, none⟩) h1).trans h.it, fun j u hu => (hb.cell (p := ⟨g, o + j, none⟩) h2).trans (h.r1 j u hu), fun j u hu => (hb.cell (p := ⟨g, o + 3 + j, none⟩) h2).trans (h.r2 j u hu)⟩
theorem Dec8.row {g1 g o c2 gn : Nat} {l1 l2 : List Value} {W : World} (cs : Array Value) (h : Dec8 g1 g o c2 l1 l2 W) (h1 : g1 ≠ gn) (h2 : g ≠ gn) : Dec8 g1 g o c2 l1 l2 (W.setRow gn cs) := by
  have e1 : (W.setRow gn cs).heap[g1]? = W.heap[g1]? := setRow_other _ _ _ _ h1
  have e2 : (W.setRow gn cs).heap[g]? = W.heap[g]? := setRow_other _ _ _ _ h2
  exact ⟨(World.cell?_of_block (a := ⟨g1, 2, none⟩) e1).trans h.it, fun j u hu => (World.cell?_of_block (a := ⟨g, o + j, none⟩) e2).trans (h.r1 j u hu), fun j u hu => (World.cell?_of_block (a := ⟨g, o + 3 + j, none⟩) e2).trans (h.r2 j u hu)⟩
theorem shape_eq_two (p o : Ns.It 8) : Nd.shape [p, o] = Nd.two p o := rfl
set_option maxHeartbeats 2000000 in
set_option maxRecDepth 100000 in
theorem node_DecodeI (b : List UInt8) (ih : ∀ b' : List UInt8, b'.length < b.length → NodC b') : NodCF b := by
  intro A n c w hB
  have hdc := nest_DecodeF A n c b (w.alloc (.cells noZ 29)) ((hB.alloc (Nat.le_refl _) _).more (by simp))
  have hD := Nd.dec_eq b
  have hlen := hB.len
  have hr0 : Blk (w.alloc (.cells noZ 29)) w.heap.size 29 noZ := Blk.new w _ _
  have hbe0 : Below w.heap.size w (w.alloc (.cells noZ 29)) := (Below.refl _ _).alloc (Nat.le_refl _) _
  have hs0 : (w.alloc (.cells noZ 29)).heap.size = w.heap.size + 1 := by simp
  have hnq : NodQF b w = fun e w' => Below w.heap.size w w' ∧ match Nd.dec b with
  | some x => ∃ v, e = .returned (.tuple #[v, .int .i64 0]) ∧ NodIn (Fr w' w.heap.size) w' v x
  | none => e = .returned (.tuple #[.agg noZ, .int .i64 50]) := rfl
  generalize NodQF b w = Q at *
  generalize Nd.dec b = R at *
  subst hlen
  clear hB
  replace ih := Lib.hid ih
  replace hnq := Lib.hid hnq
  replace hr0 := Lib.hid hr0
  replace hbe0 := Lib.hid hbe0
  replace hs0 := Lib.hid hs0
  replace hD := Lib.hid hD
  go_enter Try.func13, Try.ntmps13
  go_wp2_with fail
  refine hdc.mono ?_
  rintro e w1 ⟨hb1, hq⟩
  clear hdc
  have hr1 := hr0.out.below hb1 (by have := hs0.out; omega)
  have hbe1 := hbe0.out.trans (hb1.mono hbe0.out.size)
  cases hx : Ns.dec b with
  | error k =>
    rw [hx] at hq
    obtain ⟨rfl, hk⟩ := hq
    have hR := Lib.hid (show R = none by rw [hD.out, hx])
    have hst := Lib.hid (dec_stored (w := w) (w1 := w1) #[.bool false, .slice none 0 0, .slice none 0 0] hr1 hbe1)
    clear hD hx hb1 hr1 hr0 hbe0
    rw [show itemZ = .agg #[.bool false, .slice none 0 0, .slice none 0 0] from rfl]
    go_wp2_with (first
      | (refine wpList_store_row rfl 48 _ _ rfl w1.heap.size #[.bool false, .slice none 0 0, .slice none 0 0] rfl rfl _ _ (Blk.new w1 48 rowZ) info_item3 rfl (by simp [Value.oneCell']) ?_; refine list_at (DecI w #[.bool false, .slice none 0 0, .slice none 0 0] w1) hst.out ?_; intro w2 hI2; have k0 : w2.cell? ⟨w1.heap.size, 0, none⟩ = some (.bool false) := hI2.it.cell 0; have k2 : ∀ o : Obj, (w2.alloc o).cell? ⟨w1.heap.size, 2, none⟩ = some (.slice none 0 0) := fun o => (World.cell?_alloc_lt w2 _ _ (by exact hI2.it.lt)).trans (hI2.it.cell 2); replace hI2 := Lib.hid hI2)
      | (refine wpList_store_row rfl 29 _ _ rfl w.heap.size noZ rfl rfl _ _ hI2.out.res info_node rfl noZ_one ?_)
      | fail)
    refine bodyPost_ret (v := .tuple #[.agg noZ, .int .i64 50]) (results_row_tmp rfl _ _ w.heap.size _ noZ _ _ _ rfl rfl (hI2.out.res.row _) Try.underlying29 rfl info_node) rfl ?_
    rw [hnq.out, hR.out]
    exact ⟨below_row hI2.out.bel (Nat.le_refl _) _, rfl⟩
  | ok y =>
    rw [hx] at hq
    obtain ⟨v, rfl, hv⟩ := hq
    cases y with
    | inl bb =>
      have hR := Lib.hid (show R = none by rw [hD.out, hx])
      obtain ⟨A2, n2, c2, rfl, -⟩ := hv
      unfold txV
      have hst := Lib.hid (dec_stored (w := w) (w1 := w1) #[.bool false, .slice A2 n2 c2, .slice none 0 0] hr1 hbe1)
      clear hD hx hb1 hr1 hr0 hbe0
      go_wp2_with (first
        | (refine wpList_store_row rfl 48 _ _ rfl w1.heap.size #[.bool false, .slice A2 n2 c2, .slice none 0 0] rfl rfl _ _ (Blk.new w1 48 rowZ) info_item3 rfl (by simp [Value.oneCell']) ?_; refine list_at (DecI w #[.bool false, .slice A2 n2 c2, .slice none 0 0] w1) hst.out ?_; intro w2 hI2; have k0 : w2.cell? ⟨w1.heap.size, 0, none⟩ = some (.bool false) := hI2.it.cell 0; have k2 : ∀ o : Obj, (w2.alloc o).cell? ⟨w1.heap.size, 2, none⟩ = some (.slice none 0 0) := fun o => (World.cell?_alloc_lt w2 _ _ (by exact hI2.it.lt)).trans (hI2.it.cell 2); replace hI2 := Lib.hid hI2)
        | (refine wpList_store_row rfl 29 _ _ rfl w.heap.size noZ rfl rfl _ _ hI2.out.res info_node rfl noZ_one ?_)
        | fail)
      refine bodyPost_ret (v := .tuple #[.agg noZ, .int .i64 50]) (results_row_tmp rfl _ _ w.heap.size _ noZ _ _ _ rfl rfl (hI2.out.res.row _) Try.underlying29 rfl info_node) rfl ?_
      rw [hnq.out, hR.out]
      exact ⟨below_row hI2.out.bel (Nat.le_refl _) _, rfl⟩
    | inr xs =>
      obtain ⟨A2, n2, c2, vs, rfl, hn2, hc2, hm2, hin, hall⟩ := hv
      have hR : R = if (Nd.shape xs).2 = true ∧ Nd.right Nd.dec (Nd.shape xs).1 = true then some (Nd.shape xs).1 else none := by rw [hD.out, hx]
      have hsh := Nd.shape_shorter hx
      obtain ⟨hbl, hft⟩ := Ns.dec_ok b _ hx
      have hfit : ∀ x ∈ xs, Ns.fit 7 x := hft.2
      have hlim : ∀ x ∈ xs, (Ns.enc 8 x).length ≤ 16777215 := fun x hx => Nat.le_trans (enc_mem 8 xs x hx) hft.1
      unfold lsV
      have hst := Lib.hid (dec_stored (w := w) (w1 := w1) #[.bool true, .slice none 0 0, .slice A2 n2 c2] hr1 hbe1)
      clear hD hx hb1 hr1 hr0 hbe0 hbl hft
      replace hR := Lib.hid hR
      replace hsh := Lib.hid hsh
      replace hfit := Lib.hid hfit
      replace hlim := Lib.hid hlim
      replace hin := Lib.hid hin
      replace hall := Lib.hid hall
      replace hn2 := Lib.hid hn2
      go_upto_region 5 with (refine wpList_store_row rfl 48 _ _ rfl w1.heap.size #[.bool true, .slice none 0 0, .slice A2 n2 c2] rfl rfl _ _ (Blk.new w1 48 rowZ) info_item3 rfl (by simp [Value.oneCell']) ?_; refine list_at (DecI w #[.bool true, .slice none 0 0, .slice A2 n2 c2] w1) hst.out ?_; intro w2 hI2; have k0 : w2.cell? ⟨w1.heap.size, 0, none⟩ = some (.bool true) := hI2.it.cell 0; have k2 : ∀ o : Obj, (w2.alloc o).cell? ⟨w1.heap.size, 2, none⟩ = some (.slice A2 n2 c2) := fun o => (World.cell?_alloc_lt w2 _ _ (by exact hI2.it.lt)).trans (hI2.it.cell 2); replace hI2 := Lib.hid hI2)
      have hN0 : DecN w #[.bool true, .slice none 0 0, .slice A2 n2 c2] w1 w2.heap.size (w2.alloc (.cells noZ 29)) := ⟨hI2.out.step ((Below.refl _ _).alloc (Nat.le_refl _) _), Blk.new w2 _ _, by have := hI2.out.res.lt; omega⟩
      have hgn : w1.heap.size < w2.heap.size := hI2.out.it.lt
      clear k0 k2 hst hI2
      generalize hgn2 : w2.heap.size = gn at *
      replace hgn2 := Lib.hid hgn2
      refine code_at (DecN w #[.bool true, .slice none 0 0, .slice A2 n2 c2] w1 gn) hN0 ?_
      clear hN0 hgn2 w2
      intro w3 hN
      have k2 : w3.cell? ⟨w1.heap.size, 2, none⟩ = some (.slice A2 n2 c2) := hN.d.it.cell 2
      have hs1 := Lib.hid hbe1.size
      replace hbe1 := Lib.hid hbe1
      replace hN := Lib.hid hN
      have hlt1 := hs0.out
      by_cases h17 : n2 = 17
      · subst h17
        have hxl : xs.length = 17 := hn2.out.symm
        have hcall := node_many (fun q => Fr w1 (w.heap.size + 1) q ∧ q < w1.heap.size) A2 c2 vs xs w3 (hin.out.move (fun q h1 h2 => ⟨⟨h1.move rfl (by have := h1.1; omega), h2⟩, hN.out.d.b1.block q h2⟩) hN.out.d.b1.size) (hall.out.imp fun v x hx => hx.move _ _ _ (fun q h1 h2 => ⟨⟨h1.move rfl (by have := h1.1; omega), h2⟩, hN.out.d.b1.block q h2⟩) hN.out.d.b1.size) hxl hc2 hm2 (fun q h => by have := hN.out.d.b1.size; have := h.2; omega) hfit.out hlim.out
        rw [← Nd.shape_many xs hxl] at hcall
        have hdx : ∀ (w4 : World) (cs : List Value), Below w3.heap.size w3 w4 → NodIn (fun q => (Fr w1 (w.heap.size + 1) q ∧ q < w1.heap.size) ∨ Fr w4 w3.heap.size q) w4 (.agg cs.toArray) (Nd.shape xs).1 → DecX w gn cs (Nd.shape xs).1 (w4.setRow gn cs.toArray) :=
          fun w4 cs hb hx => decX_stored hN.out hgn hb hx
        clear hlt1
        replace hdx := Lib.hid hdx
        go_wp2_with fail
        refine hcall.mono ?_
        rintro e w4 ⟨hb4, v, rfl, hx4⟩
        obtain ⟨cs, rfl, hcl, hone, -⟩ := hx4.row
        have hX := Lib.hid (hdx.out w4 cs hb4 hx4)
        have hn4 := Lib.hid (hN.out.n.below hb4 hN.out.n.lt)
        clear hcall hx4 hb4 hdx k2
        have hcs := Lib.hid (show cs.toArray.size = 38 by simp [hcl])
        replace hcl := Lib.hid hcl
        replace hone := Lib.hid hone
        go_upto_region 11 with (refine wpList_store_row rfl 29 _ _ rfl gn cs.toArray rfl rfl _ _ hn4.out (by rw [hcs.out]; exact info_node) (by rw [hcs.out]; rfl) (by simpa using hone.out) ?_)
        refine code_at (DecX w gn cs (Nd.shape xs).1) hX.out ?_
        clear hX hn4 hN w4 w3
        intro w4 hX4
        replace hX4 := Lib.hid hX4
        have hsz4 := hX4.out.bel.size
        have hR4 : (∀ r ∈ Nd.refs (Nd.shape xs).1, r.kind = 1 → NodC r.inl) := fun r hr _ => ih.out _ (hsh.out r hr)
        replace hR4 := Lib.hid hR4
        generalize (Nd.shape xs).1 = X at *
        generalize (Nd.shape xs).2 = ok at *
        cases ok with
        | false =>
          have hRn := Lib.hid (show R = none by rw [hR.out]; simp)
          go_wp2_with (first
            | (refine wpList_store_row rfl 29 _ _ rfl w.heap.size noZ rfl rfl _ _ hX4.out.res info_node rfl noZ_one ?_)
            | fail)
          refine bodyPost_ret (v := .tuple #[.agg noZ, .int .i64 50]) (results_row_tmp rfl _ _ w.heap.size _ noZ _ _ _ rfl rfl (hX4.out.res.row _) Try.underlying29 rfl info_node) rfl ?_
          rw [hnq.out, hRn.out]
          exact ⟨below_row hX4.out.bel (Nat.le_refl _) _, rfl⟩
        | true =>
          have hrgt := node_Right (fun q => q < w4.heap.size) (.agg cs.toArray) X w4 (hX4.out.nin.move (fun q h1 h2 => ⟨h2, rfl⟩) (Nat.le_refl _)) (fun q h => h) hR4.out
          have hrg4 := hX4.out.range
          generalize Nd.right Nd.dec X = RT at *
          go_wp2_with (first
            | (refine wpList_mid_g (by rfl) 29 _ rfl gn 0 rfl cs _ hrg4 Try.underlying29 rfl (by rw [hcl.out]; exact info_node) ?_)
            | fail)
          refine hrgt.mono ?_
          rintro e w5 ⟨rfl, hb5⟩
          have hX5 := Lib.hid (hX4.out.step hb5)
          clear hrg4 hrgt hb5
          cases RT with
          | false =>
            have hRn := Lib.hid (show R = none by rw [hR.out]; simp)
            go_wp2_with (first
              | (refine wpList_store_row rfl 29 _ _ rfl w.heap.size noZ rfl rfl _ _ hX5.out.res info_node rfl noZ_one ?_)
              | fail)
            refine bodyPost_ret (v := .tuple #[.agg noZ, .int .i64 50]) (results_row_tmp rfl _ _ w.heap.size _ noZ _ _ _ rfl rfl (hX5.out.res.row _) Try.underlying29 rfl info_node) rfl ?_
            rw [hnq.out, hRn.out]
            exact ⟨below_row hX5.out.bel (Nat.le_refl _) _, rfl⟩
          | true =>
            have hRn := Lib.hid (show R = some X by rw [hR.out]; simp)
            go_wp2_with (first
              | (refine wpList_load_row rfl 29 _ rfl gn rfl _ _ _ _ hX5.out.n Try.underlying29 rfl (by rw [hcs.out]; exact info_node) ?_)
              | (refine wpList_store_row rfl 29 _ _ rfl w.heap.size cs.toArray rfl rfl _ _ hX5.out.res (by rw [hcs.out]; exact info_node) (by rw [hcs.out]; rfl) (by simpa using hone.out) ?_)
              | fail)
            refine bodyPost_ret (v := .tuple #[.agg cs.toArray, .int .i64 0]) (results_row_tmp rfl _ _ w.heap.size _ cs.toArray _ _ _ rfl rfl (hX5.out.res.row _) Try.underlying29 rfl (by rw [hcs.out]; exact info_node)) rfl ?_
            rw [hnq.out, hRn.out]
            exact ⟨below_row hX5.out.bel (Nat.le_refl _) _, _, rfl, hX5.out.nin.move (fun q h1 h2 => have h3 := h1.1.1; have e := setRow_other w5 w.heap.size q cs.toArray (by omega); ⟨h1.1.move e (by omega), e⟩) (by simp)⟩
      by_cases h2 : n2 = 2
      · subst h2
        obtain ⟨p, o', rfl⟩ := Nd.list_two xs hn2.out.symm
        have hb3 := hN.out.d.b1
        have hmv : ∀ q, Fr w1 (w.alloc (.cells noZ 29)).heap.size q → q < w1.heap.size → (Fr w1 (w.heap.size + 1) q ∧ q < w1.heap.size) ∧ w3.heap[q]? = w1.heap[q]? := fun q h1 h2 => ⟨⟨h1.move rfl (by have := h1.1; omega), h2⟩, hb3.block q h2⟩
        have hin3 := hin.out.move hmv hb3.size
        have hall3 := hall.out.imp fun v x hx => hx.move _ _ _ hmv hb3.size
        obtain ⟨g, o, a1, b1, z1, rfl, hSg, hg3, hr1, -, hs1'⟩ := items_at hin3 hall3 rfl 0 (by simp)
        obtain ⟨g', o2, a2, b2, z2, he, -, -, hr2, -, hs2'⟩ := items_at hin3 hall3 rfl 1 (by simp)
        injection he with he
        injection he with he1 he2
        subst he1 he2
        have hcall : ∀ w4, Below w3.heap.size w3 w4 → Calls Try.prog 34 #[.agg #[a1, b1, z1], .agg #[a2, b2, z2]] w4 (ShpQ (fun q => Fr w1 (w.heap.size + 1) q ∧ q < w1.heap.size) (Nd.two p o').1 (Nd.two p o').2 w4) := fun w4 h4 =>
          node_two (fun q => Fr w1 (w.heap.size + 1) q ∧ q < w1.heap.size) _ _ p o' w4 (hs1'.move _ _ _ (fun q h1 h2 => ⟨h1, h4.block q h2⟩) h4.size) (hs2'.move _ _ _ (fun q h1 h2 => ⟨h1, h4.block q h2⟩) h4.size) (fun q h => by have := hb3.size; have := h4.size; have := h.2; omega) (bytesOf_le 7 p (hfit.out p (by simp))) (hfit.out o' (by simp)) (hlim.out o' (by simp))
        rw [← shape_eq_two] at hcall
        have hdx : ∀ (w4 : World) (cs : List Value), Below w3.heap.size w3 w4 → NodIn (fun q => (Fr w1 (w.heap.size + 1) q ∧ q < w1.heap.size) ∨ Fr w4 w3.heap.size q) w4 (.agg cs.toArray) (Nd.shape [p, o']).1 → DecX w gn cs (Nd.shape [p, o']).1 (w4.setRow gn cs.toArray) :=
          fun w4 cs hb hx => decX_stored hN.out hgn hb hx
        have h8 : Dec8 w1.heap.size g o c2 [a1, b1, z1] [a2, b2, z2] w3 := ⟨k2, hr1, hr2⟩
        have hg1 : g < w1.heap.size := hSg.2
        clear hlt1 hin3 hall3 hs1' hs2' hr1 hr2 hmv hb3 hSg
        generalize [p, o'] = xs at *
        replace hdx := Lib.hid hdx
        replace hcall := Lib.hid hcall
        replace h8 := Lib.hid h8
        go_wp2_with fail
        refine wp_region_held_drew (S := (Dec8 w1.heap.size g o c2 [a1, b1, z1] [a2, b2, z2])) (by kernel_rfl) (by exact ⟨h8.out.it, h8.out.r1, h8.out.r2⟩) (fun hS => ?_)
        (refine hTake (i := 0) (v := ?v1) rfl (by kernel_rfl) (by kernel_rfl) (by kernel_rfl) (fun _ _ _ h => h) (Or.inl ⟨by rfl, ?y1⟩) hS ?r1; (case y1 => (intro W hW; (go_simp); (try with_reducible rfl); done)); try simp only [Act.put, List.setIfInBounds_toArray, List.set_cons_zero, List.set_cons_succ])
        (refine hTake (i := 1) (v := ?v2) rfl (by kernel_rfl) (by kernel_rfl) (by kernel_rfl) (fun _ _ _ h => h) (Or.inl ⟨by rfl, ?y2⟩) hS ?r2; (case y2 => (intro W hW; ((have g := hW.it; go_simp)); (try with_reducible rfl); done)); try simp only [Act.put, List.setIfInBounds_toArray, List.set_cons_zero, List.set_cons_succ])
        (refine hTake (i := 2) (v := ?v3) rfl (by kernel_rfl) (by kernel_rfl) (by kernel_rfl) (fun _ _ _ h => h) (Or.inl ⟨by rfl, ?y3⟩) hS ?r3; (case y3 => (intro W hW; (go_simp); (try with_reducible rfl); done)); try simp only [Act.put, List.setIfInBounds_toArray, List.set_cons_zero, List.set_cons_succ])
        (refine hTake (i := 3) rfl (by kernel_rfl) (by kernel_rfl) (by kernel_rfl) (fun _ _ _ h => h) (yieldsIf_load_mid (by rfl) _ _ rfl _ _ rfl [a1, b1, z1] _ (fun W hW => (by exact hW.r1)) Try.underlying48 rfl (by exact info_item3)) hS ?_; try simp only [Act.put, List.setIfInBounds_toArray, List.set_cons_zero, List.set_cons_succ])
        (refine hTake (i := 4) (v := ?v4) rfl (by kernel_rfl) (by kernel_rfl) (by kernel_rfl) (fun _ _ _ h => h) (Or.inl ⟨by rfl, ?y4⟩) hS ?r4; (case y4 => (intro W hW; (go_simp); (try with_reducible rfl); done)); try simp only [Act.put, List.setIfInBounds_toArray, List.set_cons_zero, List.set_cons_succ])
        (refine hTake (i := 5) (v := ?v5) rfl (by kernel_rfl) (by kernel_rfl) (by kernel_rfl) (fun _ _ _ h => h) (Or.inl ⟨by rfl, ?y5⟩) hS ?r5; (case y5 => (intro W hW; ((have g := hW.it; go_simp)); (try with_reducible rfl); done)); try simp only [Act.put, List.setIfInBounds_toArray, List.set_cons_zero, List.set_cons_succ])
        (refine hTake (i := 6) (v := ?v6) rfl (by kernel_rfl) (by kernel_rfl) (by kernel_rfl) (fun _ _ _ h => h) (Or.inl ⟨by rfl, ?y6⟩) hS ?r6; (case y6 => (intro W hW; (go_simp); (try with_reducible rfl); done)); try simp only [Act.put, List.setIfInBounds_toArray, List.set_cons_zero, List.set_cons_succ])
        (refine hTake (i := 7) rfl (by kernel_rfl) (by kernel_rfl) (by kernel_rfl) (fun _ _ _ h => h) (yieldsIf_load_mid (by rfl) _ _ rfl _ _ rfl [a2, b2, z2] _ (fun W hW => (by exact hW.r2)) Try.underlying48 rfl (by exact info_item3)) hS ?_; try simp only [Act.put, List.setIfInBounds_toArray, List.set_cons_zero, List.set_cons_succ])
        (refine hOne (i := 8) rfl (by kernel_rfl) (fun K hK => ?_))
        rw [if_pos (by rfl)]
        go_simp
        refine (hcall.out _ (Below.refl _ _).drew).mono ?_
        rintro e w4 ⟨hb4, v, rfl, hx4⟩
        obtain ⟨cs, rfl, hcl, hone, -⟩ := hx4.row
        have hb4' : Below w3.heap.size w3 w4 := ((Below.refl w3.heap.size w3).drew).trans hb4
        have hX := Lib.hid (hdx.out w4 cs hb4' hx4)
        have hn4 := Lib.hid (hN.out.n.below hb4' hN.out.n.lt)
        have h84 := h8.out.step hb4' (by have := hN.out.d.b1.size; have := hN.out.n.lt; omega) hg3
        have h85 := h84.row (gn := gn) cs.toArray (by omega) (by omega)
        clear hcall hx4 hb4 hb4' hdx k2
        have hcs := Lib.hid (show cs.toArray.size = 38 by simp [hcl])
        replace hcl := Lib.hid hcl
        replace hone := Lib.hid hone
        (refine hK.out _ _ (by exact h84) (fun hS => ?_); clear hK K; try simp only [Act.put, List.setIfInBounds_toArray, List.set_cons_zero, List.set_cons_succ])
        (refine hTake (i := 9) (v := ?v7) rfl (by kernel_rfl) (by kernel_rfl) (by kernel_rfl) (fun _ _ _ h => h) (Or.inl ⟨by rfl, ?y7⟩) hS ?r7; (case y7 => (intro W hW; (go_simp); (try with_reducible rfl); done)); try simp only [Act.put, List.setIfInBounds_toArray, List.set_cons_zero, List.set_cons_succ])
        (refine hTake (i := 10) (v := ?v8) rfl (by kernel_rfl) (by kernel_rfl) (by kernel_rfl) (fun _ _ _ h => h) (Or.inl ⟨by rfl, ?y8⟩) hS ?r8; (case y8 => (intro W hW; (go_simp); (try with_reducible rfl); done)); try simp only [Act.put, List.setIfInBounds_toArray, List.set_cons_zero, List.set_cons_succ])
        (refine hTake (i := 11) (v := ?v9) rfl (by kernel_rfl) (by kernel_rfl) (by kernel_rfl) (fun _ _ _ h => h) (Or.inl ⟨by rfl, ?y9⟩) hS ?r9; (case y9 => (intro W hW; (go_simp); (try with_reducible rfl); done)); try simp only [Act.put, List.setIfInBounds_toArray, List.set_cons_zero, List.set_cons_succ])
        (refine hOne (i := 12) rfl (by kernel_rfl) (fun K hK => ?_))
        rw [if_pos (by rfl)]
        refine wp_store_row 29 _ _ rfl gn cs.toArray rfl rfl _ _ hn4.out (by rw [hcs.out]; exact info_node) (by rw [hcs.out]; rfl) (by simpa using hone.out) ?_
        (refine hK.out _ _ (by exact h85) (fun hS => ?_); clear hK K; try simp only [Act.put, List.setIfInBounds_toArray, List.set_cons_zero, List.set_cons_succ])
        (refine hTake (i := 13) (v := ?v10) rfl (by kernel_rfl) (by kernel_rfl) (by kernel_rfl) (fun _ _ _ h => h) (Or.inl ⟨by rfl, ?y10⟩) hS ?r10; (case y10 => (intro W hW; (go_simp); (try with_reducible rfl); done)); try simp only [Act.put, List.setIfInBounds_toArray, List.set_cons_zero, List.set_cons_succ])
        refine wpAnyH_done (by kernel_rfl) ?_ _
        clear h84 h85 h8
        go_upto_region 11 with fail
        refine code_at (DecX w gn cs (Nd.shape xs).1) hX.out ?_
        clear hX hn4 hN
        clear hS
        clear hS
        clear hS
        clear hg3
        clear w4 w3
        intro w4 hX4
        replace hX4 := Lib.hid hX4
        have hsz4 := hX4.out.bel.size
        have hR4 : (∀ r ∈ Nd.refs (Nd.shape xs).1, r.kind = 1 → NodC r.inl) := fun r hr _ => ih.out _ (hsh.out r hr)
        replace hR4 := Lib.hid hR4
        generalize (Nd.shape xs).1 = X at *
        generalize (Nd.shape xs).2 = ok at *
        cases ok with
        | false =>
          have hRn := Lib.hid (show R = none by rw [hR.out]; simp)
          go_wp2_with (first
            | (refine wpList_store_row rfl 29 _ _ rfl w.heap.size noZ rfl rfl _ _ hX4.out.res info_node rfl noZ_one ?_)
            | fail)
          refine bodyPost_ret (v := .tuple #[.agg noZ, .int .i64 50]) (results_row_tmp rfl _ _ w.heap.size _ noZ _ _ _ rfl rfl (hX4.out.res.row _) Try.underlying29 rfl info_node) rfl ?_
          rw [hnq.out, hRn.out]
          exact ⟨below_row hX4.out.bel (Nat.le_refl _) _, rfl⟩
        | true =>
          have hrgt := node_Right (fun q => q < w4.heap.size) (.agg cs.toArray) X w4 (hX4.out.nin.move (fun q h1 h2 => ⟨h2, rfl⟩) (Nat.le_refl _)) (fun q h => h) hR4.out
          have hrg4 := hX4.out.range
          generalize Nd.right Nd.dec X = RT at *
          go_wp2_with (first
            | (refine wpList_mid_g (by rfl) 29 _ rfl gn 0 rfl cs _ hrg4 Try.underlying29 rfl (by rw [hcl.out]; exact info_node) ?_)
            | fail)
          refine hrgt.mono ?_
          rintro e w5 ⟨rfl, hb5⟩
          have hX5 := Lib.hid (hX4.out.step hb5)
          clear hrg4 hrgt hb5
          cases RT with
          | false =>
            have hRn := Lib.hid (show R = none by rw [hR.out]; simp)
            go_wp2_with (first
              | (refine wpList_store_row rfl 29 _ _ rfl w.heap.size noZ rfl rfl _ _ hX5.out.res info_node rfl noZ_one ?_)
              | fail)
            refine bodyPost_ret (v := .tuple #[.agg noZ, .int .i64 50]) (results_row_tmp rfl _ _ w.heap.size _ noZ _ _ _ rfl rfl (hX5.out.res.row _) Try.underlying29 rfl info_node) rfl ?_
            rw [hnq.out, hRn.out]
            exact ⟨below_row hX5.out.bel (Nat.le_refl _) _, rfl⟩
          | true =>
            have hRn := Lib.hid (show R = some X by rw [hR.out]; simp)
            go_wp2_with (first
              | (refine wpList_load_row rfl 29 _ rfl gn rfl _ _ _ _ hX5.out.n Try.underlying29 rfl (by rw [hcs.out]; exact info_node) ?_)
              | (refine wpList_store_row rfl 29 _ _ rfl w.heap.size cs.toArray rfl rfl _ _ hX5.out.res (by rw [hcs.out]; exact info_node) (by rw [hcs.out]; rfl) (by simpa using hone.out) ?_)
              | fail)
            refine bodyPost_ret (v := .tuple #[.agg cs.toArray, .int .i64 0]) (results_row_tmp rfl _ _ w.heap.size _ cs.toArray _ _ _ rfl rfl (hX5.out.res.row _) Try.underlying29 rfl (by rw [hcs.out]; exact info_node)) rfl ?_
            rw [hnq.out, hRn.out]
            exact ⟨below_row hX5.out.bel (Nat.le_refl _) _, _, rfl, hX5.out.nin.move (fun q h1 h2 => have h3 := h1.1.1; have e := setRow_other w5 w.heap.size q cs.toArray (by omega); ⟨h1.1.move e (by omega), e⟩) (by simp)⟩
      have h17' : ¬ (n2 : Int) = 17 := by omega
      have h2' : ¬ (n2 : Int) = 2 := by omega
      have hR2 := Lib.hid (show R = none by rw [hR.out, Nd.shape_else xs (by rw [← hn2.out]; exact h17) (by rw [← hn2.out]; exact h2)]; simp)
      clear hlt1
      go_wp2_with (first
        | (refine wpList_store_row rfl 29 _ _ rfl w.heap.size noZ rfl rfl _ _ hN.out.d.res info_node rfl noZ_one ?_)
        | fail)
      refine bodyPost_ret (v := .tuple #[.agg noZ, .int .i64 50]) (results_row_tmp rfl _ _ w.heap.size _ noZ _ _ _ rfl rfl (hN.out.d.res.row _) Try.underlying29 rfl info_node) rfl ?_
      rw [hnq.out, hR2.out]
      exact ⟨below_row hN.out.d.bel (Nat.le_refl _) _, rfl⟩
/-- package node: Decode -/
theorem node_Decode (b : List UInt8) : NodC b := by
  obtain ⟨n, hn⟩ : ∃ n, b.length = n := ⟨_, rfl⟩
  induction n using Nat.strongRecOn generalizing b with
  | _ n ih => exact (node_DecodeI b fun b' h => ih _ (by omega) b' rfl).weak
theorem node_DecodeF (b : List UInt8) : NodCF b := node_DecodeI b fun b' _ => node_Decode b'
end Go.Proofs.Yteknhmhmepnfjaa

/-
  Nibbles, plain: packed and unpacked, no program.
-/
namespace Go.Proofs.Yteknhmhmepnfjaa
open Go.RowKit
namespace Nib
theorem hi_join (a b : UInt8) (ha : a.toNat ≤ 15) (hb : b.toNat ≤ 15) : hi (UInt8.ofNat (16 * a.toNat + b.toNat)) = a := by
  apply UInt8.toNat_inj.1
  rw [hi_toNat]
  simp; omega
theorem lo_join (a b : UInt8) (ha : a.toNat ≤ 15) (hb : b.toNat ≤ 15) : lo (UInt8.ofNat (16 * a.toNat + b.toNat)) = b := by
  apply UInt8.toNat_inj.1
  rw [lo_toNat]
  simp; omega
theorem right_cons (a : UInt8) (l : List UInt8) : right (a :: l) = true ↔ a.toNat ≤ 15 ∧ right l = true := by
  simp [right, UInt8.le_iff_toNat_le]
theorem of_join : ∀ (l : List UInt8), right l = true → l.length % 2 = 0 → of (join l) = l
  | [], _, _ => rfl
  | [_], _, h => by simp at h
  | a :: b :: r, hr, h => by
    rw [right_cons, right_cons] at hr
    have := of_join r hr.2.2 (by simp only [List.length_cons] at h; omega)
    simp only [join, of, List.flatMap_cons, List.cons_append, List.nil_append] at this ⊢
    rw [hi_join a b hr.1 hr.2.1, lo_join a b hr.1 hr.2.1, this]
theorem head_even (p : List UInt8) (leaf : Bool) : (head p.length leaf ++ p).length % 2 = 0 := by
  rw [List.length_append, head_length]; omega
theorem unpack_pack (p : List UInt8) (leaf : Bool) (h : right p = true) : unpack (join (head p.length leaf ++ p)) = some (p, leaf) := by
  unfold unpack
  rw [of_join _ (by rw [right_append, head_right, h]; rfl) (head_even p leaf)]
  by_cases hp : p.length % 2 = 1
  · obtain ⟨x, r, rfl⟩ : ∃ x r, p = x :: r := by
      cases p with
      | nil => simp at hp
      | cons x r => exact ⟨x, r, rfl⟩
    rw [show head (x :: r).length leaf = [if leaf then 3 else 1] by unfold head; rw [if_pos hp]]
    cases leaf <;> simp
  · rw [show head p.length leaf = [if leaf then 2 else 0, 0] by unfold head; rw [if_neg hp]]
    cases leaf <;> simp
theorem pack_length (p : List UInt8) (leaf : Bool) (h : right p = true) : ((pack p leaf).getD []).length = p.length / 2 + 1 := by
  simp only [pack, h, if_true, Option.getD_some, join_length, List.length_append, head_length]; omega
theorem of_key (p : List UInt8) (h : (key p).isSome = true) : of ((key p).getD []) = p := by
  unfold key at h ⊢
  split
  · rename_i hc
    exact of_join p hc.1 hc.2
  · rename_i hc
    rw [if_neg hc] at h
    simp at h
theorem key_some (p : List UInt8) (h : right p = true) : (key p).isSome = decide (p.length % 2 = 0) := by
  unfold key
  by_cases hp : p.length % 2 = 0
  · simp [h, hp]
  · simp [hp]
theorem key_len (p : List UInt8) : 2 * ((key p).getD []).length ≤ p.length := by
  unfold key
  split
  · simp only [Option.getD_some, join_length]; omega
  · simp
end Nib
namespace Nib
theorem of_right : ∀ l : List UInt8, right (of l) = true
  | [] => rfl
  | a :: l => by
    have := of_right l
    have h1 := hi_toNat a
    have h2 := lo_toNat a
    have := a.toNat_lt
    unfold of at *
    simp only [List.flatMap_cons, List.cons_append, List.nil_append]
    rw [right_cons, right_cons]
    exact ⟨by omega, by omega, by assumption⟩
theorem join_of : ∀ l : List UInt8, join (of l) = l
  | [] => rfl
  | a :: l => by
    have := join_of l
    unfold of at *
    simp only [List.flatMap_cons, List.cons_append, List.nil_append, join, this]
    congr 1
    apply UInt8.toNat_inj.1
    have := a.toNat_lt
    rw [hi_toNat, lo_toNat]
    simp; omega
theorem key_of (l : List UInt8) : key (of l) = some l := by
  unfold key
  rw [if_pos ⟨of_right l, by rw [of_length]; omega⟩, join_of]
theorem byte4 (f : UInt8) (h : f.toNat ≤ 3) : f = 0 ∨ f = 1 ∨ f = 2 ∨ f = 3 := by
  have : f.toNat = 0 ∨ f.toNat = 1 ∨ f.toNat = 2 ∨ f.toNat = 3 := by omega
  rcases this with h | h | h | h
  · exact .inl (UInt8.toNat_inj.1 h)
  · exact .inr (.inl (UInt8.toNat_inj.1 h))
  · exact .inr (.inr (.inl (UInt8.toNat_inj.1 h)))
  · exact .inr (.inr (.inr (UInt8.toNat_inj.1 h)))
/-- what is unpacked is packed as the same bytes -/
theorem pack_unpack (b q : List UInt8) (leaf : Bool) (h : unpack b = some (q, leaf)) : pack q leaf = some b ∧ right q = true ∧ q.length + 1 ≤ 2 * b.length := by
  have hr := of_right b
  have hj := join_of b
  have hl := of_length b
  unfold unpack at h
  rcases hof : of b with _ | ⟨f, _ | ⟨z, R⟩⟩
  · rw [hof] at h; simp at h
  · rw [hof] at h; simp at h
  · rw [hof] at h hr hj hl
    simp only at h
    rw [right_cons, right_cons] at hr
    simp only [List.length_cons] at hl
    by_cases h3 : 3 < f.toNat
    · rw [if_pos h3] at h; simp at h
    · rw [if_neg h3] at h
      by_cases ho : f.toNat % 2 = 1
      · rw [if_pos ho] at h
        simp only [Option.some.injEq, Prod.mk.injEq] at h
        obtain ⟨rfl, rfl⟩ := h
        have hrq : right (z :: R) = true := (right_cons _ _).2 ⟨hr.2.1, hr.2.2⟩
        refine ⟨?_, hrq, by simp only [List.length_cons]; omega⟩
        unfold pack
        rw [if_pos hrq]
        have hh : head (z :: R).length (decide (2 ≤ f.toNat)) = [f] := by
          unfold head
          rw [if_pos (by simp only [List.length_cons]; omega)]
          rcases byte4 f (by omega) with rfl | rfl | rfl | rfl <;> simp_all
        rw [hh]
        exact congrArg some hj
      · rw [if_neg ho] at h
        by_cases hz : z.toNat ≠ 0
        · rw [if_pos hz] at h; simp at h
        · rw [if_neg hz] at h
          simp only [Option.some.injEq, Prod.mk.injEq] at h
          obtain ⟨rfl, rfl⟩ := h
          have hz0 : z = 0 := UInt8.toNat_inj.1 (by simpa using hz)
          refine ⟨?_, hr.2.2, by omega⟩
          unfold pack
          rw [if_pos hr.2.2]
          have hh : head R.length (decide (2 ≤ f.toNat)) = [f, z] := by
            unfold head
            rw [if_neg (by omega), hz0]
            rcases byte4 f (by omega) with rfl | rfl | rfl | rfl <;> simp_all
          rw [hh]
          exact congrArg some hj
end Nib
end Go.Proofs.Yteknhmhmepnfjaa

/-
  Nodes as bytes, plain: what is written is read, what is read is written as the same bytes; no program.
-/
namespace Go.Proofs.Yteknhmhmepnfjaa
namespace Ns
/-- lists in one another, at most k -/
def dep : (d : Nat) → It d → Nat → Prop
  | 0, x, _ => nomatch x
  | _ + 1, .inl _, _ => True
  | _ + 1, .inr _, 0 => False
  | d + 1, .inr xs, k + 1 => ∀ x ∈ xs, dep d x k
theorem list_down {d : Nat} (xs : List (It (d + 1))) (h : ∀ x ∈ xs, ∃ y : It d, up d y = x) : ∃ ys : List (It d), ys.map (up d) = xs := by
  induction xs with
  | nil => exact ⟨[], rfl⟩
  | cons x xs ih =>
    obtain ⟨y, hy⟩ := h x (by simp)
    obtain ⟨ys, hys⟩ := ih (fun z hz => h z (by simp [hz]))
    exact ⟨y :: ys, by rw [List.map_cons, hy, hys]⟩
theorem dep_down : ∀ (k d : Nat) (x : It (d + 1)), dep (d + 1) x k → k < d → ∃ y : It d, up d y = x
  | _, 0, _, _, h => by omega
  | _, _ + 1, .inl b, _, _ => ⟨.inl b, rfl⟩
  | 0, _ + 1, .inr _, h, _ => h.elim
  | k + 1, d + 1, .inr xs, h, hk => by
    obtain ⟨ys, hys⟩ := list_down xs (fun x hx => dep_down k d x (h x hx) (by omega))
    exact ⟨.inr ys, by show Sum.inr (ys.map (up d)) = _; rw [hys]⟩
theorem dep_up : ∀ (d : Nat) (y : It d) (k : Nat), dep (d + 1) (up d y) k → dep d y k
  | 0, y, _, _ => nomatch y
  | _ + 1, .inl _, _, _ => trivial
  | _ + 1, .inr _, 0, h => h.elim
  | d + 1, .inr ys, k + 1, h => fun y hy => dep_up d y k (h (up d y) (List.mem_map.2 ⟨y, hy, rfl⟩))
theorem fit_down : ∀ (d : Nat) (x : It (d + 1)) (k : Nat), dep (d + 1) x k → k ≤ d → fit (d + 1) (up (d + 1) x) → fit d x
  | d, .inl b, _, _, _, h => by
    have h1 : b.length ≤ maxBytes := by have h2 := fit_tx (d + 1) b; exact h2 ▸ (show fit (d + 1) (tx b) from h)
    have h2 := fit_tx d b
    exact (h2 ▸ h1 : fit d (tx b))
  | _, .inr _, 0, h, _, _ => h.elim
  | 0, .inr _, k + 1, _, h, _ => by omega
  | d + 1, .inr xs, k + 1, hd, hk, h => by
    obtain ⟨h1, h2⟩ := (show ((xs.map (up (d + 1))).flatMap (enc (d + 1 + 1))).length ≤ maxBytes ∧ ∀ x ∈ xs.map (up (d + 1)), fit (d + 1) x from h)
    have e : (xs.map (up (d + 1))).flatMap (enc (d + 1 + 1)) = xs.flatMap (enc (d + 1)) := by
      rw [List.flatMap_map]
      congr 1
      funext x
      exact enc_up (d + 1) x
    exact ⟨by rw [← e]; exact h1, fun x hx => fit_down d x k (hd x hx) (by omega) (h2 _ (List.mem_map.2 ⟨x, hx, rfl⟩))⟩
theorem isList_up : ∀ (d : Nat) (y : It d), isList (up d y) = isList y
  | 0, y => nomatch y
  | _ + 1, .inl _ => rfl
  | _ + 1, .inr _ => rfl
theorem dep_text {d : Nat} (x : It d) (h : isList x = false) (k : Nat) : dep d x k := by
  match d, x with
  | 0, x => exact nomatch x
  | _ + 1, .inl _ => cases k <;> trivial
  | _ + 1, .inr _ => cases h
theorem text_eq {d : Nat} (x : It (d + 1)) (h : isList x = false) : x = tx (bytesOf x) := by
  match x with
  | .inl _ => rfl
  | .inr _ => cases h
theorem flat_ge {d : Nat} (xs : List (It d)) : xs.length ≤ (xs.flatMap (enc d)).length := by
  induction xs with
  | nil => simp
  | cons x xs ih =>
    rw [List.flatMap_cons, List.length_append, List.length_cons]
    have := enc_pos d x
    omega
theorem flat_mem {d : Nat} (xs : List (It d)) (x : It d) (hx : x ∈ xs) : (enc d x).length + xs.length ≤ (xs.flatMap (enc d)).length + 1 := by
  induction xs with
  | nil => cases hx
  | cons y ys ih =>
    rw [List.flatMap_cons, List.length_append, List.length_cons]
    rcases List.mem_cons.1 hx with rfl | hx
    · have := flat_ge ys; omega
    · have := ih hx; have := enc_pos d y; omega
theorem flat_le {d : Nat} (K : Nat) (xs : List (It d)) (h : ∀ x ∈ xs, (enc d x).length ≤ K) : (xs.flatMap (enc d)).length ≤ xs.length * K := by
  induction xs with
  | nil => simp
  | cons y ys ih =>
    rw [List.flatMap_cons, List.length_append, List.length_cons, Nat.add_mul]
    have := ih (fun x hx => h x (by simp [hx]))
    have := h y (by simp)
    omega
theorem head_le (base n : Nat) : (head base n).length ≤ 9 := by
  unfold head
  split
  · simp
  · have := Wd.be_length 8 n
    simp only [List.length_cons]; omega
theorem enc_tx_le (d : Nat) (b : List UInt8) : (enc (d + 1) (tx b)).length ≤ b.length + 9 := by
  rw [enc_tx]
  unfold encT
  split
  · omega
  · have := head_le 128 b.length
    rw [List.length_append]; omega
end Ns
namespace Nd
theorem dec_some {b : List UInt8} {n : No} (h : dec b = some n) : ∃ xs, Ns.dec b = .ok (.inr xs) ∧ shape xs = (n, true) ∧ right dec n = true := by
  rw [dec_eq] at h
  cases hd : Ns.dec b with
  | error e => rw [hd] at h; cases h
  | ok x =>
    rw [hd] at h
    cases x with
    | inl _ => cases h
    | inr xs =>
      simp only at h
      by_cases hc : (shape xs).2 = true ∧ right dec (shape xs).1 = true
      · rw [if_pos hc] at h
        injection h with h
        exact ⟨xs, rfl, by rw [← h, ← hc.1], by rw [← h]; exact hc.2⟩
      · rw [if_neg hc] at h; cases h
theorem dec_of {b : List UInt8} {xs : List (Ns.It 8)} {n : No} (h1 : Ns.dec b = .ok (.inr xs)) (h2 : shape xs = (n, true)) (h3 : right dec n = true) : dec b = some n := by
  rw [dec_eq, h1]
  simp only
  rw [h2, if_pos ⟨rfl, h3⟩]
theorem list_snoc {α : Type} (xs : List α) (h : xs.length = 17) : ∃ l z, xs = l ++ [z] ∧ l.length = 16 := by
  refine ⟨xs.take 16, xs[16]'(by omega), ?_, by simp; omega⟩
  have h17 : xs.take 17 = xs := List.take_of_length_le (by omega)
  rw [← List.take_succ_eq_append_getElem (by omega), h17]
/-- what bytes' items may be -/
theorem shape_cases {xs : List (Ns.It 8)} {n : No} (h : shape xs = (n, true)) :
    (∃ p o : Ns.It 8, ∃ q, xs = [p, o] ∧ isList p = false ∧ Nib.unpack (bytesOf p) = some (q, true) ∧ isList o = false ∧ n = ⟨1, q, bytesOf o, rf0, []⟩) ∨
    (∃ p o : Ns.It 8, ∃ q, xs = [p, o] ∧ isList p = false ∧ Nib.unpack (bytesOf p) = some (q, false) ∧ (refOf o).2 = true ∧ n = ⟨2, q, [], (refOf o).1, []⟩) ∨
    (∃ (l : List (Ns.It 8)) (z : Ns.It 8), xs = l ++ [z] ∧ l.length = 16 ∧ isList z = false ∧ (∀ x ∈ l, (refOf x).2 = true) ∧ n = ⟨3, [], bytesOf z, rf0, l.map fun x => (refOf x).1⟩) := by
  unfold shape at h
  split at h
  · rename_i p o
    unfold two at h
    split at h
    · cases h
    · rename_i hc
      have hp : isList p = false := by
        cases e : isList p with
        | false => rfl
        | true => exact absurd (.inr e) hc
      have hu : (Nib.unpack (bytesOf p)).isSome = true := by
        cases e : (Nib.unpack (bytesOf p)).isSome with
        | true => rfl
        | false => exact absurd (.inl e) hc
      obtain ⟨⟨q, lf⟩, hq⟩ := Option.isSome_iff_exists.1 hu
      have hB : Nib.unpackB (bytesOf p) = lf := by simp [Nib.unpackB, hq]
      have hL : Nib.unpackL (bytesOf p) = q := by simp [Nib.unpackL, hq]
      rw [hB, hL] at h
      cases lf with
      | true =>
        rw [if_pos rfl] at h
        simp only [Prod.mk.injEq, Bool.not_eq_true'] at h
        exact .inl ⟨p, o, q, rfl, hp, hq, h.2, h.1.symm⟩
      | false =>
        rw [if_neg (by simp)] at h
        simp only [Prod.mk.injEq] at h
        exact .inr (.inl ⟨p, o, q, rfl, hp, hq, h.2, h.1.symm⟩)
  · split at h
    · rename_i h17
      obtain ⟨l, z, rfl, hl⟩ := list_snoc xs h17
      have e1 : (l ++ [z]).take 16 = l := by rw [← hl, List.take_left]
      have e2 : (l ++ [z])[16]'(by omega) = z := by rw [List.getElem_append_right (by omega)]; simp [hl]
      rw [e1, e2] at h
      unfold many at h
      simp only [Prod.mk.injEq, Bool.and_eq_true, Bool.not_eq_true', List.all_eq_true] at h
      exact .inr (.inr ⟨l, z, rfl, hl, h.2.1, h.2.2, h.1.symm⟩)
    · cases h
theorem enc_item_eq (xs : List (Ns.It 8)) : Ns.enc 9 (.inr xs) = Ns.head 192 (xs.flatMap (Ns.enc 8)).length ++ xs.flatMap (Ns.enc 8) := rfl
theorem enc_item_len (xs : List (Ns.It 8)) : xs.length < (Ns.enc 9 (.inr xs)).length := by
  rw [enc_item_eq, List.length_append]
  have h1 := Ns.head_pos 192 (xs.flatMap (Ns.enc 8)).length
  have h2 := Ns.flat_ge xs
  omega
/-- a branch has 18 bytes or more -/
theorem branch_long {b : List UInt8} {n : No} (h : dec b = some n) (hk : n.kind = 3) : 18 ≤ b.length := by
  obtain ⟨xs, hd, hs, _⟩ := dec_some h
  obtain ⟨rfl, _⟩ := Ns.dec_ok b _ hd
  have h2 := enc_item_len xs
  rcases shape_cases hs with ⟨p, o, q, _, _, _, _, rfl⟩ | ⟨p, o, q, _, _, _, _, rfl⟩ | ⟨l, z, rfl, hl, _, _, _⟩
  · exact absurd hk (by simp)
  · exact absurd hk (by simp)
  · have h3 : (l ++ [z]).length = 17 := by rw [List.length_append, hl]; rfl
    omega
/-- a list as item: its reference, and what its bytes say -/
theorem refOf_list {x : Ns.It 8} (h : isList x = true) : refOf x = (⟨1, z32, Ns.enc 8 x⟩, decide ((Ns.enc 8 x).length < 32)) := by unfold refOf; rw [if_pos h]
theorem dec_up (x : Ns.It 8) (h : Ns.fit 7 x) : Ns.dec (Ns.enc 8 x) = .ok (Ns.up 8 x) := by
  rw [← Ns.enc_up 8 x]
  exact Ns.dec_enc _ (Ns.fit_up 7 x h)
theorem rightRef_inline {D : List UInt8 → Option No} {r : Rf} (h : rightRef D r = true) (hk : r.kind = 1) : r.dig = z32 ∧ r.inl.length < 32 ∧ ∃ m, D r.inl = some m := by
  unfold rightRef at h
  rw [if_neg (by omega), if_neg (by omega), if_pos hk] at h
  have := of_decide_eq_true h
  exact ⟨this.1, this.2.1, Option.isSome_iff_exists.1 this.2.2⟩
theorem right_ext {D : List UInt8 → Option No} {n : No} (h : right D n = true) (hk : n.kind = 2) : n.path.length ≤ 64 ∧ Nib.right n.path = true ∧ 0 < n.path.length ∧ n.value.length = 0 ∧ n.kids.length = 0 ∧ rightRef D n.child = true ∧ branchOf D n.child = true := by
  unfold right at h
  by_cases hc : 64 < n.path.length ∨ Nib.right n.path = false ∨ 256 < n.value.length
  · rw [if_pos hc] at h; cases h
  · rw [if_neg hc] at h
    rw [if_neg (show ¬ n.kind = 1 by omega), if_pos hk] at h
    have hh := of_decide_eq_true h
    simp only [not_or, Bool.not_eq_false] at hc
    exact ⟨by omega, hc.2.1, hh.1, hh.2.1, hh.2.2.1, hh.2.2.2.1, hh.2.2.2.2⟩
theorem right_leaf {D : List UInt8 → Option No} {n : No} (h : right D n = true) (hk : n.kind = 1) : n.path.length ≤ 64 ∧ Nib.right n.path = true ∧ 0 < n.value.length ∧ n.value.length ≤ 256 ∧ none n.child = true ∧ n.kids.length = 0 := by
  unfold right at h
  by_cases hc : 64 < n.path.length ∨ Nib.right n.path = false ∨ 256 < n.value.length
  · rw [if_pos hc] at h; cases h
  · rw [if_neg hc] at h
    rw [if_pos hk] at h
    have hh := of_decide_eq_true h
    simp only [not_or, Bool.not_eq_false] at hc
    exact ⟨by omega, hc.2.1, hh.1, by omega, hh.2.1, hh.2.2⟩
theorem right_branch {D : List UInt8 → Option No} {n : No} (h : right D n = true) (hk : n.kind = 3) : n.path.length = 0 ∧ n.value.length ≤ 256 ∧ none n.child = true ∧ n.kids.length = 16 ∧ (∀ r ∈ n.kids, rightRef D r = true) := by
  unfold right at h
  by_cases hc : 64 < n.path.length ∨ Nib.right n.path = false ∨ 256 < n.value.length
  · rw [if_pos hc] at h; cases h
  · rw [if_neg hc] at h
    rw [if_neg (show ¬ n.kind = 1 by omega), if_neg (show ¬ n.kind = 2 by omega), if_pos hk] at h
    have hh := of_decide_eq_true h
    simp only [not_or, Bool.not_eq_false] at hc
    exact ⟨hh.1, by omega, hh.2.1, hh.2.2.1, List.all_eq_true.1 hh.2.2.2.1⟩
theorem right_kind {D : List UInt8 → Option No} {n : No} (h : right D n = true) : n.kind = 1 ∨ n.kind = 2 ∨ n.kind = 3 := by
  unfold right at h
  split at h
  · cases h
  · split at h
    · exact .inl ‹_›
    · split at h
      · exact .inr (.inl ‹_›)
      · split at h
        · exact .inr (.inr ‹_›)
        · cases h
theorem branch_inline {r : Rf} (h : branchOf dec r = true) (hk : r.kind = 1) {m : No} (hm : dec r.inl = some m) : m.kind = 3 := by
  unfold branchOf at h
  rw [if_pos hk, hm] at h
  exact of_decide_eq_true h
/-- few bytes: no list in the list -/
theorem flat1 {b : List UInt8} {n : No} (h : dec b = some n) (hb : b.length < 18) : ∃ xs, Ns.dec b = .ok (.inr xs) ∧ ∀ x ∈ xs, isList x = false := by
  obtain ⟨xs, hd, hs, hr⟩ := dec_some h
  refine ⟨xs, hd, ?_⟩
  obtain ⟨hbe, hf⟩ := Ns.dec_ok b _ hd
  rcases shape_cases hs with ⟨p, o, q, rfl, h1, h2, h3, rfl⟩ | ⟨p, o, q, rfl, h1, h2, h3, rfl⟩ | ⟨l, z, rfl, hl, _, _, rfl⟩
  · intro x hx
    simp only [List.mem_cons, List.not_mem_nil, or_false] at hx
    rcases hx with rfl | rfl
    · exact h1
    · exact h3
  · intro x hx
    simp only [List.mem_cons, List.not_mem_nil, or_false] at hx
    rcases hx with rfl | rfl
    · exact h1
    · cases hl : isList x with
      | false => rfl
      | true =>
        obtain ⟨_, _, _, _, _, hrr, hbo⟩ := right_ext hr rfl
        simp only [refOf_list hl] at hrr hbo
        obtain ⟨_, _, m, hm⟩ := rightRef_inline hrr rfl
        have hmk := branch_inline hbo rfl hm
        have : 18 ≤ (Ns.enc 8 x).length := branch_long hm hmk
        have hlen := Ns.flat_mem [p, x] x (by simp)
        rw [hbe, enc_item_eq, List.length_append] at hb
        have h0 := Ns.head_pos 192 ([p, x].flatMap (Ns.enc 8)).length
        simp only [List.length_cons, List.length_nil] at hlen
        omega
  · have := branch_long h rfl
    omega
theorem isList_dep1 {x : Ns.It 8} {ys : List (Ns.It 8)} (h : Ns.up 8 x = .inr ys) (hy : ∀ y ∈ ys, isList y = false) : Ns.dep 8 x 1 := by
  match x, h with
  | .inr xs, h =>
    intro e he
    have h' : xs.map (Ns.up 7) = ys := by injection h
    exact Ns.dep_text e (by rw [← Ns.isList_up 7 e]; exact hy _ (h' ▸ List.mem_map.2 ⟨e, he, rfl⟩)) 0
/-- an inline branch: its items have one list at most -/
theorem flat2 {b : List UInt8} {n : No} (h : dec b = some n) (hb : b.length < 32) (hk : n.kind = 3) : ∃ xs, Ns.dec b = .ok (.inr xs) ∧ ∀ x ∈ xs, Ns.dep 8 x 1 := by
  obtain ⟨xs, hd, hs, hr⟩ := dec_some h
  refine ⟨xs, hd, ?_⟩
  obtain ⟨hbe, hf⟩ := Ns.dec_ok b _ hd
  rcases shape_cases hs with ⟨p, o, q, rfl, h1, h2, h3, rfl⟩ | ⟨p, o, q, rfl, h1, h2, h3, rfl⟩ | ⟨l, z, rfl, hl, hz, hrs, rfl⟩
  · exact absurd hk (by simp)
  · exact absurd hk (by simp)
  · intro x hx
    rcases List.mem_append.1 hx with hx' | hx'
    · cases hlx : isList x with
      | false => exact Ns.dep_text x hlx 1
      | true =>
        obtain ⟨_, _, _, _, hrr⟩ := right_branch hr rfl
        have hrx := hrr (refOf x).1 (List.mem_map.2 ⟨x, hx', rfl⟩)
        rw [refOf_list hlx] at hrx
        obtain ⟨_, _, m, hm⟩ := rightRef_inline hrx rfl
        have hlen := Ns.flat_mem (l ++ [z]) x hx
        rw [hbe, enc_item_eq, List.length_append] at hb
        have h0 := Ns.head_pos 192 ((l ++ [z]).flatMap (Ns.enc 8)).length
        rw [List.length_append, hl] at hlen
        simp only [List.length_cons, List.length_nil] at hlen
        obtain ⟨ys, hys, hyt⟩ := flat1 hm (show (Ns.enc 8 x).length < 18 by omega)
        rw [dec_up x (hf.2 x hx)] at hys
        injection hys with hys
        exact isList_dep1 hys hyt
    · simp only [List.mem_cons, List.not_mem_nil, or_false] at hx'
      subst hx'
      exact Ns.dep_text x hz 1
theorem dep2_of {x : Ns.It 8} {ys : List (Ns.It 8)} (h : Ns.up 8 x = .inr ys) (hy : ∀ y ∈ ys, Ns.dep 8 y 1) : Ns.dep 8 x 2 := by
  match x, h with
  | .inr xs, h =>
    intro e he
    have h' : xs.map (Ns.up 7) = ys := by injection h
    exact Ns.dep_up 7 e 1 (hy _ (h' ▸ List.mem_map.2 ⟨e, he, rfl⟩))
theorem dep_more : ∀ (d : Nat) (x : Ns.It d) (k : Nat), Ns.dep d x k → Ns.dep d x (k + 1)
  | 0, x, _, _ => nomatch x
  | _ + 1, .inl _, _, _ => trivial
  | _ + 1, .inr _, 0, h => h.elim
  | d + 1, .inr xs, k + 1, h => fun x hx => dep_more d x k (h x hx)
/-- an inline node's items have two lists in one another at most -/
theorem flat3 {b : List UInt8} {n : No} (h : dec b = some n) (hb : b.length < 32) : ∃ xs, Ns.dec b = .ok (.inr xs) ∧ ∀ x ∈ xs, Ns.dep 8 x 2 := by
  obtain ⟨xs, hd, hs, hr⟩ := dec_some h
  obtain ⟨hbe, hf⟩ := Ns.dec_ok b _ hd
  rcases shape_cases hs with ⟨p, o, q, rfl, h1, h2, h3, rfl⟩ | ⟨p, o, q, rfl, h1, h2, h3, rfl⟩ | ⟨l, z, rfl, hl, hz, hrs, rfl⟩
  · refine ⟨_, hd, fun x hx => ?_⟩
    simp only [List.mem_cons, List.not_mem_nil, or_false] at hx
    rcases hx with rfl | rfl
    · exact Ns.dep_text x h1 2
    · exact Ns.dep_text x h3 2
  · refine ⟨_, hd, fun x hx => ?_⟩
    simp only [List.mem_cons, List.not_mem_nil, or_false] at hx
    rcases hx with rfl | rfl
    · exact Ns.dep_text x h1 2
    · cases hl : isList x with
      | false => exact Ns.dep_text x hl 2
      | true =>
        obtain ⟨_, _, _, _, _, hrr, hbo⟩ := right_ext hr rfl
        simp only [refOf_list hl] at hrr hbo
        obtain ⟨_, h32, m, hm⟩ := rightRef_inline hrr rfl
        have hmk := branch_inline hbo rfl hm
        obtain ⟨ys, hys, hyt⟩ := flat2 hm h32 hmk
        rw [dec_up x (hf.2 x (by simp))] at hys
        injection hys with hys
        exact dep2_of hys hyt
  · obtain ⟨ys, hys, hyt⟩ := flat2 h hb rfl
    exact ⟨ys, hys, fun x hx => dep_more 8 x 1 (hyt x hx)⟩
/-- an inline node as an item -/
theorem inline_item {b : List UInt8} {n : No} (h : dec b = some n) (hb : b.length < 32) : ∃ y : Ns.It 8, Ns.dec b = .ok (Ns.up 8 y) ∧ isList y = true ∧ Ns.enc 8 y = b ∧ Ns.fit 7 y := by
  obtain ⟨xs, hd, hx⟩ := flat3 h hb
  obtain ⟨hbe, hf⟩ := Ns.dec_ok b _ hd
  have h3 : Ns.dep 9 (.inr xs) 3 := hx
  obtain ⟨y, hy⟩ := Ns.dep_down 3 8 (.inr xs) h3 (by omega)
  refine ⟨y, by rw [hy]; exact hd, by rw [← Ns.isList_up 8 y, hy]; rfl, by rw [← Ns.enc_up 8 y, hy]; exact hbe.symm, ?_⟩
  exact Ns.fit_down 7 y 3 (Ns.dep_up 8 y 3 (by rw [hy]; exact h3)) (by omega) (by rw [hy]; exact hf)
open Classical in
/-- an item as one that may stand in one list more -/
noncomputable def down (x : Ns.It 9) : Ns.It 8 := if h : ∃ y : Ns.It 8, Ns.up 8 y = x then h.choose else Ns.tx []
theorem down_up (y : Ns.It 8) : down (Ns.up 8 y) = y := by
  have h : ∃ z : Ns.It 8, Ns.up 8 z = Ns.up 8 y := ⟨y, rfl⟩
  unfold down
  rw [dif_pos h]
  exact Ns.up_inj 8 _ _ h.choose_spec
/-- a reference's item -/
noncomputable def itOf (r : Rf) : Ns.It 8 :=
  if r.kind = 1 then (match Ns.dec r.inl with
    | .ok x => down x
    | .error _ => Ns.tx [])
  else if r.kind = 2 then Ns.tx r.dig else Ns.tx []
noncomputable def items (n : No) : List (Ns.It 8) :=
  if n.kind = 1 then [Ns.tx ((Nib.pack n.path true).getD []), Ns.tx n.value]
  else if n.kind = 2 then [Ns.tx ((Nib.pack n.path false).getD []), itOf n.child]
  else n.kids.map itOf ++ [Ns.tx n.value]
/-- a node's bytes -/
noncomputable def enc (n : No) : List UInt8 := Ns.enc 9 (.inr (items n))
theorem itOf_refOf (x : Ns.It 8) (hf : Ns.fit 7 x) (h : (refOf x).2 = true) : itOf (refOf x).1 = x := by
  cases hl : isList x with
  | true =>
    rw [refOf_list hl]
    unfold itOf
    rw [if_pos rfl]
    simp only [dec_up x hf, down_up]
  | false =>
    have hx := Ns.text_eq x hl
    unfold refOf at h ⊢
    rw [if_neg (by rw [hl]; simp)] at h ⊢
    by_cases h0 : (bytesOf x).length = 0
    · rw [if_pos h0]
      have : itOf rf0 = Ns.tx [] := rfl
      rw [this, hx, List.eq_nil_of_length_eq_zero h0]
    · rw [if_neg h0] at h ⊢
      by_cases h32 : (bytesOf x).length = 32
      · rw [if_pos h32]
        exact hx.symm
      · rw [if_neg h32] at h; cases h
/-- what is read is written as the same bytes -/
theorem enc_dec {b : List UInt8} {n : No} (h : dec b = some n) : enc n = b ∧ right dec n = true := by
  obtain ⟨xs, hd, hs, hr⟩ := dec_some h
  refine ⟨?_, hr⟩
  obtain ⟨hbe, hf⟩ := Ns.dec_ok b _ hd
  rw [hbe]
  unfold enc
  congr 2
  rcases shape_cases hs with ⟨p, o, q, rfl, h1, h2, h3, rfl⟩ | ⟨p, o, q, rfl, h1, h2, h3, rfl⟩ | ⟨l, z, rfl, hl, hz, hrs, rfl⟩
  · obtain ⟨hp, _, _⟩ := Nib.pack_unpack _ _ _ h2
    unfold items
    rw [if_pos rfl, hp, Option.getD_some, ← Ns.text_eq p h1, ← Ns.text_eq o h3]
  · obtain ⟨hp, _, _⟩ := Nib.pack_unpack _ _ _ h2
    unfold items
    rw [if_neg (by simp), if_pos rfl, hp, Option.getD_some, ← Ns.text_eq p h1, itOf_refOf o (hf.2 o (by simp)) h3]
  · unfold items
    rw [if_neg (by simp), if_neg (by simp), ← Ns.text_eq z hz, List.map_map]
    congr 1
    have hid : l.map (itOf ∘ fun x => (refOf x).1) = l.map id := List.map_congr_left fun x hx => itOf_refOf x (hf.2 x (by simp [hx])) (hrs x hx)
    rw [hid, List.map_id]
/-- digests have 32 bytes -/
def wf (n : No) : Prop := ∀ r ∈ refs n, r.dig.length = 32
theorem none_eq {r : Rf} (h : none r = true) : r = rf0 := by
  have := of_decide_eq_true h
  obtain ⟨k, d, i⟩ := r
  obtain ⟨rfl, rfl, h3⟩ := this
  have h4 : i = [] := List.eq_nil_of_length_eq_zero h3
  rw [h4]
  rfl
theorem refOf_itOf (r : Rf) (hd : r.dig.length = 32) (h : rightRef dec r = true) : refOf (itOf r) = (r, true) ∧ Ns.fit 7 (itOf r) ∧ (Ns.enc 8 (itOf r)).length ≤ 300 := by
  obtain ⟨k, d, i⟩ := r
  by_cases h1 : k = 1
  · subst h1
    obtain ⟨rfl, h32, m, hm⟩ := rightRef_inline h rfl
    simp only at h32 hm
    obtain ⟨y, hy, hl, he, hf⟩ := inline_item hm h32
    have : itOf ⟨1, z32, i⟩ = y := by
      unfold itOf
      rw [if_pos rfl]
      simp only [hy, down_up]
    rw [this, refOf_list hl, he]
    exact ⟨by simp [h32], hf, by omega⟩
  · by_cases h2 : k = 2
    · subst h2
      unfold rightRef at h
      rw [if_neg (by simp), if_pos rfl] at h
      have h3 := of_decide_eq_true h
      simp only at h3 hd
      rw [List.eq_nil_of_length_eq_zero h3]
      have : itOf ⟨2, d, []⟩ = Ns.tx d := rfl
      rw [this]
      refine ⟨?_, ?_, Nat.le_trans (Ns.enc_tx_le 7 d) (by omega)⟩
      · show (if isList (Ns.tx d : Ns.It 8) = true then _ else if (bytesOf (Ns.tx d : Ns.It 8)).length = 0 then _ else if (bytesOf (Ns.tx d : Ns.It 8)).length = 32 then _ else _) = _
        have e : bytesOf (Ns.tx d : Ns.It 8) = d := rfl
        rw [e, if_neg (by simp [isList, Ns.tx]), if_neg (by omega), if_pos hd]
      · rw [Ns.fit_tx]; unfold Ns.maxBytes; omega
    · by_cases h0 : k = 0
      · subst h0
        unfold rightRef at h
        rw [if_pos rfl] at h
        have h3 := of_decide_eq_true h
        simp only at h3
        obtain ⟨rfl, h4⟩ := h3
        rw [List.eq_nil_of_length_eq_zero h4]
        have : itOf ⟨0, z32, []⟩ = Ns.tx [] := rfl
        rw [this]
        refine ⟨rfl, ?_, Nat.le_trans (Ns.enc_tx_le 7 []) (by simp)⟩
        rw [Ns.fit_tx]; simp
      · unfold rightRef at h
        rw [if_neg h0, if_neg h2, if_neg h1] at h
        cases h
theorem pack_le (p : List UInt8) (leaf : Bool) (hp : p.length ≤ 64) (hr : Nib.right p = true) : ((Nib.pack p leaf).getD []).length ≤ 33 := by
  rw [Nib.pack_length p leaf hr]; omega
theorem fit_items {n : No} (hw : wf n) (h : right dec n = true) : (∀ x ∈ items n, Ns.fit 7 x ∧ (Ns.enc 8 x).length ≤ 300) ∧ (items n).length ≤ 17 := by
  have htx : ∀ b : List UInt8, b.length ≤ 256 → Ns.fit 7 (Ns.tx b : Ns.It 8) ∧ (Ns.enc 8 (Ns.tx b : Ns.It 8)).length ≤ 300 := fun b hb => ⟨by rw [Ns.fit_tx]; unfold Ns.maxBytes; omega, Nat.le_trans (Ns.enc_tx_le 7 b) (by omega)⟩
  rcases right_kind h with hk | hk | hk
  · obtain ⟨h1, h2, h3, h4, _, _⟩ := right_leaf h hk
    have := pack_le n.path true h1 h2
    unfold items
    rw [if_pos hk]
    refine ⟨fun x hx => ?_, by simp⟩
    simp only [List.mem_cons, List.not_mem_nil, or_false] at hx
    rcases hx with rfl | rfl
    · exact htx _ (by omega)
    · exact htx _ h4
  · obtain ⟨h1, h2, _, _, _, h6, _⟩ := right_ext h hk
    have := pack_le n.path false h1 h2
    unfold items
    rw [if_neg (by omega), if_pos hk]
    refine ⟨fun x hx => ?_, by simp⟩
    simp only [List.mem_cons, List.not_mem_nil, or_false] at hx
    rcases hx with rfl | rfl
    · exact htx _ (by omega)
    · exact (refOf_itOf n.child (hw _ (by simp [refs])) h6).2
  · obtain ⟨_, h2, _, h4, h5⟩ := right_branch h hk
    unfold items
    rw [if_neg (by omega), if_neg (by omega)]
    refine ⟨fun x hx => ?_, by simp [h4]⟩
    rcases List.mem_append.1 hx with hx | hx
    · obtain ⟨r, hr, rfl⟩ := List.mem_map.1 hx
      exact (refOf_itOf r (hw _ (by simp [refs, hr])) (h5 r hr)).2
    · simp only [List.mem_cons, List.not_mem_nil, or_false] at hx
      subst hx
      exact htx _ h2
theorem fit_enc {n : No} (hw : wf n) (h : right dec n = true) : Ns.fit 8 (.inr (items n)) ∧ (enc n).length ≤ 6000 := by
  obtain ⟨h1, h2⟩ := fit_items hw h
  have h3 := Ns.flat_le 300 (items n) (fun x hx => (h1 x hx).2)
  have h4 : (items n).length * 300 ≤ 17 * 300 := Nat.mul_le_mul_right _ h2
  refine ⟨⟨Nat.le_trans h3 (by unfold Ns.maxBytes; omega), fun x hx => (h1 x hx).1⟩, ?_⟩
  unfold enc
  rw [enc_item_eq, List.length_append]
  have := Ns.head_le 192 ((items n).flatMap (Ns.enc 8)).length
  omega
theorem shape_items {n : No} (hw : wf n) (h : right dec n = true) : shape (items n) = (n, true) := by
  rcases right_kind h with hk | hk | hk
  · obtain ⟨h1, h2, h3, h4, h5, h6⟩ := right_leaf h hk
    obtain ⟨k, p, v, c, ks⟩ := n
    simp only at hk h1 h2 h3 h4 h5 h6
    subst hk
    rw [none_eq h5, List.eq_nil_of_length_eq_zero h6]
    have hu := Nib.unpack_pack p true h2
    unfold items
    rw [if_pos rfl]
    have hp : (Nib.pack p true).getD [] = Nib.join (Nib.head p.length true ++ p) := by simp [Nib.pack, h2]
    simp only [hp]
    show two _ _ = _
    unfold two
    have e1 : bytesOf (Ns.tx (Nib.join (Nib.head p.length true ++ p)) : Ns.It 8) = Nib.join (Nib.head p.length true ++ p) := rfl
    rw [e1, if_neg (by rw [hu]; simp [isList, Ns.tx]), if_pos (by simp [Nib.unpackB, hu])]
    simp [Nib.unpackL, hu, bytesOf, Ns.tx, isList]
  · obtain ⟨h1, h2, h3, h4, h5, h6, h7⟩ := right_ext h hk
    obtain ⟨k, p, v, c, ks⟩ := n
    simp only at hk h1 h2 h3 h4 h5 h6
    subst hk
    rw [List.eq_nil_of_length_eq_zero h4, List.eq_nil_of_length_eq_zero h5]
    have hu := Nib.unpack_pack p false h2
    unfold items
    rw [if_neg (by simp), if_pos rfl]
    have hp : (Nib.pack p false).getD [] = Nib.join (Nib.head p.length false ++ p) := by simp [Nib.pack, h2]
    simp only [hp]
    show two _ _ = _
    unfold two
    have e1 : bytesOf (Ns.tx (Nib.join (Nib.head p.length false ++ p)) : Ns.It 8) = Nib.join (Nib.head p.length false ++ p) := rfl
    rw [e1, if_neg (by rw [hu]; simp [isList, Ns.tx]), if_neg (by simp [Nib.unpackB, hu]), (refOf_itOf c (hw _ (by simp [refs])) h6).1]
    simp [Nib.unpackL, hu]
  · obtain ⟨h1, h2, h3, h4, h5⟩ := right_branch h hk
    obtain ⟨k, p, v, c, ks⟩ := n
    simp only at hk h1 h2 h3 h4 h5
    subst hk
    rw [none_eq h3, List.eq_nil_of_length_eq_zero h1]
    unfold items
    rw [if_neg (by simp), if_neg (by simp)]
    have hl : (ks.map itOf ++ [(Ns.tx v : Ns.It 8)]).length = 17 := by simp [h4]
    have h17 : shape (ks.map itOf ++ [(Ns.tx v : Ns.It 8)]) = many ((ks.map itOf ++ [(Ns.tx v : Ns.It 8)]).take 16) ((ks.map itOf ++ [(Ns.tx v : Ns.It 8)])[16]'(by omega)) := by
      unfold shape
      split
      · rename_i he; rw [he] at hl; simp at hl
      · rw [dif_pos hl]
    have e1 : (ks.map itOf ++ [(Ns.tx v : Ns.It 8)]).take 16 = ks.map itOf := by rw [show 16 = (ks.map itOf).length by simp [h4], List.take_left]
    have e2 : (ks.map itOf ++ [(Ns.tx v : Ns.It 8)])[16]'(by omega) = Ns.tx v := by rw [List.getElem_append_right (by simp [h4])]; simp [h4]
    simp only at h17 ⊢
    rw [h17, e1, e2]
    unfold many
    have hr : ∀ r ∈ ks, refOf (itOf r) = (r, true) := fun r hr => (refOf_itOf r (hw _ (by simp [refs, hr])) (h5 r hr)).1
    have e3 : (ks.map itOf).map (fun x => (refOf x).1) = ks := by
      rw [List.map_map]
      have : ks.map ((fun x => (refOf x).1) ∘ itOf) = ks.map id := List.map_congr_left fun r h => by simp only [Function.comp]; rw [hr r h]; rfl
      rw [this, List.map_id]
    have e4 : (ks.map itOf).all (fun x => (refOf x).2) = true := by
      rw [List.all_eq_true]
      intro x hx
      obtain ⟨r, h, rfl⟩ := List.mem_map.1 hx
      rw [hr r h]
    rw [e3, e4]
    rfl
/-- what is written is read as it was -/
theorem dec_enc {n : No} (hw : wf n) (h : right dec n = true) : dec (enc n) = some n :=
  dec_of (Ns.dec_enc _ (fit_enc hw h).1) (shape_items hw h) h
theorem enc_inj {n m : No} (hn : wf n) (hm : wf m) (h1 : right dec n = true) (h2 : right dec m = true) : enc n = enc m ↔ n = m := by
  constructor
  · intro h
    have := dec_enc hn h1
    rw [h, dec_enc hm h2] at this
    injection this with this
    exact this.symm
  · rintro rfl; rfl
end Nd
end Go.Proofs.Yteknhmhmepnfjaa

/-
  Package node: item (a reference as an item).
-/
namespace Go.Proofs.Yteknhmhmepnfjaa
open Go.RowKit

theorem Sits.down {S : Nat → Prop} {w : World} : ∀ (d : Nat) (v : Value) (y : Ns.It d), Sits S w (d + 1) v (Ns.up d y) → Sits S w d v y
  | 0, _, y, _ => nomatch y
  | _ + 1, _, .inl _, h => h
  | d + 1, _, .inr ys, h => by
    obtain ⟨A, n, c, vs, h1, h2, h3, h4, h5, h6⟩ := h
    refine ⟨A, n, c, vs, h1, by rw [h2, List.length_map], h3, h4, h5, by rw [h6.1, List.length_map], fun i y hy => ?_⟩
    obtain ⟨v, hv, hs⟩ := h6.2 i (Ns.up d y) (by rw [List.getElem?_map, hy]; rfl)
    exact ⟨v, hv, Sits.down d v y hs⟩
/-- what item answers -/
def ItmQ (r : Nd.Rf) (w : World) (e : Ending) (w' : World) : Prop := ∃ v, e = .returned v ∧ Sits (fun q => w.heap.size ≤ q) w' 8 v (Nd.itOf r) ∧ Below w.heap.size w w'
/-- in the midst of item -/
structure ItmI (w : World) (row : Array Value) (W : World) : Prop where
  r : Blk W w.heap.size 26 row
  res : Blk W (w.heap.size + 1) 48 rowZ
  bel : Below w.heap.size w W
  sz : w.heap.size + 2 ≤ W.heap.size
theorem ItmI.step {w W W' : World} {row : Array Value} (h : ItmI w row W) (hb : Below W.heap.size W W') : ItmI w row W' := by
  have := h.sz
  exact ⟨h.r.below hb h.r.lt, h.res.below hb h.res.lt, h.bel.trans (hb.mono h.bel.size), Nat.le_trans h.sz hb.size⟩
theorem NewB.sits {w w' : World} {A : Option Addr} {m c : Nat} {l : List UInt8} (h : NewB w w' A m c l) : Sits (fun q => w.heap.size ≤ q) w' 8 (txV A m c) (Ns.tx l) :=
  ⟨A, m, c, rfl, h.1, (Own.of_row h.2.1).cap, (Own.of_row h.2.1).lim, InS.of_own (Own.of_row h.2.1)⟩
theorem itm_done {w w1 w3 : World} {row r3 : Array Value} {x : Ns.It 8} (h : ItmI w row w3) (hb : w.heap.size + 2 ≤ w1.heap.size) (hs : Sits (fun q => w1.heap.size ≤ q) w3 8 (.agg r3) x) :
    Sits (fun q => w.heap.size ≤ q) (w3.setRow (w.heap.size + 1) r3) 8 (.agg r3) x ∧ Below w.heap.size w (w3.setRow (w.heap.size + 1) r3) :=
  ⟨hs.move _ _ _ (fun q h1 h2 => ⟨by omega, setRow_other _ _ q _ (by omega)⟩) (by simp), below_row h.bel (by omega) _⟩
set_option maxHeartbeats 2000000 in
set_option maxRecDepth 100000 in
theorem node_item (S : Nat → Prop) (v : Value) (r : Nd.Rf) (w : World) (hv : RefIn S w v r) (hS : ∀ q, S q → q < w.heap.size) (hr : Nd.rightRef Nd.dec r = true) :
    Calls Try.prog 27 #[v] w (ItmQ r w) := by
  obtain ⟨A, n, c, rfl, hd, hn, hc, hm, hin⟩ := hv
  have hB : Bytes w w.heap.size A n c r.inl := ⟨hn, hc, hm, hin.reads fun q _ h => h⟩
  have hI : ItmI w (refRow r.kind r.dig A n c) ((w.alloc (.cells (refRow r.kind r.dig A n c) 26)).alloc (.cells rowZ 48)) :=
    ⟨(Blk.new w _ _).alloc _, Blk.new' (by simp), ((Below.refl _ _).alloc (Nat.le_refl _) _).alloc (by simp) _, by simp⟩
  obtain ⟨k, d, inl⟩ := r
  simp only at hd hn hB hI ⊢
  clear hin
  have g0 : ((w.alloc (.cells (refRow k d A n c) 26)).alloc (.cells #[.bool false, .slice none 0 0, .slice none 0 0] 48)).cell? ⟨w.heap.size, 0, none⟩ = some (.int .i64 k) := (hI.r.cell 0).trans refRow_zero
  have g33 : ((w.alloc (.cells (refRow k d A n c) 26)).alloc (.cells #[.bool false, .slice none 0 0, .slice none 0 0] 48)).cell? ⟨w.heap.size, 33, none⟩ = some (.slice A n c) := (hI.r.cell 33).trans (refRow_last hd)
  have hBd : Bytes ((w.alloc (.cells (refRow k d A n c) 26)).alloc (.cells rowZ 48)) (w.heap.size + 1) (some ⟨w.heap.size, 1, none⟩) 32 32 d :=
    ⟨hd.symm, Nat.le_refl _, by unfold maxLen; omega, by rw [bv_length, hd], fun _ => ⟨w.heap.size, 1, rfl, by omega, fun j u hu => hI.r.dig j u hu⟩⟩
  generalize refRow k d A n c = R at *
  subst hn
  have hsz := hI.sz
  have hlim := hB.cap
  replace hB := Lib.hid hB
  by_cases h1 : k = 1
  · subst h1
    obtain ⟨hdz, h32, m, hm'⟩ := Nd.rightRef_inline hr rfl
    simp only at h32 hm'
    obtain ⟨y, hy, hl, he, hf⟩ := Nd.inline_item hm' h32
    have hit : Nd.itOf ⟨1, d, inl⟩ = y := by
      unfold Nd.itOf
      rw [if_pos rfl]
      simp only [hy, Nd.down_up]
    have hdc := nest_Decode A inl.length c inl _ ((hB.out.below hI.bel).more (by omega))
    replace hI := Lib.hid hI
    replace hy := Lib.hid hy
    replace hit := Lib.hid hit
    clear hr hdz hm' he hf hl hBd
    go_enter Try.func27, Try.ntmps27
    go_wp2_with fail
    refine hdc.mono ?_
    rintro e w1 ⟨hb1, hq⟩
    rw [hy.out] at hq
    obtain ⟨v, rfl, hv⟩ := hq
    obtain ⟨a, b, z, rfl, hcl, hone⟩ := hv.cells
    have hv8 := Sits.down 8 _ _ hv
    have hI1 := hI.out.step hb1
    have hst := itB_stored (wr := w1) #[a, b, z]
    have hs1 := hb1.size
    clear hdc hv hcl hy hb1 g0 g33
    replace hv8 := Lib.hid hv8
    replace hI1 := Lib.hid hI1
    replace hst := Lib.hid hst
    clear hI
    go_wp2_with (first
      | (refine wpList_load_row rfl 48 _ rfl w1.heap.size rfl _ _ _ _ hI2.out.it Try.underlying48 rfl info_item3 ?_)
      | (refine wpList_store_row rfl 48 _ _ rfl (w.heap.size + 1) #[a, b, z] rfl rfl _ _ (hI1.out.step hI2.out.bel).res info_item3 rfl (by simpa using hone) ?_)
      | (refine wpList_store_row rfl 48 _ _ rfl w1.heap.size #[a, b, z] rfl rfl _ _ (Blk.new w1 48 rowZ) info_item3 rfl (by simpa using hone) ?_; refine list_at (ItB w1 _) hst.out ?_; intro w2 hI2; replace hI2 := Lib.hid hI2)
      | fail)
    refine bodyPost_ret (v := .agg #[a, b, z]) (results_cell_row rfl _ _ (w.heap.size + 1) _ #[a, b, z] _ _ rfl ((hI1.out.step hI2.out.bel).res.row _) Try.underlying48 rfl info_item3) rfl ?_
    have hfin := itm_done (hI1.out.step hI2.out.bel) (w1 := ((w.alloc (.cells R 26)).alloc (.cells rowZ 48))) hsz (hv8.out.move _ _ _ (fun q h1 h2 => ⟨h1, hI2.out.bel.block q h2⟩) hI2.out.bel.size)
    exact ⟨_, rfl, by rw [hit.out]; exact hfin.1, hfin.2⟩
  by_cases h2 : k = 2
  · subst h2
    have hit : Nd.itOf ⟨2, d, inl⟩ = Ns.tx d := rfl
    have htx := nest_Text (some ⟨w.heap.size, 1, none⟩) 32 32 d _ (hBd.more (by omega)) (by omega)
    replace hI := Lib.hid hI
    replace hit := Lib.hid hit
    clear hr hBd
    go_enter Try.func27, Try.ntmps27
    go_wp2_with fail
    refine htx.mono ?_
    rintro e w1 ⟨A1, m1, c1, rfl, hN⟩
    have hI1 := Lib.hid (hI.out.step hN.2.2)
    have hv8 := Lib.hid hN.sits
    clear htx g0 g33 hI hN
    unfold txV at *
    go_wp2_with (first
      | (refine wpList_store_row rfl 48 _ _ rfl (w.heap.size + 1) #[.bool false, .slice A1 m1 c1, .slice none 0 0] rfl rfl _ _ hI1.out.res info_item3 rfl (by simp [Value.oneCell']) ?_)
      | fail)
    refine bodyPost_ret (v := .agg #[.bool false, .slice A1 m1 c1, .slice none 0 0]) (results_cell_row rfl _ _ (w.heap.size + 1) _ #[.bool false, .slice A1 m1 c1, .slice none 0 0] _ _ rfl (hI1.out.res.row _) Try.underlying48 rfl info_item3) rfl ?_
    have hfin := itm_done hI1.out (w1 := ((w.alloc (.cells R 26)).alloc (.cells rowZ 48))) hsz hv8.out
    exact ⟨_, rfl, by rw [hit.out]; exact hfin.1, hfin.2⟩
  · have hit : Nd.itOf ⟨k, d, inl⟩ = Ns.tx [] := by unfold Nd.itOf; rw [if_neg h1, if_neg h2]
    have htx := nest_Text none 0 0 [] ((w.alloc (.cells R 26)).alloc (.cells rowZ 48)) (Bytes.none_ _ _ _ (by unfold maxLen; omega)) (by simp)
    replace hI := Lib.hid hI
    replace hit := Lib.hid hit
    clear hr hBd
    go_enter Try.func27, Try.ntmps27
    go_wp2_with fail
    refine htx.mono ?_
    rintro e w1 ⟨A1, m1, c1, rfl, hN⟩
    have hI1 := Lib.hid (hI.out.step hN.2.2)
    have hv8 := Lib.hid hN.sits
    clear htx g0 g33 hI hN
    unfold txV at *
    go_wp2_with (first
      | (refine wpList_store_row rfl 48 _ _ rfl (w.heap.size + 1) #[.bool false, .slice A1 m1 c1, .slice none 0 0] rfl rfl _ _ hI1.out.res info_item3 rfl (by simp [Value.oneCell']) ?_)
      | fail)
    refine bodyPost_ret (v := .agg #[.bool false, .slice A1 m1 c1, .slice none 0 0]) (results_cell_row rfl _ _ (w.heap.size + 1) _ #[.bool false, .slice A1 m1 c1, .slice none 0 0] _ _ rfl (hI1.out.res.row _) Try.underlying48 rfl info_item3) rfl ?_
    have hfin := itm_done hI1.out (w1 := ((w.alloc (.cells R 26)).alloc (.cells rowZ 48))) hsz hv8.out
    exact ⟨_, rfl, by rw [hit.out]; exact hfin.1, hfin.2⟩
end Go.Proofs.Yteknhmhmepnfjaa
