/-
  Lists of items that a function appends to; package receipt: list.
-/
import Derived.Test.YtcpnfllekpekgaaLi1
import Derived.Test.YtcpnfllekpekgaaWo2
namespace Go.Proofs.Ytcpnfllekpekgaa
open Go.RowKit

/-- where an item's memory may lie: at S, or at B and behind; not in the list's own block -/
def Apart (S : Nat → Prop) (B : Nat) (v : Value) (q : Nat) : Prop := (S q ∨ B ≤ q) ∧ v.ownBlock ≠ some q
structure ItL (S : Nat → Prop) (B : Nat) (w : World) (d : Nat) (A : Option Addr) (m c : Nat) (vs : List Value) (xs : List (Ns.It d)) : Prop where
  own : w.ownsRow B 38 3 (.slice A m c) m (flat vs)
  len : m = xs.length
  all : All2 (Sits (Apart S B (.slice A m c)) w d) vs xs
section
variable {S : Nat → Prop} {B d m c : Nat} {w w' : World} {A : Option Addr} {vs : List Value} {xs : List (Ns.It d)}
theorem ItL.start : ItL S B w d none 0 0 [] [] := ⟨World.ownsRow_nil _ _ _ _, rfl, All2.nil⟩
theorem ItL.below (h : ItL S B w d A m c vs xs) (hb : Below w.heap.size w w') : ItL S B w' d A m c vs xs := by
  refine ⟨h.own.kept (row := none) ⟨hb.os, hb.tape, hb.output, hb.size, fun k hk _ => hb.block k hk⟩ ?_, h.len, h.all.imp fun v x hx => hx.move _ _ _ (fun q h1 h2 => ⟨h1, hb.block q h2⟩) hb.size⟩
  cases e : (Value.slice A m c).ownBlock with
  | none => exact .inl rfl
  | some q => exact .inr (by simp)
theorem ItL.snoc {A' : Option Addr} {c' : Nat} {v : Value} {x : Ns.It d} (h : ItL S B w d A m c vs xs) (hS : ∀ q, S q → q < w.heap.size) (hv : Sits (Apart S B (.slice A m c)) w d v x)
    (hown : w'.ownsRow B 38 3 (.slice A' (m + 1) c') (m + 1) (flat vs ++ v.cells.toList)) (hg : w.grownBy w' (Value.slice A m c).ownBlock)
    (hob : (Value.slice A' (m + 1) c').ownBlock = (Value.slice A m c).ownBlock ∨ (∃ q, (Value.slice A' (m + 1) c').ownBlock = some q ∧ w.heap.size ≤ q)) : ItL S B w' d A' (m + 1) c' (vs ++ [v]) (xs ++ [x]) := by
  have hmv : ∀ q, Apart S B (.slice A m c) q → q < w.heap.size → Apart S B (.slice A' (m + 1) c') q ∧ w'.heap[q]? = w.heap[q]? := by
    intro q ⟨h1, h2⟩ h3
    refine ⟨⟨h1, ?_⟩, hg.block q h3 (fun e => h2 e.symm)⟩
    rcases hob with e | ⟨g, e, hg⟩
    · rw [e]; exact h2
    · rw [e]; intro e2; injection e2 with e2; omega
  refine ⟨?_, ?_, (h.all.imp fun v x hx => hx.move _ _ _ hmv hg.size).snoc (hv.move _ _ _ hmv hg.size)⟩
  · rw [flat_append, flat_one]; exact hown
  · rw [List.length_append, h.len]; rfl
/-- 'x = append(x, one)' -/
theorem wpList_append_it {ops : Array Oper} {rest : List Oper} {o : Oper} {a : Act} {Q : Exit → Act → World → Prop} {gx : Nat} {v : Value} {x : Ns.It d} (hgd : o.guard = none) (s y : Operand)
    (ho : o.op = .call { callee := .builtin .append, args := #[s, y], argTypes := #[36, 36] })
    (h : ItL S B w d A m c vs xs) (hS : ∀ q, S q → q < w.heap.size) (hB : B ≤ w.heap.size) (hs : a.eval s = .slice A m c) (hx : a.eval y = .slice (some ⟨gx, 0, none⟩) 1 1) (hgx : gx < w.heap.size) (hb : Blk w gx 38 v.cells) (hv : Sits (Apart S B (.slice A m c)) w d v x)
    (hlim : m < 16777216)
    (H : ∀ A' c' w', ItL S B w' d A' (m + 1) c' (vs ++ [v]) (xs ++ [x]) → w.grownBy w' (Value.slice A m c).ownBlock → wpList Try.prog ops Q rest (a.put o.dst (.slice A' (m + 1) c')) w') : wpList Try.prog ops Q (o :: rest) a w := by
  obtain ⟨i0, hi, hz0, hz1, hz2⟩ := info_parts info_item
  obtain ⟨p, q, r, rfl, hc, h1⟩ := hv.cells
  have hr : Reads w (gx + 1) 3 (some ⟨gx, 0, none⟩) 1 [p, q, r] := ⟨rfl, fun _ => ⟨gx, 0, rfl, by omega, fun j u hu => by
    rw [Nat.zero_add, hb.cell j, ← Array.getElem?_toList, hc]; exact hu⟩⟩
  refine wpList_append_any w hgd s y 36 ho B 38 i0 itemZ 3 56 Try.underlying36 hi hz0 hz1 hz2 rfl (by omega) (.slice A m c) m (flat vs) hs h.own (gx + 1) _ 1 1 [p, q, r] hx hr h1 (by unfold maxLen; omega) (by omega) hB ?_
  intro v' w' hown hg hob
  obtain ⟨A', c', rfl⟩ : ∃ A' c', v' = .slice A' (m + 1) c' := by
    rcases hown.2 with ⟨rfl, h0⟩ | ⟨g, cap, cur, rfl, _⟩
    · omega
    · exact ⟨_, _, rfl⟩
  exact H A' c' w' (h.snoc hS hv (by rw [hc]; exact hown) hg (hob.imp id fun e => ⟨_, e, Nat.le_refl _⟩)) hg
end
/-- words in memory -/
def u64v (ns : List Nat) : List Value := ns.map fun (k : Nat) => .int .u64 (k : Int)
theorem u64v_at (ns : List Nat) (k : Nat) (hk : k < ns.length) : (u64v ns)[k]? = some (.int .u64 ((ns[k] : Nat) : Int)) := by simp [u64v, hk]
/-- a receipt's words as items -/
def wordsI (ns : List Nat) : List (Ns.It 8) := ns.map fun n => Ns.tx (Wd.be 8 n)
set_option maxHeartbeats 2000000 in
set_option maxRecDepth 100000 in
theorem receipt_list (A : Option Addr) (n c B : Nat) (ns : List Nat) (w : World) (hr : Reads w B 1 A n (u64v ns)) (hB : B ≤ w.heap.size) (hn : n = ns.length) (hl : n ≤ 1000) (h64 : ∀ x ∈ ns, x < 18446744073709551616) :
    Calls Try.prog 16 #[.slice A n c] w fun e w' => ∃ v, e = .returned v ∧ Sits (fun q => w.heap.size ≤ q) w' 9 v (.inr (wordsI ns)) ∧ Below w.heap.size w w' := by
  have hb0 : Blk (w.alloc (.cells rowZ 38)) w.heap.size 38 rowZ := Blk.new w _ _
  have hbe : Below w.heap.size w (w.alloc (.cells rowZ 38)) := (Below.refl _ _).alloc (Nat.le_refl _) _
  subst hn
  have hl' : (ns.length : Int) ≤ 1000 := by omega
  replace hr := Lib.hid hr
  replace h64 := Lib.hid h64
  replace hbe := Lib.hid hbe
  replace hb0 := Lib.hid hb0
  go_enter Try.func16, Try.ntmps16
  go_wp2_with fail
  have hs1 : (w.alloc (.cells rowZ 38)).heap.size = w.heap.size + 1 := by simp
  have hw0 : w.alloc (.cells #[.bool false, .slice none 0 0, .slice none 0 0] 38) = w.alloc (.cells rowZ 38) := rfl
  rw [hw0]
  clear hw0
  replace hs1 := Lib.hid hs1
  go_loopw [3, 8] (fun v i wr => ∃ (k : Nat) (A' : Option Addr) (c' : Nat) (vs : List Value), k ≤ ns.length ∧ i = .int .i64 k ∧ v = .slice A' k c' ∧ ItL (fun _ => False) (w.heap.size + 1) wr 8 A' k c' vs (wordsI (ns.take k)) ∧ Below w.heap.size w wr ∧ Blk wr w.heap.size 38 rowZ) (fun _ i _ => ns.length - (intOf i).toNat)
  case atStart => exact ⟨0, _, _, [], Nat.zero_le _, rfl, rfl, ItL.start, hbe.out, hb0.out⟩
  case round =>
    clear hbe hb0 hs1
    obtain ⟨k, A', c', vs, hk, rfl, rfl, hI, hbw, hbr⟩ := hrel
    by_cases hlt : k < ns.length
    · obtain ⟨g, o, u, rfl, hg, hu, hc⟩ := hr.out.at_ hlt
      rw [u64v_at ns k hlt] at hu
      cases hu
      have hbs := hbw.size
      have hc2 : wr.cell? ⟨g, o + k, none⟩ = some (.int .u64 (ns[k] : Nat)) := (hbw.cell (p := ⟨g, o + k, none⟩) (by show g < _; omega)).trans hc
      have h64k := h64.out _ (List.getElem_mem hlt)
      have hf := words_Bytes ns[k] wr h64k
      have hwi : wordsI (ns.take (k + 1)) = wordsI (ns.take k) ++ [Ns.tx (Wd.be 8 ns[k])] := by
        rw [List.take_succ_eq_append_getElem hlt, wordsI, List.map_append]; rfl
      have h8 := Wd.be_length 8 ns[k]
      generalize Wd.be 8 ns[k] = l at hf hwi h8
      replace hwi := Lib.hid hwi
      replace hI := Lib.hid hI
      replace hbw := Lib.hid hbw
      have hbrl := hbr.lt
      replace hbr := Lib.hid hbr
      clear hc h64k
      have hlt' : (k : Int) < (ns.length : Int) := by omega
      go_wp2_with fail
      refine hf.mono ?_
      rintro e w1 ⟨A1, m1, c1, rfl, hN1⟩
      have hI1 := hI.out.below hN1.2.2
      have hs1 := hN1.2.2.size
      have hbw1 := hbw.out.trans (hN1.2.2.mono hbs)
      have hbr1 := hbr.out.below hN1.2.2 hbrl
      have ht := nest_Text A1 m1 c1 l w1 hN1.bytes (by omega)
      have how := hI.out.own.lt
      clear hf hN1 hI hbw hbr hc2
      replace hI1 := Lib.hid hI1
      replace hbw1 := Lib.hid hbw1
      replace hbr1 := Lib.hid hbr1
      replace how := Lib.hid how
      go_wp2_with fail
      refine ht.mono ?_
      rintro e w2 ⟨A2, m2, c2, rfl, hN2⟩
      have hs2 := hN2.2.2.size
      have hI3 := (hI1.out.below hN2.2.2).below ((Below.refl _ _).alloc (Nat.le_refl _) (.cells #[.bool false, .slice A2 m2 c2, .slice none 0 0] 38))
      have hbw3 := (hbw1.out.trans (hN2.2.2.mono (by omega))).alloc (by omega) (.cells #[.bool false, .slice A2 m2 c2, .slice none 0 0] 38)
      have hbr3 := (hbr1.out.below hN2.2.2 (by omega)).alloc (.cells #[.bool false, .slice A2 m2 c2, .slice none 0 0] 38)
      have hO := Own.of_row hN2.2.1
      have hv : Sits (Apart (fun _ => False) (w.heap.size + 1) (.slice A' k c')) (w2.alloc (.cells #[.bool false, .slice A2 m2 c2, .slice none 0 0] 38)) 8 (txV A2 m2 c2) (Ns.tx l) :=
        ⟨A2, m2, c2, rfl, hN2.1, hO.cap, hO.lim, (InS.of_own hO).move (fun q h1 h2 => ⟨⟨.inr (by omega), fun e => by have := (how.out q e).2; omega⟩, Below.heap_alloc w2 _ q h2⟩) (by simp)⟩
      have hgx := Blk.new w2 38 #[.bool false, .slice A2 m2 c2, .slice none 0 0]
      have hs3 : (w2.alloc (.cells #[.bool false, .slice A2 m2 c2, .slice none 0 0] 38)).heap.size = w2.heap.size + 1 := by simp
      clear ht hN2 hI1 hbw1 hbr1 hO
      unfold txV at *
      replace hbw3 := Lib.hid hbw3
      replace hbr3 := Lib.hid hbr3
      replace hv := Lib.hid hv
      replace hI3 := Lib.hid hI3
      replace hs3 := Lib.hid hs3
      go_wp2_with (at_builtin; refine wpList_append_it (v := .agg #[.bool false, .slice A2 m2 c2, .slice none 0 0]) rfl _ _ rfl hI3.out (fun _ h => h.elim) (by have := hs3.out; omega) rfl rfl (by have := hs3.out; omega) hgx hv.out (by omega) ?_; intro A4 c4 w4 hI4 hg4)
      have hlow : ∀ q, q ≤ w.heap.size → some q ≠ (Value.slice A' k c').ownBlock := fun q h e => by have := (how.out q e.symm).1; omega
      refine ⟨⟨k + 1, A4, c4, _, by omega, by go_num, rfl, by rw [hwi.out]; exact hI4, hbw3.out.trans ⟨hg4.os, hg4.tape, hg4.output, hg4.size, fun q hq => hg4.block q (by have := hs3.out; omega) (hlow q (by omega))⟩, (hg4.block _ (by have := hs3.out; omega) (hlow _ (Nat.le_refl _))).trans hbr3.out⟩, ?_⟩
      simp [intOf]; omega
    · obtain rfl : k = ns.length := by omega
      rw [List.take_length] at hI
      have hO := Own.of_row hI.own
      have hbs := hbw.size
      have hbrl := hbr.lt
      have hf := nest_List 8 (fun q => w.heap.size + 1 ≤ q ∧ q < wr.heap.size) A' ns.length c' vs (wordsI ns) wr (fun q h => h.2) (by simp [wordsI]) hO.cap hO.lim ((InS.of_own hO).move (fun q h1 h2 => ⟨⟨h1, h2⟩, rfl⟩) (Nat.le_refl _))
        (hI.all.imp fun v x hx => hx.move _ _ _ (fun q h1 h2 => ⟨⟨by rcases h1.1 with h | h; exact h.elim; exact h, h2⟩, rfl⟩) (Nat.le_refl _)) (by omega)
      replace hbw := Lib.hid hbw
      clear hI hO
      have hlt' : ¬ (ns.length : Int) < (ns.length : Int) := by omega
      go_wp2_with fail
      refine hf.mono ?_
      rintro e w2 ⟨v, rfl, hv, hbe2⟩
      have hbr2 := hbr.below hbe2 hbrl
      obtain ⟨x, y, z, rfl, hcl, hone⟩ := hv.cells
      have hs2 := hbe2.size
      have hbw2 := hbw.out.trans (hbe2.mono hbs)
      clear hf hbr hbw hcl
      replace hv := Lib.hid hv
      replace hbe2 := Lib.hid hbe2
      replace hbw2 := Lib.hid hbw2
      go_wp2_with (refine wpList_store_row rfl 38 _ _ rfl w.heap.size #[x, y, z] rfl rfl _ _ hbr2 info_item3 rfl (by simpa using hone) ?_)
      refine bodyPost_ret (v := .agg #[x, y, z]) (results_cell_row rfl _ _ w.heap.size _ #[x, y, z] _ _ rfl (hbr2.row _) Try.underlying38 rfl info_item3) rfl ?_
      refine ⟨_, rfl, hv.out.move _ _ _ (fun q h1 h2 => ⟨?_, setRow_other w2 _ q _ ?_⟩) (by simp), below_row hbw2.out (Nat.le_refl _) _⟩
      · rcases h1 with h | h
        · omega
        · omega
      · rcases h1 with h | h
        · omega
        · omega
end Go.Proofs.Ytcpnfllekpekgaa
