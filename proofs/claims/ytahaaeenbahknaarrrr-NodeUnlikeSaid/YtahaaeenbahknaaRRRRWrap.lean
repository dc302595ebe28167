/-
  From a law's contract ('it returns true, and what was there is as it was') to its row: any number of arguments, none of them opened for its own sake.
-/
import Derived.Test.YtahaaeenbahknaaRRRRBy
import Derived.ProofKit
import Derived.OpenShut
import Derived.JoinedCond
import Derived.SizedLaws
import Derived.Deep.Slices
namespace Go.Proofs.YtahaaeenbahknaaRRRR
open Go.RowKit Go.WideShapes Go.ChangeShapes Go.ChangeAt Go.WideElems

/-- what a law's walk shows -/
def PostT (w : World) (e : Ending) (w' : World) : Prop := e = .returned (.bool true) ∧ Below w.heap.size w w'

section
variable {H : Type} {enc : TypeId × Value → H} {P : Program}

theorem trodAll_stays (hl : laidOutB P = true) {W W' : World} (hb : Below W.heap.size W W') {sp : Nat → Bool} :
    ∀ (ts : List TypeId) (vs : List Value) (ds : List (DataW H)) (ps : List MemPlace), DataW.TrodAll enc P W 0 (fun _ => true) true ts vs ds ps →
      (∀ t ∈ ts, P.readableRec t = true ∧ t < P.types.size) → (∀ p ∈ ps, p.block < W.heap.size) → (∀ p ∈ ps, sp p.block = true) → DataW.TrodAll enc P W' 0 sp true ts vs ds ps := by
  intro ts
  induction ts with
  | nil =>
    intro vs ds ps h _ _ _
    obtain ⟨rfl, rfl, rfl⟩ := trodAll_nil h
    rfl
  | cons t ts ih =>
    intro vs ds ps h ht hlt hsp
    obtain ⟨v, vs', d, ds', p, q, rfl, rfl, rfl, h0, h1⟩ := trodAll_cons h
    obtain ⟨hr, hrow⟩ := ht t (List.mem_cons_self ..)
    exact trodAll_cons_mk (Trod_stays hl hr hrow h0 (fun x hx => hb.same (hlt x (List.mem_append_left _ hx))) (fun x hx => hsp x (List.mem_append_left _ hx)))
      (ih vs' ds' q h1 (fun t ht' => ht t (List.mem_cons_of_mem _ ht')) (fun x hx => hlt x (List.mem_append_right _ hx)) (fun x hx => hsp x (List.mem_append_right _ hx)))

theorem law_post {f : Func} {s : ChangeSpec} {W W' : World} {args : Array Value} {ds gs : List (DataW H)} {before : List MemPlace} {tb : TypeId}
    (hW : DataW.Whole enc P f.params.toList s.vars false W args.toList ds gs before) (hvars : s.vars = [])
    (hl : laidOutB P = true) (hts' : (f.params.toList.all fun t => P.readableRec t && decide (t < P.types.size)) = true)
    (hbool : P.underlying tb = some .bool) (hres : f.resultTypes = #[tb])
    (hs1 : (s.fn H (ds ++ gs)).results = [.lit (.bool true)]) (hs2 : (s.fn H (ds ++ gs)).args = ds) (hs3 : (s.fn H (ds ++ gs)).vars = [])
    (hb : Below W.heap.size W W') :
    s.post enc P f false true false false W args (.bool true) W' := by
  have hts : ∀ t ∈ f.params.toList, P.readableRec t = true ∧ t < P.types.size := by
    intro t ht
    have := List.all_eq_true.1 hts' t ht
    simpa [Bool.and_eq_true] using this
  have hlt : ∀ p ∈ before, p.block < W.heap.size := fun p hp => hW.lt p hp
  have hW0 := hW
  obtain ⟨p, q, hA, hV, rfl, _, _⟩ := hW
  rw [hvars] at hV
  have hgq : gs = [] ∧ q = [] := by
    cases gs with
    | nil => exact ⟨rfl, by simpa [DataW.TrodVars] using hV⟩
    | cons a b => simp [DataW.TrodVars] at hV
  obtain ⟨rfl, rfl⟩ := hgq
  have hshut : ∀ (b : Nat) (sp : Nat → Bool) (hd : Bool), DataW.TrodAll enc P W' b sp hd f.resultTypes.toList ((Value.bool true).resultList f.resultTypes.size) (s.fn H (ds ++ [])).results [] := by
    intro b sp hd
    rw [hres, hs1]
    exact trodAll_cons_mk (shut_bool hbool _) trodAll_mk0
  have hargs : ∀ sp : Nat → Bool, (∀ x ∈ p ++ [], sp x.block = true) → DataW.TrodAll enc P W' 0 sp true f.params.toList args.toList (s.fn H (ds ++ [])).args p := by
    intro sp hsp
    rw [hs2]
    exact trodAll_stays hl hb _ _ _ _ hA hts (fun x hx => hlt x (by simpa using hx)) (fun x hx => hsp x (by simpa using hx))
  have hvars' : ∀ sp : Nat → Bool, DataW.TrodVars enc P W' sp s.vars (s.fn H (ds ++ [])).vars [] := by
    intro sp
    rw [hvars, hs3]
    rfl
  refine ⟨ds, [], p ++ [], [], p, [], hW0, hshut _ _ _, hargs _ (fun x hx => by simpa using hlt x hx), hvars' _, World.keptBut_mono (fun x hx => ⟨hx, ?_⟩) (hb.frame (· ∈ p ++ [])), fun h => by cases h⟩
  exact Or.inr (by simpa using hx)

theorem reach_eq : reachBytes = 140737488351232 := by decide
theorem wf_int {x : Int} (h : (Lit.int .i64 x).wf = true) : -9223372036854775808 ≤ x ∧ x ≤ 9223372036854775807 := by
  simpa [Lit.wf, IntKind.min, IntKind.max, IntKind.signed, IntKind.bits] using h
/-- how many elements a datum's slice has -/
def dlen : DataW H → Nat
  | .slice elems _ => elems.length
  | _ => 0

theorem dlen_bulk (d : DataW H) : dlen d ≤ Rows.uptoBulk d := by
  cases d with
  | slice elems spare =>
    have : ∀ l : List (DataW H), l.length ≤ Rows.uptoBulkAll l := by
      intro l
      induction l with
      | nil => simp [Rows.uptoBulkAll]
      | cons x r ih =>
        have : 1 ≤ Rows.uptoBulk x := by
          cases x with
          | lit l => cases l <;> simp [Rows.uptoBulk]
          | _ => simp [Rows.uptoBulk]
        simp only [Rows.uptoBulkAll, List.length_cons]; omega
    have := this elems
    simp only [dlen, Rows.uptoBulk]; omega
  | _ => simp [dlen]
theorem small_all {l : List (DataW H)} (hk : Rows.uptoSmall H l = true) : Rows.uptoBulkAll l ≤ 1048576 := of_decide_eq_true hk

/-- the form's own reach, of an argument that is a slice -/
theorem reach_slice {ts : List TypeId} {ds : List (DataW H)} (h : (DataW.weightsEach P ts ds).all (· ≤ reachBytes) = true) {j : Nat} {t e : TypeId} {d : DataW H} (ht : ts[j]? = some t) (hd : ds[j]? = some d)
    (hu : P.underlying t = some (.slice e)) (hby : P.bytesOf e = 1) : dlen d ≤ 140737488351232 := by
  cases d with
  | slice elems spare =>
    have := sized_slice (P := P) h ht hd hu
    rw [hby] at this
    simp only [dlen]
    have e : reachBytes = 140737488351232 := by decide
    omega
  | _ => simp [dlen]

/-- a byte slice that came in -/
theorem open_bytes {T E : TypeId} {w : World} {base b0 : Nat} {r : Reach} {sp : Nat → Bool} {held : Bool} {v : Value} {d : DataW H} {p : List MemPlace} (hT : P.underlying T = some (.slice E)) (hE : P.underlying E = some (.int .u8)) (hC : P.cellsOf E = 1)
    (hv : Value.okWide P w r b0 T v) (h : DataW.Trod enc P w base sp held T v d p) :
    ∃ A n c l, v = .slice A n c ∧ Bytes w w.heap.size A n c l ∧ n ≤ dlen d := by
  obtain ⟨a0, len, cap, rfl⟩ := okWide_slice hT hv
  obtain ⟨fuel, hf⟩ := h
  rcases open_ints hT hE hC hf with ⟨hcs, hx⟩ | ⟨a, len', cap', zs, hcs, _, hl, hm, hz, hx, hcell, hwz⟩
  · simp only [Value.cells, List.cons.injEq, Value.slice.injEq, and_true] at hcs
    obtain ⟨rfl, rfl, rfl⟩ := hcs
    exact ⟨none, 0, 0, [], rfl, Bytes.none_ _ _ _ (Nat.zero_le _), Nat.zero_le _⟩
  · simp only [Value.cells, List.cons.injEq, Value.slice.injEq, and_true] at hcs
    obtain ⟨rfl, rfl, rfl⟩ := hcs
    have hle : len ≤ zs.length := by rw [hz]; split <;> omega
    have hd : d = .slice (lits .u8 (zs.take len)) (lits .u8 (zs.drop len)) := (Prod.ext_iff.1 hx).1
    have hlen : ((zs.take len).map fun z => UInt8.ofNat z.toNat).length = len := by simp; omega
    refine ⟨some a, len, cap, (zs.take len).map fun z => UInt8.ofNat z.toNat, rfl, ⟨hlen.symm, hl, hm, by rw [bv_length, hlen, Nat.mul_one], fun hp => ?_⟩, ?_⟩
    · obtain ⟨b, off, rfl, hc⟩ := ints_at hcell (by omega)
      have hb : b < w.heap.size := World.block_lt_of_cell? w _ (hc 0 (by omega))
      refine ⟨b, off, rfl, hb, fun j u hu => ?_⟩
      have hj : j < ((zs.take len).map fun z => UInt8.ofNat z.toNat).length := by
        have := (List.getElem?_eq_some_iff.1 hu).1
        rwa [bv_length] at this
      rw [bv_at _ j hj] at hu
      cases hu
      have hj2 : j < zs.length := by omega
      have hj3 : j < (zs.take len).length := by simp; omega
      rw [hc j hj2]
      have hmem : zs[j] ∈ zs := List.getElem_mem hj2
      have hwf := hwz _ hmem
      have hbd : 0 ≤ zs[j] ∧ zs[j] ≤ 255 := by simpa [Lit.wf, IntKind.min, IntKind.max, IntKind.signed, IntKind.bits] using hwf
      simp only [List.getElem_map, List.getElem_take]
      have : (((UInt8.ofNat zs[j].toNat).toNat : Nat) : Int) = zs[j] := by simp; omega
      rw [this]
      simp [List.getD, hj2]
    · rw [hd]
      simp [dlen, lits]; omega
end
end Go.Proofs.YtahaaeenbahknaaRRRR
