/- A region that draws its order: some first operations that yield whatever the world are taken first; then its other ones, quiet, and a tail in one forced order (XQuietTail's law from there on). -/
import Derived.Test.YtdiccgpgmddbdaaDoorQuietTail
namespace Go.Proofs.YtdiccgpgmddbdaaDoor
open Go
section
variable {P : Program} {ops : Array Oper} {md : Region.Mode} {C : World → Prop}

/-- Each operation from p on, up to n, is waited for. -/
def sinkFrom (md : Region.Mode) (ops : Array Oper) (p n : Nat) : Bool :=
  (List.range n).all fun i => decide (i < p) || (List.range (n + 1)).any fun j => decide (i < j) && Region.waitsFor md ops j i

theorem tail_waits_from {p n : Nat} {listed : Array Bool} (hs : sinkFrom md ops p n = true) (hc : Region.chainB md ops n = true) (hn : n < ops.size) (inv : HeadInv md ops n listed) :
    ∀ (d i : Nat), n - i = d → i < n → p ≤ i → listed.getD i true = false → ∀ t, n ≤ t → t ∉ Region.ready md ops listed := by
  intro d
  induction d using Nat.strongRecOn with
  | _ d ih =>
    intro i hd hi hpi hun t ht hr
    obtain ⟨_, ot, hot, hall⟩ := mem_ready.1 hr
    have htlt : t < ops.size := (Array.getElem?_eq_some_iff.1 hot).1
    by_cases htn : t = n
    · subst htn
      have h1 := List.all_eq_true.1 hs i (List.mem_range.2 hi)
      simp only [Bool.or_eq_true, decide_eq_true_eq] at h1
      rcases h1 with h1 | h1
      · omega
      obtain ⟨j, hj, hj2⟩ := List.any_eq_true.1 h1
      simp only [Bool.and_eq_true, decide_eq_true_eq] at hj2
      obtain ⟨oj, hoj, e, he, hb, hon⟩ := Region.waitsFor_spec hj2.2
      have hjle : j ≤ t := by have := List.mem_range.1 hj; omega
      by_cases hjt : j = t
      · subst hjt
        have : oj = ot := Option.some.inj (hoj.symm.trans hot)
        subst this
        have h2 := hall e he hb
        rw [hon, getD_both hun] at h2
        cases h2
      · cases hl : listed.getD j false with
        | true =>
          have h2 := inv.closed j oj hoj hl e he hb
          rw [hon, getD_both hun] at h2
          cases h2
        | false =>
          have hjs : j < listed.size := by rw [inv.size]; omega
          exact ih (t - j) (by omega) j rfl (by omega) (by omega) (getD_in hjs hl) t (Nat.le_refl _) hr
    · have h1 := List.all_eq_true.1 hc t (List.mem_range.2 htlt)
      simp only [Bool.or_eq_true, decide_eq_true_eq] at h1
      rcases h1 with h1 | h1
      · omega
      · obtain ⟨o', ho', e, he, hb, hon⟩ := Region.waitsFor_spec h1
        have : o' = ot := Option.some.inj (ho'.symm.trans hot)
        subst this
        have h2 := hall e he hb
        rw [hon, getD_both (inv.tail (t - 1) (by omega) (by omega))] at h2
        cases h2

theorem Heads.first_from {p n i : Nat} {oi : Oper} {v : Value} {L : Array Bool → Act → Prop} (hi : ops[i]? = some oi) (hsel : ∀ (j : Nat) (o : Oper) cs b, ops[j]? = some o → o.op ≠ .select cs b)
    (hs : sinkFrom md ops p n = true) (hc : Region.chainB md ops n = true) (hn : n < ops.size) (hin : i < n) (hpi : p ≤ i)
    (hdone : ∀ listed a, L listed a → ∀ j ∈ Region.ready md ops listed, n ≤ j) (f : Nat) :
    ∀ (listed : Array Bool) (a : Act), HeadInv md ops n listed →
      (∀ j oj, ops[j]? = some oj → j ≠ i → listed.getD j true = false → (∀ e ∈ oj.after, Region.binds md e = true → e.on ≠ i) → oi.apart ops oj = true) →
      i ∈ Region.ready md ops listed → YieldsIn P ops C oi v a →
      Heads P md ops C n L f (listed.setIfInBounds i true) (a.put oi.dst v) → Heads P md ops C n L (f + 1) listed a := by
  have early : ∀ (listed : Array Bool), HeadInv md ops n listed → i ∈ Region.ready md ops listed → ∀ j ∈ Region.ready md ops listed, j < n := fun listed inv hr j hj => by
    rcases Nat.lt_or_ge j n with h | h
    · exact h
    · exact absurd hj (tail_waits_from hs hc hn inv _ i rfl hin hpi (mem_ready.1 hr).1 j h)
  induction f with
  | zero =>
    intro listed a inv _ hr hy H
    refine ⟨fun h => (by rw [h] at hr; cases hr), fun j hj => ⟨early listed inv hr j hj, ?_⟩⟩
    by_cases hji : j = i
    · subst hji; exact hy.qOp hi H
    · have h1 := hdone _ _ H j (ready_mono hj hji)
      have h2 := early listed inv hr j hj
      omega
  | succ f ih =>
    intro listed a inv hfree hr hy H
    have hun := (mem_ready.1 hr).1
    refine ⟨fun h => (by rw [h] at hr; cases hr), fun j hj => ⟨early listed inv hr j hj, ?_⟩⟩
    by_cases hji : j = i
    · subst hji; exact hy.qOp hi H
    · have hjn := early listed inv hr j hj
      have h1 := (H.2 j (ready_mono hj hji)).2
      obtain ⟨hjun, oj, hoj, hall⟩ := mem_ready.1 hj
      have hap : oi.apart ops oj = true := hfree j oj hoj hji hjun fun e he hb heq => by
        have h3 := hall e he hb
        rw [heq, getD_both hun] at h3
        cases h3
      have h2 := qOp_put hoj hap (fun cs b => hsel i oi cs b hi) (fun cs b => hsel j oj cs b hoj) hy h1
      refine qOp_mono (fun a' h3 => ih (listed.setIfInBounds j true) a' (inv.set hj hjn) ?_ (ready_mono hr (Ne.symm hji)) h3.1 ?_) h2
      · intro k ok hk hki hunk hno
        refine hfree k ok hk hki ?_ hno
        by_cases hjk : j = k
        · subst hjk; exact hjun
        · rw [getD_set_ne true hjk] at hunk; exact hunk
      · rw [Array.setIfInBounds_comm _ _ hji]
        exact h3.2

theorem Heads.lex_from {p n g : Nat} {Lq : Act → Prop} (hsel : Region.noSelect ops = true) (hs : sinkFrom md ops p n = true) (hc : Region.chainB md ops n = true) (hn : n < ops.size) :
    ∀ (l : List Oper) (k : Nat) (listed : Array Bool) (a : Act), (∀ j, j < l.length → l[j]? = ops[k + j]?) → k + l.length = n → p ≤ k → HeadInv md ops n listed →
    Region.lexHead md ops g l.length k listed = true → wpQuiet P ops C Lq l a →
    Heads P md ops C n (fun listed' a' => Region.seqB md ops g n listed' = true ∧ Lq a') l.length listed a
  | [], k, listed, a, _, hk, _, _, hB, h => by
    obtain rfl : k = n := by simpa using hk
    exact ⟨by simpa [Region.lexHead] using hB, h⟩
  | o :: l, k, listed, a, hl, hk, hpk, inv, hB, h => by
    have h0 : ops[k]? = some o := by simpa using (hl 0 (by simp)).symm
    simp only [List.length_cons, Region.lexHead, Bool.and_eq_true] at hB
    obtain ⟨⟨hr, hf⟩, hB'⟩ := hB
    have hkn : k < n := by simp only [List.length_cons] at hk; omega
    have hr' : k ∈ Region.ready md ops listed := by simpa using hr
    have hq : qOp P ops C k (wpQuiet P ops C Lq l) a := by unfold qOp; simp only [h0]; exact h
    obtain ⟨v, hy, hK⟩ := yieldsIn_of_qOp h0 hq
    refine Heads.first_from h0 (Region.noSelect_spec hsel) hs hc hn hkn hpk (fun listed' a' hL => seqB_ready hL.1) l.length listed a inv (Region.free_spec h0 hf) hr' hy ?_
    refine Heads.lex_from hsel hs hc hn l (k + 1) _ _ (fun j hj => ?_) (by simp only [List.length_cons] at hk; omega) (by omega) (inv.set hr' hkn) hB' hK
    have h2 := hl (j + 1) (by simp; omega)
    simpa [Nat.add_assoc, Nat.add_comm 1 j] using h2

/-- The look at a region's form, behind its first p operations. -/
def fromB (ops : Array Oper) (p n : Nat) (listed : Array Bool) : Bool :=
  Region.noSelect ops && decide (n < ops.size) && decide (p ≤ n) && sinkFrom .any ops p n && Region.chainB .any ops n && decide (listed.size = ops.size) &&
    ((List.range ops.size).all fun j => !(listed.getD j false) || (decide (j < n) && ((ops.getD j default).after.all fun e => !(Region.binds .any e) || listed.getD e.on false))) &&
    Region.lexHead .any ops (ops.size - n) (n - p) p listed

theorem wpAny_quiet_tail_from {Q : Exit → Act → World → Prop} {a : Act} {w : World} {l : List Oper} {listed : Array Bool} (p n : Nat) (hB : fromB l.toArray p n listed = true) (hC : C w) {f : Nat} (hf : f = l.length - p)
    (h : wpQuiet P l.toArray C (fun a' => ∀ w', C w' → wpList P l.toArray Q (l.drop n) a' w') ((l.take n).drop p) a) : wpAny P .any l.toArray Q f listed a w := by
  simp only [fromB, Bool.and_eq_true, decide_eq_true_eq] at hB
  obtain ⟨⟨⟨⟨⟨⟨⟨hsel, hn⟩, hp⟩, hs⟩, hc⟩, hsz⟩, hinv⟩, hlex⟩ := hB
  have hn' : n < l.length := by simpa using hn
  have htl : ((l.take n).drop p).length = n - p := by simp; omega
  have hdl : (l.drop n).length = l.toArray.size - n := by simp
  have inv0 : HeadInv .any l.toArray n listed := by
    refine ⟨hsz, fun j oj hj hl e he hb => ?_, fun t ht htl => ?_⟩
    · have hjs : j < l.toArray.size := (Array.getElem?_eq_some_iff.1 hj).1
      have h1 := List.all_eq_true.1 hinv j (List.mem_range.2 hjs)
      simp only [hl, Bool.not_true, Bool.false_or, Bool.and_eq_true] at h1
      have h2 := h1.2
      rw [show (l.toArray.getD j default) = oj by rw [Array.getD_eq_getD_getElem?, hj]; rfl] at h2
      have h3 := Array.all_eq_true'.1 h2 e he
      simp only [hb, Bool.not_true, Bool.false_or] at h3
      exact h3
    · have h1 := List.all_eq_true.1 hinv t (List.mem_range.2 htl)
      cases hl : listed.getD t false with
      | true =>
        rw [hl] at h1
        simp at h1
        omega
      | false => exact getD_in (by rw [hsz]; exact htl) hl
  have H := Heads.lex_from (md := .any) (g := l.toArray.size - n) hsel hs hc hn ((l.take n).drop p) p listed a (fun j hj => by
    rw [htl] at hj
    simp
    rw [List.getElem?_take_of_lt (by omega)]) (by rw [htl]; omega) (Nat.le_refl _) inv0 (by rw [htl]; exact hlex) h
  have K := Heads.any (Q := Q) (g := l.toArray.size - n) (fun listed' a' w' hw' hL => by
    have h1 := wpAny_of_seq (md := .any) (Q' := Q) (l.drop n) n listed' a' w' (fun j => by simp [List.getElem?_drop]) (by rw [hdl]; exact hL.1) (hL.2 w' hw')
    rwa [hdl] at h1) _ _ _ _ hC H
  rw [htl, show n - p + (l.toArray.size - n) = f by simp; omega] at K
  exact K

/-- The first operation yields whatever the world; then quiet ones; then a tail in one forced order. -/
theorem wp_region_first_tail {id : Nat} {Q : Exit → Act → World → Prop} {a : Act} {w : World} {o : Oper} {l : List Oper} {v : Value} (n : Nat) (hm : P.follows .mixedOrders = true)
    (hB : (Region.noSelect (o :: l).toArray && Region.free .any (o :: l).toArray (Array.replicate (o :: l).toArray.size false) 0 && (Region.ready .any (o :: l).toArray (Array.replicate (o :: l).toArray.size false)).contains 0 &&
      fromB (o :: l).toArray 1 n ((Array.replicate (o :: l).toArray.size false).setIfInBounds 0 true)) = true)
    (hQ : ∀ c a w, Q (.panic c) (a.put o.dst v) w → Q (.panic c) a w) (hg : o.guard = none) (hy : ∀ w, (execOp a.eval o).run P w = .ok (.value v) w)
    (h : wpQuiet P (o :: l).toArray (fun W => ∃ m, W = w.drewN m) (fun a' => ∀ w', (∃ m, w' = w.drewN m) → wpList P (o :: l).toArray Q ((o :: l).drop n) a' w') (((o :: l).take n).drop 1) (a.put o.dst v)) : (Code.region id (o :: l).toArray true).wp P Q a w := by
  simp only [Bool.and_eq_true] at hB
  obtain ⟨⟨⟨h1, h2⟩, h3⟩, h4⟩ := hB
  refine wp_region_any hm ?_
  refine wpAny_take (i := 0) (oi := o) (v := v) (fuel := l.length) rfl h1 h2 h3 hQ (Or.inl ⟨by simp [Region.wanted, hg], hy⟩) ?_
  exact wpAny_quiet_tail_from 1 n h4 ⟨1, rfl⟩ (by simp) h
end
end Go.Proofs.YtdiccgpgmddbdaaDoor
