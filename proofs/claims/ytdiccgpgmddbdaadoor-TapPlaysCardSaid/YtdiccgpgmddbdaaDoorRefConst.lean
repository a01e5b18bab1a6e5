/- The walk of the references' Constants: the words of the rounds, and the first state, by definition. -/
import Derived.Test.YtdiccgpgmddbdaaDoorRefBehind
namespace Go.Proofs.YtdiccgpgmddbdaaDoor
open Go.RowKit

/-- The block g holds the words c. -/
structure Words (w : World) (g : Nat) (c : List Nat) : Prop where
  lt : g < w.heap.size
  cell : ∀ j < c.length, w.cell? ⟨g, j, none⟩ = some (.int .u32 (c.getD j 0 : Nat))
theorem Words.keep {w w' : World} {g : Nat} {c : List Nat} (h : Words w g c) (hb : Below w.heap.size w w') : Words w' g c :=
  ⟨Nat.lt_of_lt_of_le h.lt hb.size, fun j hj => by rw [hb.cell (p := ⟨g, j, none⟩) h.lt]; exact h.cell j hj⟩
theorem Words.of_own {w : World} {base g n cap : Nat} {c : List Nat} (h : w.ownsRow base 34 1 (.slice (some ⟨g, 0, none⟩) n cap) n (u32s c)) : Words w g c :=
  ⟨(h.lt g rfl).2, fun _ hj => own_cell h (u32s_get' c hj)⟩

/-- What stands at the head of the loop: two lists of words in slices of the call's own. -/
structure Two (w : World) (A B : List Nat) (ga ca gb cb : Nat) (wr : World) : Prop where
  a : wr.ownsRow w.heap.size 34 1 (.slice (some ⟨ga, 0, none⟩) A.length ca) A.length (u32s A)
  b : wr.ownsRow w.heap.size 34 1 (.slice (some ⟨gb, 0, none⟩) B.length cb) B.length (u32s B)
  ne : ga ≠ gb
  below : Below w.heap.size w wr

theorem Two.keep {w : World} {A B : List Nat} {ga ca gb cb : Nat} {wr wr' : World} (h : Two w A B ga ca gb cb wr) (hb : Below wr.heap.size wr wr') : Two w A B ga ca gb cb wr' :=
  ⟨own_of_heap h.a (fun k e => hb.block k (h.a.lt k e).2), own_of_heap h.b (fun k e => hb.block k (h.b.lt k e).2), h.ne, h.below.trans (hb.mono h.below.size)⟩
theorem Two.swap {w : World} {A B : List Nat} {ga ca gb cb : Nat} {wr : World} (h : Two w A B ga ca gb cb wr) : Two w B A gb cb ga ca wr := ⟨h.b, h.a, h.ne.symm, h.below⟩
theorem Two.push {w : World} {A B : List Nat} {ga ca gb cb x : Nat} {wr wr' : World} {o : Obj} {g c : Nat} (h : Two w A B ga ca gb cb wr)
    (ho : wr'.ownsRow w.heap.size 34 1 (.slice (some ⟨g, 0, none⟩) (A.length + 1) c) (A.length + 1) (u32s A ++ [.int .u32 (x : Int)])) (hg : (wr.alloc o).grownBy wr' (some ga)) (hn : (some ga = some g) ∨ wr.heap.size + 1 ≤ g) : Two w (A ++ [x]) B g c gb cb wr' := by
  have hbl := (h.b.lt gb rfl).2
  refine ⟨by rw [u32s_snoc] at ho; simpa using ho, own_of_heap h.b (fun k e => ?_), ?_, (h.below.alloc h.below.size _).grown hg (by simp; have := h.below.size; omega) (fun j e => ?_)⟩
  · obtain rfl : gb = k := by simpa [Value.ownBlock] using e
    rw [hg.block gb (by simp; omega) (by simpa using h.ne.symm), heap_alloc_old _ _ hbl]
  · rcases hn with h1 | h1
    · have e : ga = g := by simpa using h1
      exact e ▸ h.ne
    · omega
  · obtain rfl : ga = j := by simpa using e
    exact (h.a.lt ga rfl).1

set_option maxRecDepth 100000 in
set_option maxHeartbeats 4000000 in
theorem const02_any (w : World) :
    Calls Tryd.prog 34 #[] w fun e w' => ∃ ga ca gb cb, e = .returned (.tuple #[.slice (some ⟨ga, 0, none⟩) 8 ca, .slice (some ⟨gb, 0, none⟩) 64 cb]) ∧ Words w' ga Sha.first.l ∧ Words w' gb Sha.rounds ∧ Below w.heap.size w w' := by
  obtain ⟨i0, hi, hz0, hz1, hz2⟩ := info_parts info_u32
  go_enter Tryd.func34, Tryd.ntmps34
  go_wp2
  go_loopw [2, 3, 4] (fun va vb vn wr => ∃ m ga ca gb cb : Nat, m ≤ 310 ∧ vn = .int .u64 ((m : Int) + 2) ∧ va = .slice (some ⟨ga, 0, none⟩) (Num.firsts m).length ca ∧ vb = .slice (some ⟨gb, 0, none⟩) (Num.thirds m).length cb ∧ Two w (Num.firsts m) (Num.thirds m) ga ca gb cb wr) (fun _ _ vn _ => 312 - (intOf vn).toNat)
  case atStart =>
    refine ⟨0, w.heap.size, 0, w.heap.size + 1, 0, by omega, rfl, rfl, rfl, ?_, ?_, by omega, ((Below.refl _ _).alloc (Nat.le_refl _) _).alloc (by simp) _⟩
    · exact (own_lit w _ [] 0 _ rfl (Nat.le_refl _) (by unfold maxLen; omega)).alloc _
    · have h := own_lit (w.alloc (.cells #[] 34)) w.heap.size [] 0 34 rfl (by simp) (by unfold maxLen; omega)
      have h2 : ((w.alloc (.cells #[] 34)).alloc (.cells #[] 34)).ownsRow w.heap.size 34 1 (.slice (some ⟨w.heap.size + 1, 0, none⟩) 0 0) 0 [] := by simpa using h
      exact h2
  case round =>
    obtain ⟨m, ga, ca, gb, cb, hm, rfl, rfl, rfl, hC⟩ := hrel
    have HC := Lib.hid hC
    have hlen : (Num.thirds m).length ≤ 64 := by rw [Num.thirds_len]; have := Num.upto_mono hm; rw [Num.upto_310] at this; exact this
    have HFL := Lib.hid (Num.firsts_len m)
    have HTL := Lib.hid (Num.thirds_len m)
    have hbs := HC.out.below.size
    clear hC
    by_cases h64 : (Num.thirds m).length < 64
    · have hm2 : m < 310 := by
        rcases Nat.lt_or_ge m 310 with h | h
        · exact h
        · obtain rfl : m = 310 := by omega
          rw [Num.thirds_len, Num.upto_310] at h64; omega
      have hpr : Calls Tryd.prog 23 #[.int .u64 ((m : Int) + 2)] wr fun e w' => e = .returned (.bool (Num.prime (m + 2))) ∧ wr = w' := prime_any (m + 2) wr (by omega)
      cases hp : Num.prime (m + 2) with
      | false =>
        rw [hp] at hpr
        have HF := Lib.hid (Num.firsts_no hp)
        have HT := Lib.hid (Num.thirds_no hp)
        clear hp
        go_wp2_with fail
        refine hpr.mono ?_
        rintro e w2 ⟨rfl, rfl⟩
        clear hpr
        go_wp2
        go_roundw
        case rel => exact ⟨m + 1, ga, ca, gb, cb, by omega, by go_num, by rw [HF.out], by rw [HT.out], by rw [HF.out, HT.out]; exact HC.out⟩
        case measure => simp [intOf]; omega
      | true =>
        rw [hp] at hpr
        have HT := Lib.hid (Num.thirds_yes hp)
        have HP := Lib.hid hp
        have hb2 : ∀ W : World, Calls Tryd.prog 24 #[.int .u64 ((m : Int) + 2), .int .i64 2] W fun e w' => e = .returned (.int .u32 (Num.behind (m + 2) 2 : Nat)) ∧ Below W.heap.size W w' := fun W => behind_any (m + 2) 2 W (by omega) (by omega)
        have hb3 : ∀ W : World, Calls Tryd.prog 24 #[.int .u64 ((m : Int) + 2), .int .i64 3] W fun e w' => e = .returned (.int .u32 (Num.behind (m + 2) 3 : Nat)) ∧ Below W.heap.size W w' := fun W => behind_any (m + 2) 3 W (by omega) (by omega)
        have HL64 := Lib.hid h64
        clear hp hlen
        by_cases h8 : (Num.upto m).length < 8
        · have HF := Lib.hid (Num.firsts_yes HP.out h8)
          have hf8 : ((Num.firsts m).length : Int) < 8 := by have := HFL.out; omega
          clear h8
          go_wp2_with fail
          refine hpr.mono ?_
          rintro e w2 ⟨rfl, rfl⟩
          clear hpr h64
          go_wp2_with fail
          refine (hb2 _).mono ?_
          rintro e w2 ⟨rfl, hw2⟩
          have HC2 := Lib.hid (HC.out.keep hw2)
          have hbs2 := HC2.out.below.size
          generalize Num.behind (m + 2) 2 = x2 at *
          go_wp2_with (at_builtin; refine wpList_append_mine rfl _ _ 56 rfl w.heap.size 34 i0 (.int .u32 0) 1 4 Tryd.underlying56 hi hz0 hz1 hz2 rfl (by decide) (.slice (some ⟨ga, 0, none⟩) (Num.firsts m).length ca) _ _ rfl (HC2.out.a.alloc _) ⟨w2.heap.size, 0, none⟩ 1 1 [.int .u32 (x2 : Int)] rfl rfl (cells_new _ [.int .u32 (x2 : Int)] _) (fun x hx => by simp at hx; subst hx; rfl) (by omega) (by have := HL64.out; have := HFL.out; unfold maxLen; omega) (by have := HL64.out; have := HFL.out; omega) (by simp; omega) ?grow1)
          intro g2 c2 w3 hown3 hgrow3 hg3 hg4
          have HC3 := Lib.hid (HC2.out.push hown3 hgrow3 hg3)
          clear hown3 hgrow3 hg3 hg4 HC2
          have hlx : (Num.firsts m ++ [x2]).length = (Num.firsts m).length + 1 := by simp
          have HLX := Lib.hid hlx
          clear hlx hf8
          go_wp2_with fail
          refine (hb3 _).mono ?_
          rintro e w4 ⟨rfl, hw4⟩
          have HC4 := Lib.hid (HC3.out.keep hw4)
          have hbs4 := HC4.out.below.size
          generalize Num.behind (m + 2) 3 = x3 at *
          go_wp2_with (at_builtin; refine wpList_append_mine rfl _ _ 56 rfl w.heap.size 34 i0 (.int .u32 0) 1 4 Tryd.underlying56 hi hz0 hz1 hz2 rfl (by decide) (.slice (some ⟨gb, 0, none⟩) (Num.thirds m).length cb) _ _ rfl (HC4.out.b.alloc _) ⟨w4.heap.size, 0, none⟩ 1 1 [.int .u32 (x3 : Int)] rfl rfl (cells_new _ [.int .u32 (x3 : Int)] _) (fun x hx => by simp at hx; subst hx; rfl) (by omega) (by have := HL64.out; have := HFL.out; unfold maxLen; omega) (by have := HL64.out; have := HFL.out; omega) (by simp; omega) ?grow2)
          intro g3 c3 w5 hown5 hgrow5 hg5 hg6
          have HC5 := Lib.hid (HC4.out.swap.push hown5 hgrow5 hg5).swap
          clear hown5 hgrow5 hg5 hg6 HC4 HC3
          go_wp2
          go_roundw
          case rel => exact ⟨m + 1, g2, c2, g3, c3, by omega, by go_num, by rw [HF.out, HLX.out], by rw [HT.out]; simp, by rw [HF.out, HT.out]; exact HC5.out⟩
          case measure => simp [intOf]; omega
        · have HF := Lib.hid (Num.firsts_full HP.out (by omega))
          have hf8 : decide (((Num.firsts m).length : Int) < 8) = false := by have := HFL.out; simp; omega
          clear h8
          go_wp2_with fail
          refine hpr.mono ?_
          rintro e w2 ⟨rfl, rfl⟩
          clear hpr h64
          go_wp2_with fail
          refine (hb3 _).mono ?_
          rintro e w4 ⟨rfl, hw4⟩
          have HC4 := Lib.hid (HC.out.keep hw4)
          have hbs4 := HC4.out.below.size
          generalize Num.behind (m + 2) 3 = x3 at *
          go_wp2_with (at_builtin; refine wpList_append_mine rfl _ _ 56 rfl w.heap.size 34 i0 (.int .u32 0) 1 4 Tryd.underlying56 hi hz0 hz1 hz2 rfl (by decide) (.slice (some ⟨gb, 0, none⟩) (Num.thirds m).length cb) _ _ rfl (HC4.out.b.alloc _) ⟨w4.heap.size, 0, none⟩ 1 1 [.int .u32 (x3 : Int)] rfl rfl (cells_new _ [.int .u32 (x3 : Int)] _) (fun x hx => by simp at hx; subst hx; rfl) (by omega) (by have := HL64.out; have := HFL.out; unfold maxLen; omega) (by have := HL64.out; have := HFL.out; omega) (by simp; omega) ?grow3)
          intro g3 c3 w5 hown5 hgrow5 hg5 hg6
          have HC5 := Lib.hid (HC4.out.swap.push hown5 hgrow5 hg5).swap
          clear hown5 hgrow5 hg5 hg6 HC4
          go_wp2
          go_roundw
          case rel => exact ⟨m + 1, ga, ca, g3, c3, by omega, by go_num, by rw [HF.out], by rw [HT.out]; simp, by rw [HF.out, HT.out]; exact HC5.out⟩
          case measure => simp [intOf]; omega
    · have h310 : m = 310 := by
        rcases Nat.lt_or_ge m 310 with h | h
        · have := Num.upto_mono (show m ≤ 309 by omega)
          rw [Num.upto_309] at this
          have := HTL.out
          omega
        · omega
      subst h310
      have h1 : (Num.thirds 310).length = 64 := by rw [Num.thirds_all]; rfl
      have h2 : (Num.firsts 310).length = 8 := by rw [Num.firsts_all]; rfl
      have hA : Words wr ga Sha.first.l := by rw [← Num.firsts_all]; exact Words.of_own HC.out.a
      have hB : Words wr gb Sha.rounds := by rw [← Num.thirds_all]; exact Words.of_own HC.out.b
      rw [h1, h2]
      have HAA := Lib.hid hA
      have HBB := Lib.hid hB
      clear h64 hlen hA hB h1 h2
      go_wp2
      go_ret2
      exact ⟨ga, ca, gb, cb, rfl, HAA.out, HBB.out, HC.out.below⟩
#print axioms const02_any
end Go.Proofs.YtdiccgpgmddbdaaDoor
