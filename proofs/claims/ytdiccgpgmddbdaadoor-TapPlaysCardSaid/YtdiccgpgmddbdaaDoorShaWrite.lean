/- The walk of (*sha.Hash).Write: what comes is digested behind what came. -/
import Derived.Test.YtdiccgpgmddbdaaDoorShaObj
namespace Go.Proofs.YtdiccgpgmddbdaaDoor
open Go.RowKit

def strLen : Value → Nat | .string s => s.size | _ => 0
/-- What holds at the head of Write's loop. -/
structure WriteAt (w : World) (b : Nat) (all : List UInt8) (rest : ByteArray) (wr : World) : Prop where
  tabs : Tabs wr
  only : Only (· = b) w wr
  ex : ∃ c, all = c ++ rest.data.toList ∧ c.length % 64 = 0 ∧ wr.heap[b]? = some (.cells (hashC (Sha.stc c) ⟨#[]⟩ (all.length : Int)) 62 (0, 0))
/-- The worlds of a region: new blocks alone. -/
def Fresh (w0 W : World) : Prop := Below w0.heap.size w0 W

abbrev set8 (w : World) (b : Nat) (n : Sha.S8) : World :=
  (((((((w.setCell ⟨b, 0, none⟩ (.int .u32 (n.a : Nat))).setCell ⟨b, 1, none⟩ (.int .u32 (n.b : Nat))).setCell ⟨b, 2, none⟩ (.int .u32 (n.c : Nat))).setCell ⟨b, 3, none⟩ (.int .u32 (n.d : Nat))).setCell ⟨b, 4, none⟩ (.int .u32 (n.e : Nat))).setCell
    ⟨b, 5, none⟩ (.int .u32 (n.f : Nat))).setCell ⟨b, 6, none⟩ (.int .u32 (n.g : Nat))).setCell ⟨b, 7, none⟩ (.int .u32 (n.h : Nat))
theorem set8_heap {w : World} {b : Nat} {s : Sha.S8} {o : ByteArray} {n : Int} (h : w.heap[b]? = some (.cells (hashC s o n) 62 (0, 0))) (t : Sha.S8) : (set8 w b t).heap[b]? = some (.cells (hashC t o n) 62 (0, 0)) := by
  have h := heap_set (j := 7) (heap_set (j := 6) (heap_set (j := 5) (heap_set (j := 4) (heap_set (j := 3) (heap_set (j := 2) (heap_set (j := 1) (heap_set (j := 0) h (.int .u32 (t.a : Nat))) (.int .u32 (t.b : Nat))) (.int .u32 (t.c : Nat))) (.int .u32 (t.d : Nat))) (.int .u32 (t.e : Nat))) (.int .u32 (t.f : Nat))) (.int .u32 (t.g : Nat))) (.int .u32 (t.h : Nat))
  simp only [List.setIfInBounds_toArray, List.set_cons_zero, List.set_cons_succ] at h
  exact h
theorem set8_only (w : World) (b : Nat) (t : Sha.S8) : Only (· = b) w (set8 w b t) :=
  (((((((Only.set1 _).trans (Only.set1 _)).trans (Only.set1 _)).trans (Only.set1 _)).trans (Only.set1 _)).trans (Only.set1 _)).trans (Only.set1 _)).trans (Only.set1 _)
theorem drop_end (s : ByteArray) (k : Nat) : (s.extract k s.size).data.toList = s.data.toList.drop k := by
  have : s.size = s.data.toList.length := by simp
  simp [List.extract_eq_take_drop]
  rw [List.take_of_length_le (by simp)]

set_option maxRecDepth 100000 in
set_option maxHeartbeats 2000000 in
theorem write_empty (b : Nat) (m : List UInt8) (s : ByteArray) (w : World) (ht : Tabs w) (hb2 : 2 ≤ b) (hm : m.length % 64 = 0) (h : w.heap[b]? = some (.cells (hashC (Sha.stc m) ⟨#[]⟩ (m.length : Int)) 62 (0, 0)))
    (hlen : m.length + s.size < 4611686018427387904) :
    Calls Tryd.prog 18 #[.pointer (some ⟨b, 0, none⟩), .string s] w fun e w' => e = .returned (.tuple #[]) ∧ HashAt w' b (m ++ s.data.toList) ∧ Only (· = b) w w' := by
  have c8 := heap_cell (j := 8) h rfl
  have c9 := heap_cell (j := 9) h rfl
  have f0 := heap_free (j := 9) h
  have hs0 : (s.size : Int) < 4611686018427387904 := by omega
  have hm0 : (m.length : Int) + s.size < 4611686018427387904 := by omega
  have HH := Lib.hid h
  clear h
  go_enter Tryd.func18, Tryd.ntmps18
  go_wp2_with fail
  go_loopw [1] (fun v wr => ∃ rest : ByteArray, v = .string rest ∧ WriteAt w b (m ++ s.data.toList) rest wr) (fun v _ => strLen v)
  case atStart =>
    have o1 : Only (· = b) w (w.setCell ⟨b, 9, none⟩ (.int .u64 ((m.length : Int) + s.size))) := Only.set1 _
    refine ⟨s, rfl, ht.only o1 (by show 0 ≠ b; omega) (by show 1 ≠ b; omega), o1, m, rfl, hm, ?_⟩
    have h := heap_set (j := 9) HH.out (.int .u64 ((m.length : Int) + s.size))
    rw [show (((m ++ s.data.toList).length : Nat) : Int) = (m.length : Int) + s.size by simp]
    exact h
  case round =>
    clear c8 c9 f0 HH
    obtain ⟨rest, rfl, hr⟩ := hrel
    obtain ⟨hT, hO, cc, hall, hcc, hh⟩ := hr
    have HA := Lib.hid hall
    have HH := Lib.hid hh
    have hok := stc_ok cc
    clear hall hh
    generalize hst : Sha.stc cc = st at *
    have HS := Lib.hid hst
    clear hst
    by_cases hlt : 64 ≤ rest.size
    · have hlt' : (64 : Int) ≤ rest.size := by omega
      have hri : (rest.size : Int) < 9223372036854775807 := by
        have := congrArg List.length HA.out
        simp at this; omega
      have hsz := hT.size
      have hrow : ∀ W, Fresh wr W → W.heap[b]? = some (.cells (hashC st ⟨#[]⟩ ((m ++ s.data.toList).length : Int)) 62 (0, 0)) := fun W hW => by
        rw [hW.block _ (heap_lt HH.out)]; exact HH.out
      have hrange : ∀ W, Fresh wr W → W.rangeAt b 0 (S8v st).toList := fun W hW j v hv => by
        rw [cell_of_row _ _ _ _ _ _ (hrow W hW)]
        match j, hv with
        | 0, hv => exact hv
        | 1, hv => exact hv
        | 2, hv => exact hv
        | 3, hv => exact hv
        | 4, hv => exact hv
        | 5, hv => exact hv
        | 6, hv => exact hv
        | 7, hv => exact hv
        | n + 8, hv => simp at hv
      have I35 : Hid ((Tryd.prog.info? 35).map (·.size) = some (S8v st).toList.length) := show (Tryd.prog.info? 35).map (·.size) = some 8 by kernel_rfl
      go_wp2_with fail
      refine wp_region_quiet_tail (C := Fresh wr) 10 (by kernel_rfl) (by kernel_rfl) (show Below _ _ _ from (Below.refl _ _).drew) ?_
      simp only [List.take_succ_cons, List.take_zero, List.drop_succ_cons, List.drop_zero]
      iterate 4
        refine wpQuiet_step (fun K hK => ?_)
        go_simp
        apply Exists.intro
        refine ⟨fun W hW => ?_, hK _ ?_⟩
        · exact rfl
        clear hK K
      refine BigFrame.wpQuiet_want rfl (fun K hK => quiet_load_mid 35 _ rfl b 0 rfl (S8v st).toList _ hrange Tryd.underlying35 rfl I35.out (hK _ ?_))
      clear hK K
      iterate 2
        refine wpQuiet_step (fun K hK => ?_)
        go_simp
        apply Exists.intro
        refine ⟨fun W hW => ?_, hK _ ?_⟩
        · exact rfl
        clear hK K
      refine wpQuiet_step (fun K hK => ?_)
      go_simp
      apply Exists.intro
      refine ⟨fun W hW => ?_, hK _ ?_⟩
      · exact (mix_any st _ W (hT.keep hW hsz) hok (by simp; omega)).mono fun e w'' h => ⟨h.1, hW.trans (h.2.mono hW.size)⟩
      clear hK K
      iterate 2
        refine wpQuiet_step (fun K hK => ?_)
        go_simp
        apply Exists.intro
        refine ⟨fun W hW => ?_, hK _ ?_⟩
        · exact rfl
        clear hK K
      refine wpQuiet_nil ?_
      intro w1 hw1
      have hr1 := hrow w1 hw1
      have c0 := heap_cell (j := 0) hr1 rfl
      have c1 := heap_cell (j := 1) hr1 rfl
      have c2 := heap_cell (j := 2) hr1 rfl
      have c3 := heap_cell (j := 3) hr1 rfl
      have c4 := heap_cell (j := 4) hr1 rfl
      have c5 := heap_cell (j := 5) hr1 rfl
      have c6 := heap_cell (j := 6) hr1 rfl
      have c7 := heap_cell (j := 7) hr1 rfl
      have f0 := heap_free (j := 0) hr1
      have f1 := heap_free (j := 1) hr1
      have f2 := heap_free (j := 2) hr1
      have f3 := heap_free (j := 3) hr1
      have f4 := heap_free (j := 4) hr1
      have f5 := heap_free (j := 5) hr1
      have f6 := heap_free (j := 6) hr1
      have f7 := heap_free (j := 7) hr1
      have HR1 := Lib.hid hr1
      clear hr1 hrow hrange
      generalize hn8 : Sha.mix st _ = n8
      have HN := Lib.hid hn8
      clear hn8
      go_wp2
      have hfin := set8_heap HR1.out n8
      refine ⟨⟨_, rfl, hT.only ((Only.of_below hw1).trans (set8_only w1 b n8)) (by show 0 ≠ b; omega) (by show 1 ≠ b; omega), hO.trans ((Only.of_below hw1).trans (set8_only w1 b n8)), cc ++ rest.data.toList.take 64, ?_, ?_, ?_⟩, ?_⟩
      · rw [HA.out, drop_end]; simp
      · simp; omega
      · rw [Sha.stc_block cc _ hcc (by simp; omega), HS.out, HN.out]; exact hfin
      · show (rest.extract 64 rest.size).size < rest.size
        simp; omega
    · have hlt' : ¬ (64 : Int) ≤ rest.size := by omega
      have hri : (rest.size : Int) < 64 := by omega
      have hrow := HH.out
      have c8 := heap_cell (j := 8) hrow rfl
      have f8 := heap_free (j := 8) hrow
      clear hrow
      go_wp2
      go_end0
      refine ⟨rfl, ⟨cc, rest.data.toList, HA.out, hcc, by simp; omega, ?_⟩, hO.trans (Only.set1 _)⟩
      have h := heap_set (j := 8) HH.out (.string (⟨#[]⟩ ++ rest))
      rw [HS.out, h]
      have e : (⟨#[]⟩ : ByteArray) ++ rest = ⟨rest.data.toList.toArray⟩ := by apply ByteArray.ext; simp
      rw [e]
      rfl
end Go.Proofs.YtdiccgpgmddbdaaDoor
