/- The walk of sha.mix: a state behind a block of 64 bytes. -/
import Derived.Test.YtdiccgpgmddbdaaDoorShaRound
namespace Go.Proofs.YtdiccgpgmddbdaaDoor
open Go.RowKit

set_option maxRecDepth 100000 in
set_option maxHeartbeats 4000000 in
theorem mix_any (s : Sha.S8) (b : ByteArray) (w : World) (ht : Tabs w) (hs : S8ok s) (hb : b.size = 64) :
    Calls Tryd.prog 38 #[.agg (S8v s), .string b] w fun e w' => e = .returned (.agg (S8v (Sha.mix s b.data.toList))) ∧ Below w.heap.size w w' := by
  obtain ⟨F, hF⟩ : ∃ F, F = Sha.first := ⟨_, rfl⟩
  obtain ⟨CK, hCK⟩ : ∃ C, C = (u32s Sha.rounds).toArray := ⟨_, rfl⟩
  obtain ⟨CW, hCW⟩ : ∃ C, C = (u32s (Sha.words b.data.toList)).toArray := ⟨_, rfl⟩
  have hcon : ∀ W : World, Tabs W → Calls Tryd.prog 22 #[] W fun e w' => e = .returned (.tuple #[.agg (S8v F), .agg CK]) ∧ Below W.heap.size W w' := fun W h => by rw [hF, hCK]; exact const_any W h
  have hwor : ∀ W : World, Calls Tryd.prog 46 #[.string b] W fun e w' => e = .returned (.agg CW) ∧ Below W.heap.size W w' := fun W => by rw [hCW]; exact words_any b W hb
  have hKl : CK.size = 64 := by rw [hCK]; rfl
  have hWl : CW.size = 64 := by rw [hCW]; simp [u32s, Sha.words, sched_len, words16_len]
  have i64 : (Tryd.prog.info? 36).map (·.size) = some 64 := by kernel_rfl
  have stK := fun (W : World) (o : Obj) => store_new2 (P := Tryd.prog) W o 36 Z64 CK (by rw [hKl]; exact i64) (by rw [hKl]; rfl) (by rw [hCK]; exact u32s_one _)
  have stW := fun W : World => run_storeCells_new (P := Tryd.prog) W 36 Z64 CW (by rw [hWl]; exact i64) (by rw [hWl]; rfl) (by rw [hCW]; exact u32s_one _)
  have HF := Lib.hid hF
  have HK := Lib.hid hCK
  have HW := Lib.hid hCW
  clear hF hCK hCW hb i64
  have hsz := ht.size
  go_enter Tryd.func38, Tryd.ntmps38
  go_wp2_with (go_at_call 46; refine (hwor _).mono ?_; rintro e w1 ⟨rfl, hb1⟩)
  have hw1 : Below w.heap.size w w1 := (((Below.refl _ _).alloc (Nat.le_refl _) _).alloc (by simp) _).trans (hb1.mono (by simp; omega))
  have hz1 : w.heap.size + 2 ≤ w1.heap.size := by have := hb1.size; simp at this; omega
  refine (hcon _ (ht.keep (hw1.alloc (by omega) _) hsz)).mono ?_
  rintro e w2 ⟨rfl, hb2⟩
  have hz2 : w1.heap.size + 1 ≤ w2.heap.size := by have := hb2.size; simp at this; omega
  have hb2' : Below w1.heap.size w1 w2 := ((Below.refl _ _).alloc (Nat.le_refl _) _).trans (hb2.mono (by simp))
  have hrow : w2.heap[w.heap.size]? = some (.cells (S8v s) 35 (0, 0)) := by
    rw [hb2'.block _ (by omega), hb1.block _ (by simp; omega), heap_alloc_old _ _ (by simp), heap_alloc_last]
  have hres : w2.heap[w.heap.size + 1]? = some (.cells #[.int .u32 0, .int .u32 0, .int .u32 0, .int .u32 0, .int .u32 0, .int .u32 0, .int .u32 0, .int .u32 0] 35 (0, 0)) := by
    rw [hb2'.block _ (by omega), hb1.block _ (by simp)]
    have h := heap_alloc_last (w.alloc (.cells (S8v s) 35)) (.cells #[.int .u32 0, .int .u32 0, .int .u32 0, .int .u32 0, .int .u32 0, .int .u32 0, .int .u32 0, .int .u32 0] 35)
    simpa using h
  have hwrow : w2.heap[w1.heap.size]? = some (.cells CW 36 (0, 0)) := by
    rw [hb2.block _ (by simp), heap_alloc_last]
  have q0 : w.heap.size < w2.heap.size := by omega
  have q1 : w.heap.size < w2.heap.size + 1 := by omega
  have q2 : w.heap.size < w2.heap.size + 1 + 1 := by omega
  have c0 := heap_cell (j := 0) hrow rfl
  have c1 := heap_cell (j := 1) hrow rfl
  have c2 := heap_cell (j := 2) hrow rfl
  have c3 := heap_cell (j := 3) hrow rfl
  have c4 := heap_cell (j := 4) hrow rfl
  have c5 := heap_cell (j := 5) hrow rfl
  have c6 := heap_cell (j := 6) hrow rfl
  have c7 := heap_cell (j := 7) hrow rfl
  have Hrow := Lib.hid hrow
  have Hres := Lib.hid hres
  have Hwrow := Lib.hid hwrow
  clear hrow hres hwrow
  go_wp2
  have hm : MixAt s CW CK (Sha.words b.data.toList) w.heap.size (w.heap.size + 1) w1.heap.size (w2.heap.size + 1) (w2.heap.size + 1 + 1) 0
      (((w2.alloc (.cells (S8v F) 35)).alloc (.cells CK 36)).alloc (.cells (S8v s) 35)) := by
    refine ⟨?_, ?_, ?_, ?_, ?_⟩
    · rw [heap_alloc_old _ _ (by simp; omega), heap_alloc_old _ _ (by simp; omega), heap_alloc_old _ _ (by omega)]; exact Hrow.out
    · rw [heap_alloc_old _ _ (by simp; omega), heap_alloc_old _ _ (by simp; omega), heap_alloc_old _ _ (by omega)]; exact Hres.out
    · rw [heap_alloc_old _ _ (by simp; omega), heap_alloc_old _ _ (by simp; omega), heap_alloc_old _ _ (by omega)]; exact Hwrow.out
    · rw [heap_alloc_old _ _ (by simp)]
      have h := heap_alloc_last (w2.alloc (.cells (S8v F) 35)) (.cells CK 36)
      simpa using h
    · have h := heap_alloc_last ((w2.alloc (.cells (S8v F) 35)).alloc (.cells CK 36)) (.cells (S8v s) 35)
      simpa using h
  have hbm : Below w.heap.size w (((w2.alloc (.cells (S8v F) 35)).alloc (.cells CK 36)).alloc (.cells (S8v s) 35)) :=
    (((hw1.trans (hb2'.mono (by omega))).alloc (by omega) _).alloc (by simp; omega) _).alloc (by simp; omega) _
  have e7 : w1.heap.size + 2 ≤ w2.heap.size + 1 := by omega
  have e8 : w1.heap.size + 2 ≤ w2.heap.size + 1 + 1 := by omega
  have e9 : w2.heap.size + 1 < w2.heap.size + 1 + 1 := by omega
  clear c0 c1 c2 c3 c4 c5 c6 c7 Hrow Hres Hwrow q0 q1 q2
  generalize ((w2.alloc (.cells (S8v F) 35)).alloc (.cells CK 36)).alloc (.cells (S8v s) 35) = W3 at *
  generalize w2.heap.size + 1 + 1 = B8 at *
  generalize w2.heap.size + 1 = B7 at *
  generalize w1.heap.size = B5 at *
  go_loopw [22] (fun i wr => ∃ k : Nat, k ≤ 64 ∧ i = .int .i64 k ∧ Below w.heap.size w wr ∧ MixAt s CW CK (Sha.words b.data.toList) w.heap.size (w.heap.size + 1) B5 B7 B8 k wr) (fun i _ => 64 - (intOf i).toNat)
  case atStart => exact ⟨0, by omega, rfl, hbm, hm⟩
  case round =>
    clear hbm hm W3 hcon hwor stK stW hKl hWl hb1 hb2 hb2' hw1
    obtain ⟨k, hk, rfl, hb, hm⟩ := hrel
    by_cases hlt : k < 64
    · refine mix_round s (Sha.words b.data.toList) (words_lt b.data.toList 48) (by simp [Sha.words, sched_len, words16_len]) CW CK w.heap.size w.heap.size (w.heap.size + 1) B5 B7 B8 k w wr _ _ _ _ _ _ _ _ _ _ _ _ _ _ _ _ _ _ _ _ _ _ _ _ _ _ _ _ _ _ _ _ _ _ _ _ _ _ _ _ _ _ _ _ _ _ _ _ _ _ _ _ _ _ _ _ _ _ _ _ _ _ _ _ _ _ _ _ _ _ _ _ _ _ _ _ _ _ _ _ _ _ _ _ _ _ _ _ _ _ _ _ _ _ _ _ _ _ _ _ _ _ _ _ _ _ _ _ _ _ _ _ _ _ hs HK HW hlt hb (Nat.le_refl _) (by omega) (by omega) (by omega) (by omega) hm ?_
      clear hm hb
      intro u9 u10 u11 u12 u13 u23 u24 u25 u26 u27 u28 u29 u30 u31 u32 u33 u34 u35 u36 u37 u38 u39 u40 u41 u42 u43 u44 u45 u46 u47 u48 u49 u50 u51 u52 u53 u54 u55 u56 u57 u58 u59 u60 u61 u62 u63 u64 u65 u66 u67 u68 u69 u70 u71 u72 u73 u74 u75 u76 u77 u78 u79 u80 u81 u82 u83 u84 u85 u86 u87 u88 u89 u90 u91 u92 u93 u94 u95 u96 u97 u98 u99 u100 u101 u102 u103 w' hb hm
      go_roundw
      case rel => first | exact ⟨k + 1, by omega, by go_num, hb, hm⟩ | ((repeat apply Exists.intro); exact ⟨⟨k + 1, by omega, by go_num, hb, hm⟩, rfl⟩)
      case measure => simp [intOf]; omega
    · obtain rfl : k = 64 := by omega
      have ho := rnds_ok hs Sha.rounds (Sha.words b.data.toList) 64
      have hmb : MixB s (Sha.rnds s Sha.rounds (Sha.words b.data.toList) 64) w.heap.size (w.heap.size + 1) B8 0 wr := ⟨by rw [addA_zero]; exact hm.st, hm.res, hm.was⟩
      generalize hT : Sha.rnds s Sha.rounds (Sha.words b.data.toList) 64 = t at ho hmb
      have HT := Lib.hid hT
      clear hT hm hlt hk
      rw [show ((64 : Nat) : Int) = 64 from rfl]
      go_wp2_with fail
      go_loopw [104] (fun i wr => ∃ j : Nat, j ≤ 8 ∧ i = .int .i64 j ∧ Below w.heap.size w wr ∧ MixB s t w.heap.size (w.heap.size + 1) B8 j wr) (fun i _ => 8 - (intOf i).toNat)
      case atStart => exact ⟨0, by omega, rfl, hb, hmb⟩
      case round =>
        clear hb hmb
        obtain ⟨j, hj, rfl, hb, hm⟩ := hrel
        have HM := Lib.hid hm
        by_cases hlt : j < 8
        · as_aux_lemma =>
            have cS := heap_cell (j := j) hm.st (u32s_get _ _ (by rw [addA_len]; exact hlt))
            rw [addA_get _ _ _ _ hlt, if_neg (by omega)] at cS
            have cA := heap_cell (j := j) hm.was (u32s_get _ _ hlt)
            have fS := heap_free (j := j) hm.st
            have lS := S8l_lt ho j
            have lA := S8l_lt hs j
            clear hm
            generalize hx : t.l.getD j 0 = x at cS lS
            generalize hy : s.l.getD j 0 = y at cA lA
            have HX := Lib.hid hx
            have HY := Lib.hid hy
            clear hx hy
            have k0 : (0 : Int) ≤ (j : Int) := by omega
            have k1 : (j : Int) < 8 := by omega
            go_wp2_with fail
            refine wp_region_drew_tail 8 (by kernel_rfl) (by kernel_rfl) ?_
            simp only [List.take_succ_cons, List.take_zero, List.drop_succ_cons, List.drop_zero]
            repeat (go_big_quiet_step (fail))
            refine wpQuiet_nil ?_
            intro _ hw'
            obtain ⟨nq2, hw''⟩ := hw'
            subst hw''
            go_wp2
            go_roundw
            case rel =>
              refine ⟨j + 1, by omega, by go_num, below_drewN (hb.setCell (by simp) _) _, HM.out.next (by omega) (by omega) hlt ?_⟩
              rw [HX.out, HY.out]
              omega
            case measure => simp [intOf]; omega
        · as_aux_lemma =>
            obtain rfl : j = 8 := by omega
            have hst := hm.st
            have hres := hm.res
            have e1 := addA_eight t s
            have e2 : Sha.add8 t s = Sha.mix s b.data.toList := by rw [← HT.out]; rfl
            rw [e1, e2] at hst
            clear hm hlt hj e1 e2
            have HO : Hid ((S8v (Sha.mix s b.data.toList)).all (·.oneCell') = true) := show _ = true by simp [Value.oneCell']
            have HI : Hid ((Tryd.prog.info? 35).map (·.size) = some (S8v (Sha.mix s b.data.toList)).size) := show (Tryd.prog.info? 35).map (·.size) = some 8 by kernel_rfl
            generalize hD : S8v (Sha.mix s b.data.toList) = D at hst HO HI
            have HD := Lib.hid hD
            have HR := Lib.hid hst
            have HS := Lib.hid hres
            have hsz8 : D.size = 8 := by rw [← hD]; rfl
            have HZ := Lib.hid hsz8
            clear hD hst hres hsz8
            go_wp2_with (first | (refine wpList_load_row rfl 35 (.tmp 2) rfl w.heap.size rfl 35 D (0, 0) _ HR.out Tryd.underlying35 rfl HI.out ?_) | (refine wpList_store_row rfl 35 (.tmp 4) (.tmp 116) rfl (w.heap.size + 1) D rfl rfl 35 _ HS.out HI.out HZ.out.symm HO.out ?_))
            have h3 := setRow_heap _ _ _ D _ _ HS.out
            refine bodyPost_ret (v := .agg D) (results_cell_row (P := Tryd.prog) rfl _ _ (w.heap.size + 1) 35 D (0, 0) _ rfl h3 Tryd.underlying35 rfl HI.out) rfl ⟨?_, below_setRow hb (Nat.le_succ _) _⟩
            rw [HD.out]
end Go.Proofs.YtdiccgpgmddbdaaDoor
