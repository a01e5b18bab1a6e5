/- The digest as an object: what a Hash holds; the walks of New, Copy, Len. -/
import Derived.Test.YtdiccgpgmddbdaaDoorShaMix
import Derived.Test.YtdiccgpgmddbdaaDoorShaLaw
namespace Go.Proofs.YtdiccgpgmddbdaaDoor
open Go.RowKit

/-- What may have turned between two worlds: the blocks of S, and new ones. -/
structure Only (S : Nat → Prop) (w w' : World) : Prop where
  os : w'.os = w.os
  tape : w'.tape = w.tape
  output : w'.output = w.output
  size : w.heap.size ≤ w'.heap.size
  block : ∀ k, k < w.heap.size → ¬ S k → w'.heap[k]? = w.heap[k]?
theorem Only.refl (S : Nat → Prop) (w : World) : Only S w w := ⟨rfl, rfl, rfl, Nat.le_refl _, fun _ _ _ => rfl⟩
theorem Only.trans {S : Nat → Prop} {a b c : World} (h : Only S a b) (k : Only S b c) : Only S a c :=
  ⟨k.os.trans h.os, k.tape.trans h.tape, k.output.trans h.output, Nat.le_trans h.size k.size, fun i hi hn => (k.block i (Nat.lt_of_lt_of_le hi h.size) hn).trans (h.block i hi hn)⟩
theorem Only.mono {S T : Nat → Prop} {w w' : World} (h : Only S w w') (hST : ∀ k, k < w.heap.size → S k → T k) : Only T w w' :=
  ⟨h.os, h.tape, h.output, h.size, fun k hk hn => h.block k hk (fun hs => hn (hST k hk hs))⟩
theorem Only.of_below {S : Nat → Prop} {w w' : World} (h : Below w.heap.size w w') : Only S w w' := ⟨h.os, h.tape, h.output, h.size, fun k hk _ => h.block k hk⟩
theorem Only.below {S : Nat → Prop} {B : Nat} {w w' : World} (h : Only S w w') (hB : B ≤ w.heap.size) (hS : ∀ k, k < B → ¬ S k) : Below B w w' :=
  ⟨h.os, h.tape, h.output, h.size, fun k hk => h.block k (Nat.lt_of_lt_of_le hk hB) (hS k hk)⟩
theorem Only.set {S : Nat → Prop} {w : World} {b o : Nat} (hb : S b) (v : Value) : Only S w (w.setCell ⟨b, o, none⟩ v) :=
  ⟨rfl, rfl, rfl, by simp [World.setCell], fun k _ hn => Below.heap_setCell _ _ _ _ (fun e => hn (e ▸ hb))⟩
theorem Only.set1 {w : World} {b o : Nat} (v : Value) : Only (· = b) w (w.setCell ⟨b, o, none⟩ v) := Only.set (S := (· = b)) rfl v
theorem Only.drew {S : Nat → Prop} {w : World} (n : Nat) : Only S w (w.drewN n) := ⟨rfl, rfl, rfl, Nat.le_refl _, fun _ _ _ => rfl⟩

/-- A Hash's cells. -/
abbrev hashC (s : Sha.S8) (o : ByteArray) (n : Int) : Array Value :=
  #[.int .u32 (s.a : Nat), .int .u32 (s.b : Nat), .int .u32 (s.c : Nat), .int .u32 (s.d : Nat), .int .u32 (s.e : Nat), .int .u32 (s.f : Nat), .int .u32 (s.g : Nat), .int .u32 (s.h : Nat), .string o, .int .u64 n]
/-- The block b is a Hash of the bytes m. -/
def HashAt (w : World) (b : Nat) (m : List UInt8) : Prop :=
  ∃ c r : List UInt8, m = c ++ r ∧ c.length % 64 = 0 ∧ r.length < 64 ∧ w.heap[b]? = some (.cells (hashC (Sha.stc c) ⟨r.toArray⟩ (m.length : Int)) 62 (0, 0))
theorem HashAt.lt {w : World} {b : Nat} {m : List UInt8} (h : HashAt w b m) : b < w.heap.size := by
  obtain ⟨_, _, _, _, _, h⟩ := h; exact heap_lt h
theorem HashAt.keep {w w' : World} {b : Nat} {m : List UInt8} (h : HashAt w b m) (e : w'.heap[b]? = w.heap[b]?) : HashAt w' b m := by
  obtain ⟨c, r, h1, h2, h3, h4⟩ := h
  exact ⟨c, r, h1, h2, h3, e.trans h4⟩

theorem copy_any (b : Nat) (m : List UInt8) (w : World) (h : HashAt w b m) :
    Calls Tryd.prog 21 #[.pointer (some ⟨b, 0, none⟩)] w fun e w' => e = .returned (.pointer (some ⟨w.heap.size, 0, none⟩)) ∧ HashAt w' w.heap.size m ∧ Below w.heap.size w w' ∧ w.heap.size < w'.heap.size := by
  obtain ⟨c, r, h1, h2, h3, h4⟩ := h
  have c0 := heap_cell (j := 0) h4 rfl
  have c1 := heap_cell (j := 1) h4 rfl
  have c2 := heap_cell (j := 2) h4 rfl
  have c3 := heap_cell (j := 3) h4 rfl
  have c4 := heap_cell (j := 4) h4 rfl
  have c5 := heap_cell (j := 5) h4 rfl
  have c6 := heap_cell (j := 6) h4 rfl
  have c7 := heap_cell (j := 7) h4 rfl
  have c8 := heap_cell (j := 8) h4 rfl
  have c9 := heap_cell (j := 9) h4 rfl
  have H1 := Lib.hid h1
  have H2 := Lib.hid h2
  clear h1 h2 h4
  generalize hs : Sha.stc c = s at *
  have HS := Lib.hid hs
  clear hs
  go_enter Tryd.func21, Tryd.ntmps21
  go_wp2
  go_ret
  refine ⟨rfl, ⟨c, r, H1.out, H2.out, h3, ?_⟩, (Below.refl _ _).alloc (Nat.le_refl _) _, by simp⟩
  rw [heap_alloc_last, HS.out]

theorem new_any (w : World) (ht : Tabs w) :
    Calls Tryd.prog 17 #[] w fun e w' => ∃ b, e = .returned (.pointer (some ⟨b, 0, none⟩)) ∧ w.heap.size ≤ b ∧ HashAt w' b [] ∧ Below w.heap.size w w' := by
  obtain ⟨F, hF⟩ : ∃ F, F = Sha.first := ⟨_, rfl⟩
  obtain ⟨CK, hCK⟩ : ∃ C, C = (u32s Sha.rounds).toArray := ⟨_, rfl⟩
  have hcon : Calls Tryd.prog 22 #[] w fun e w' => e = .returned (.tuple #[.agg (S8v F), .agg CK]) ∧ Below w.heap.size w w' := by rw [hF, hCK]; exact const_any w ht
  have hKl : CK.size = 64 := by rw [hCK]; rfl
  have i64 : (Tryd.prog.info? 36).map (·.size) = some 64 := by kernel_rfl
  have stK := fun (W : World) (o : Obj) => store_new2 (P := Tryd.prog) W o 36 Z64 CK (by rw [hKl]; exact i64) (by rw [hKl]; rfl) (by rw [hCK]; exact u32s_one _)
  have HF := Lib.hid hF
  clear hF hCK i64
  go_enter Tryd.func17, Tryd.ntmps17
  go_wp2_with (go_at_call 22; refine hcon.mono ?_; rintro e w1 ⟨rfl, hb1⟩)
  go_ret
  refine ⟨_, rfl, by have := hb1.size; omega, ⟨[], [], rfl, rfl, by simp, ?_⟩, ((hb1.alloc (by have := hb1.size; omega) _).alloc (by have := hb1.size; simp; omega) _).alloc (by have := hb1.size; simp; omega) _⟩
  rw [HF.out]
  have h := heap_alloc_last ((w1.alloc (.cells (S8v Sha.first) 35)).alloc (.cells CK 36)) (.cells (hashC Sha.first ⟨#[]⟩ 0) 62)
  have e : ((w1.alloc (.cells (S8v Sha.first) 35)).alloc (.cells CK 36)).heap.size = w1.heap.size + 1 + 1 := by simp
  rw [e] at h
  exact h

theorem Tabs.only {S : Nat → Prop} {W W' : World} (h : Tabs W) (ho : Only S W W') (h0 : ¬ S 0) (h1 : ¬ S 1) : Tabs W' := by
  have hs := h.size
  refine ⟨fun j v hv => ?_, fun j v hv => ?_⟩
  · rw [World.cell?_of_block (w := W) (ho.block _ (by show 0 < _; omega) h0)]; exact h.1 j v hv
  · rw [World.cell?_of_block (w := W) (ho.block _ (by show 1 < _; omega) h1)]; exact h.2 j v hv
theorem stc_ok (c : List UInt8) : S8ok (Sha.stc c) := by
  have hf : S8ok Sha.first := ⟨by decide, by decide, by decide, by decide, by decide, by decide, by decide, by decide⟩
  have hm : ∀ s b, S8ok (Sha.mix s b) := fun s b => ⟨Nat.mod_lt _ (by decide), Nat.mod_lt _ (by decide), Nat.mod_lt _ (by decide), Nat.mod_lt _ (by decide), Nat.mod_lt _ (by decide), Nat.mod_lt _ (by decide), Nat.mod_lt _ (by decide), Nat.mod_lt _ (by decide)⟩
  unfold Sha.stc
  cases c.length / 64 with
  | zero => exact hf
  | succ n => exact hm _ _
end Go.Proofs.YtdiccgpgmddbdaaDoor
