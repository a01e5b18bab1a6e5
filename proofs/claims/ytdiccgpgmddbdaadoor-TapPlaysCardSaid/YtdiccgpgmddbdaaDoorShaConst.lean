/- The walk of sha.Constants: the two tables as they are laid. Condition: the two package-level tables hold the document's words. -/
import Derived.Test.YtdiccgpgmddbdaaDoorCells
import Derived.OrdersHeld
import Derived.Deep.RegionHeld3
import Derived.Deep.MidRow
import Derived.Laws.CopyOwn
import Derived.Outline
namespace Go.Proofs.YtdiccgpgmddbdaaDoor
open Go.RowKit

/-- The tables of package sha lie as the program lays them. -/
def Tabs (W : World) : Prop := W.rangeAt 0 0 (u32s Sha.first.l) ∧ W.rangeAt 1 0 (u32s Sha.rounds)
theorem Tabs.keep {B : Nat} {W W' : World} (h : Tabs W) (hb : Below B W W') (hB : 2 ≤ B) : Tabs W' :=
  ⟨fun j v hv => by rw [hb.cell (p := ⟨0, 0 + j, none⟩) (show 0 < B by omega)]; exact h.1 j v hv,
   fun j v hv => by rw [hb.cell (p := ⟨1, 0 + j, none⟩) (show 1 < B by omega)]; exact h.2 j v hv⟩
theorem Tabs.size {W : World} (h : Tabs W) : 2 ≤ W.heap.size := by
  have h1 := h.2 0 _ (show (u32s Sha.rounds)[0]? = some _ from rfl)
  have h2 := World.block_lt_of_cell? _ _ h1
  have h3 := World.block_lt_of_cell? _ _ (h.1 0 _ (show (u32s Sha.first.l)[0]? = some _ from rfl))
  simp at h2 h3; omega
/-- Blocks of the call's own keep the tables. -/
theorem Tabs.setRow {W : World} (h : Tabs W) (g : Nat) (cs : Array Value) (hg : 2 ≤ g) : Tabs (W.setRow g cs) :=
  ⟨fun j v hv => by rw [cell_setRow_other _ _ _ _ (show 0 ≠ g by omega)]; exact h.1 j v hv,
   fun j v hv => by rw [cell_setRow_other _ _ _ _ (show 1 ≠ g by omega)]; exact h.2 j v hv⟩

/-- Two results that lie in rows. -/
theorem results_rows2 {P : Program} {fn : Func} {p q : Tmp} {t u : TypeId} (h : fn.results = #[.cell p t, .cell q u]) (tmps : Array Value) (w : World) (g k : Nat) (t' u' : TypeId) (cs ds : Array Value) (d e : TypeDesc)
    (hp : tmps.getD p undef = .pointer (some ⟨g, 0, none⟩)) (hq : tmps.getD q undef = .pointer (some ⟨k, 0, none⟩)) (hg : w.heap[g]? = some (.cells cs t' (0, 0))) (hk : w.heap[k]? = some (.cells ds u' (0, 0)))
    (hu : P.underlying t = some d) (hd : (match d with | .struct _ | .array _ _ => true | _ => false) = true) (hi : (P.info? t).map (·.size) = some cs.size)
    (hu2 : P.underlying u = some e) (hd2 : (match e with | .struct _ | .array _ _ => true | _ => false) = true) (hi2 : (P.info? u).map (·.size) = some ds.size) :
    (results fn tmps).run P w = .ok (.tuple #[.agg cs, .agg ds]) w := by
  have h1 := run_loadVar_row (P := P) w g t' t cs (0, 0) d hg hu hd hi
  have h2 := run_loadVar_row (P := P) w k u' u ds (0, 0) e hk hu2 hd2 hi2
  have hp' : tmps[p]?.getD undef = .pointer (some ⟨g, 0, none⟩) := by simpa using hp
  have hq' : tmps[q]?.getD undef = .pointer (some ⟨k, 0, none⟩) := by simpa using hq
  simp [results, h, hp', hq', asAddr, Result.andThen, h1, h2]

def Z35 : Array Value := arr [] 8
def Z36 : Array Value := arr [] 64

set_option maxRecDepth 100000 in
theorem const_any (w : World) (ht : Tabs w) :
    Calls Tryd.prog 22 #[] w fun e w' => e = .returned (.tuple #[.agg (u32s Sha.first.l).toArray, .agg (u32s Sha.rounds).toArray]) ∧ Below w.heap.size w w' := by
  have i35 : (Tryd.prog.info? 35).map (·.size) = some 8 := by kernel_rfl
  have i36 : (Tryd.prog.info? 36).map (·.size) = some 64 := by kernel_rfl
  have I35 := Lib.hid i35
  have I36 := Lib.hid i36
  clear i35 i36
  have hsz := ht.size
  go_enter Tryd.func22, Tryd.ntmps22
  go_wp2_with fail
  generalize hW : (w.alloc _).alloc _ = W
  refine wp_region_noPanic ?_
  refine wp_region_held (S := Tabs) (by kernel_rfl) ?_
  have hb0 : Below w.heap.size w W := by rw [← hW]; exact ((Below.refl _ _).alloc (Nat.le_refl _) _).alloc (by simp) _
  have h0 : W.heap[w.heap.size]? = some (.cells Z35 35 (0, 0)) := by
    rw [← hW, heap_alloc_old _ _ (by simp), heap_alloc_new]; rfl
  have h1 : W.heap[w.heap.size + 1]? = some (.cells Z36 36 (0, 0)) := by
    rw [← hW, show w.heap.size + 1 = (w.alloc (Obj.cells _ 35)).heap.size by simp, heap_alloc_new]; rfl
  have hT : Tabs { W with drawn := W.drawn + 1 } := ht.keep hb0.drew hsz
  refine wpAnyH_take (i := 0) (v := .agg (u32s Sha.first.l).toArray) rfl (by kernel_rfl) (by kernel_rfl) (by kernel_rfl) (fun _ _ _ h => h)
    (yieldsIf_load_mid rfl 35 _ rfl 0 0 rfl _ _ (fun _ h => h.1) Tryd.underlying35 rfl I35.out) hT ?_
  refine wpAnyH_take (i := 1) (v := .agg (u32s Sha.rounds).toArray) rfl (by kernel_rfl) (by kernel_rfl) (by kernel_rfl) (fun _ _ _ h => h)
    (yieldsIf_load_mid rfl 36 _ rfl 1 0 rfl _ _ (fun _ h => h.2) Tryd.underlying36 rfl I36.out) hT ?_
  refine wpAnyH_all (rs := [2]) (by kernel_rfl) (by decide) (fun i hi => ?_)
  obtain rfl : i = 2 := by simpa using hi
  refine .inl (wp_store_row 35 _ _ rfl w.heap.size (u32s Sha.first.l).toArray rfl rfl 35 Z35 h0 I35.out rfl (by simp [u32s, Value.oneCell']) ?_)
  have hT2 := hT.setRow w.heap.size (u32s Sha.first.l).toArray hsz
  refine ⟨hT2, ?_⟩
  refine wpAnyH_all (rs := [3]) (by kernel_rfl) (by decide) (fun i hi => ?_)
  obtain rfl : i = 3 := by simpa using hi
  have h2 : (World.setRow { W with drawn := W.drawn + 1 } w.heap.size (u32s Sha.first.l).toArray).heap[w.heap.size + 1]? = some (.cells Z36 36 (0, 0)) := by
    rw [setRow_other _ _ _ _ (by omega)]; exact h1
  refine .inl (wp_store_row 36 _ _ rfl (w.heap.size + 1) (u32s Sha.rounds).toArray rfl rfl 36 Z36 h2 I36.out rfl (by simp [u32s, Value.oneCell']) ?_)
  refine ⟨hT2.setRow _ _ (by omega), ?_⟩
  refine wpAnyH_done (by kernel_rfl) ?_ _
  have h3 := setRow_heap _ _ _ (u32s Sha.rounds).toArray _ _ h2
  have h4 : (World.setRow (World.setRow { W with drawn := W.drawn + 1 } w.heap.size (u32s Sha.first.l).toArray) (w.heap.size + 1) (u32s Sha.rounds).toArray).heap[w.heap.size]? = some (.cells (u32s Sha.first.l).toArray 35 (0, 0)) := by
    rw [setRow_other _ _ _ _ (by omega)]
    exact setRow_heap _ _ _ _ _ _ (show ({ W with drawn := W.drawn + 1 } : World).heap[w.heap.size]? = _ from h0)
  have hb2 : Below w.heap.size w (World.setRow (World.setRow { W with drawn := W.drawn + 1 } w.heap.size (u32s Sha.first.l).toArray) (w.heap.size + 1) (u32s Sha.rounds).toArray) :=
    below_setRow (below_setRow hb0.drew (Nat.le_refl _) _) (Nat.le_succ _) _
  generalize (World.setRow (World.setRow { W with drawn := W.drawn + 1 } w.heap.size (u32s Sha.first.l).toArray) (w.heap.size + 1) (u32s Sha.rounds).toArray) = W2 at *
  clear hW
  refine NoPanic.normal ?_
  go_wp2
  exact bodyPost_ret (v := .tuple #[.agg (u32s Sha.first.l).toArray, .agg (u32s Sha.rounds).toArray])
    (results_rows2 (P := Tryd.prog) rfl _ _ w.heap.size (w.heap.size + 1) _ _ _ _ _ _ rfl rfl h4 h3 Tryd.underlying35 rfl I35.out Tryd.underlying36 rfl I36.out) rfl ⟨rfl, hb2⟩
end Go.Proofs.YtdiccgpgmddbdaaDoor
