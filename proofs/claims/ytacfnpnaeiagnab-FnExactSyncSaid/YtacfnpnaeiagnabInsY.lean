-- Written for this claim by a program of this session (mkins.py): some functions of the library, walked.
import Derived.Test.YtacfnpnaeiagnabEY
import Derived.Shelf.Abstract
import Derived.Shelf.RegionOpenPlain
import Derived.Lib.Walk
import Derived.Lib.SliceRun
namespace Go.Proofs.Ytacfnpnaeiagnab.PY
open Go Go.Proofs Go.RowKit Go.Lib Go.Den
set_option linter.unusedVariables false
set_option linter.unusedSimpArgs false
set_option maxHeartbeats 4000000
set_option maxRecDepth 100000
/-- there is room -/
theorem insRoom104 (w : World) (q n c i m vb voff vc : Nat) (cur : Array Value) (e1 : TypeId) (ys : List Value) (hq : w.heap[q]? = some (.cells cur e1 (0, 0))) (hi : i < n) (hm : 0 < m) (hroom : n + m ≤ c) (hc63 : c ≤ 9223372036854775807) (hcs : cur.size = c * 9)
    (hyl : ys.length = m * 9) (hys : ∀ (j : Nat) u, ys[j]? = some u → w.cell? ⟨vb, voff + j, none⟩ = some u) (h1c : ∀ u ∈ cur.toList.take (n * 9), u.oneCell' = true) (h1v : ∀ u ∈ ys, u.oneCell' = true) (hvb : vb ≠ q) :
    Calls Try.prog 104 #[.slice (some ⟨q, 0, none⟩) n c, .int .i64 i, .slice (some ⟨vb, voff, none⟩) m vc] w fun e w' =>
      e = .returned (.slice (some ⟨q, 0, none⟩) (n + m) c) ∧ ∃ cur2, w' = w.drew.setRow q cur2 ∧ cur2.toList = cur.toList.take (i * 9) ++ ys ++ (cur.toList.take (n * 9)).drop (i * 9) ++ cur.toList.drop ((n + m) * 9) := by
  have mixed : Try.prog.follows .mixedOrders = true := by kernel_rfl
  have uS := Try.underlying44; have uI := Try.underlying3; have uB := Try.underlying4; have zE := Try.sizeOf95
  have vS := run_underlying uS; have vI := run_underlying uI; have vB := run_underlying uB
  have hsz : (Try.prog.info? 95).map (·.size) = some 9 := by kernel_rfl
  have hz1 : ¬ ((m : Int) = 0) := by omega
  have hz2 : ¬ ((i : Int) = (n : Int)) := by omega
  have hw1 : IntKind.i64.wrap ((i : Int) + (m : Int)) = (i : Int) + (m : Int) := by rw [IntKind.wrap_i64]; omega
  have hb1 : (0 : Int) ≤ (i : Int) + (m : Int) := by omega
  have hin : i ≤ n := by omega
  have htn : ((i : Int) + (m : Int)).toNat = i + m := by omega
  have hb2 : ¬ (c = i + m) := by omega
  have hb3 : (i : Int) ≤ (n : Int) + (m : Int) := by omega
  have hb4 : ¬ (c = i) := by omega
  have hy0 : 0 < ys.length := by omega
  have hov : ∀ lb cb, (callFunc 134 #[.slice (some ⟨vb, voff, none⟩) m vc, .slice (some ⟨q, (i + m) * 9, none⟩) lb cb]).run Try.prog w = .ok (.value (.bool false)) w := fun lb cb => by
    rw [run_callFunc_extern Try.func134 (by kernel_rfl) (by kernel_rfl) (by kernel_rfl) (e := Extern.SlicesOverlaps.overlaps #[44, 44] #[4]) (by kernel_rfl),
      run_overlaps_plain w 44 4 95 uS 9 zE ⟨vb, voff, none⟩ ⟨q, (i + m) * 9, none⟩ m vc lb cb hvb (hys 0 _ (List.getElem?_eq_getElem hy0)) hq]
    rfl
  obtain ⟨cs, hcse⟩ : ∃ cs, cs = (cur.toList.take (n * 9)).drop (i * 9) := ⟨_, rfl⟩
  have hcl : cs.length = (n - i) * 9 := by rw [hcse, List.length_drop, List.length_take, Array.length_toList]; omega
  have hcc : ∀ (j : Nat) u, cs[j]? = some u → w.cell? ⟨q, i * 9 + j, none⟩ = some u := fun j u hu => by
    rw [hcse, List.getElem?_drop, List.getElem?_take] at hu
    split at hu
    · simpa [World.cell?, hq] using hu
    · cases hu
  have hmin1 : Nat.min (n + m - i) (n + m - (i + m)) = n - i := by simp only [Nat.min_def]; split <;> omega
  have hmin2 : Nat.min m (n + m - i) = m := by simp only [Nat.min_def]; split <;> omega
  have hctl : cur.toList.length = cur.size := Array.length_toList
  have hqd : w.drew.heap[q]? = some (.cells cur e1 (0, 0)) := hq
  have hcp1 : ∀ ty dc sc, (Builtin.copy_ #[44, 44] ty #[.slice (some ⟨q, (i + m) * 9, none⟩) (n + m - (i + m)) dc, .slice (some ⟨q, i * 9, none⟩) (n + m - i) sc]).run Try.prog w.drew = .ok (goInt ((n - i : Nat) : Int)) (w.drew.setRow q (cur.toList.take ((i + m) * 9) ++ cs ++ cur.toList.drop ((i + m) * 9 + cs.length)).toArray) := fun ty dc sc => by
    have := run_copy_rows (P := Try.prog) w.drew 44 44 ty 95 9 q ((i + m) * 9) (n + m - (i + m)) dc ⟨q, i * 9, none⟩ (n + m - i) sc cur e1 cs uS hsz hqd (by rw [hmin1, hcl]) (fun j u hu => by rw [addr_add]; exact hcc j u hu) (by rw [hcl]; omega) (fun u hu => h1c u (by rw [hcse] at hu; exact List.mem_of_mem_drop hu))
    rwa [hmin1] at this
  have hl2 : (i + m) * 9 + cs.length ≤ cur.toList.length := by rw [hctl, hcl]; omega
  generalize hc1 : (cur.toList.take ((i + m) * 9) ++ cs ++ cur.toList.drop ((i + m) * 9 + cs.length)) = c1 at hcp1
  have hc1l : c1.length = cur.size := by rw [← hc1, List.length_append, List.length_append, List.length_take, List.length_drop]; omega
  have hcp2 : ∀ ty dc, (Builtin.copy_ #[44, 44] ty #[.slice (some ⟨q, i * 9, none⟩) (n + m - i) dc, .slice (some ⟨vb, voff, none⟩) m vc]).run Try.prog (w.drew.setRow q c1.toArray) = .ok (goInt m) (w.drew.setRow q (c1.take (i * 9) ++ ys ++ c1.drop (i * 9 + ys.length)).toArray) := fun ty dc => by
    have hh : (w.drew.setRow q c1.toArray).heap[q]? = some (.cells c1.toArray e1 (0, 0)) := setRow_heap w.drew q cur _ e1 _ hqd
    have := run_copy_rows (P := Try.prog) (w.drew.setRow q c1.toArray) 44 44 ty 95 9 q (i * 9) (n + m - i) dc ⟨vb, voff, none⟩ m vc c1.toArray e1 ys uS hsz hh (by rw [hmin2, hyl]) (fun j u hu => by
      rw [addr_add]
      have h1 := hys j u hu
      unfold World.cell? at h1 ⊢
      rw [setRow_other w.drew q vb _ hvb]
      exact h1) (by rw [hyl]; simp only [List.size_toArray, hc1l]; omega) h1v
    rw [hmin2, setRow_setRow] at this
    exact this
  go_enter Try.func104, Try.ntmps104
  go_wp2_with (simp only [hov])
  go_region_law_o (refine copy_step rfl _ _ 44 44 rfl _ _ (by simp [Act.eval, Act.put]) (by simp [Act.eval, Act.put]) (hcp1 _ _ _) ?_)
  go_wp2_with (at_builtin; refine copy_list _ rfl _ _ 44 44 rfl _ _ rfl rfl (hcp2 _ _) ?_)
  go_ret
  refine ⟨rfl, _, rfl, ?_⟩
  show c1.take (i * 9) ++ (ys ++ c1.drop (i * 9 + m * 9)) = _
  rw [← List.append_assoc, ← hyl, ← hc1, shift_cells cur.toList cs ys (i * 9) ((i + m) * 9) (by omega) hl2, hcse.symm, show (i + m) * 9 + cs.length = (n + m) * 9 by omega]
/-- there is none -/
theorem insGrow104 (w : World) (q n c i m vb voff vc : Nat) (cur : Array Value) (e1 : TypeId) (ys : List Value) (hq : w.heap[q]? = some (.cells cur e1 (0, 0))) (hi : i < n) (hm : 0 < m) (hnc : n ≤ c) (hroom : c < n + m) (hbig : n + m ≤ 1000000) (hcs : cur.size = c * 9)
    (hyl : ys.length = m * 9) (hys : ∀ (j : Nat) u, ys[j]? = some u → w.cell? ⟨vb, voff + j, none⟩ = some u) (h1c : ∀ u ∈ cur.toList.take (n * 9), u.oneCell' = true) (h1v : ∀ u ∈ ys, u.oneCell' = true) :
    Calls Try.prog 104 #[.slice (some ⟨q, 0, none⟩) n c, .int .i64 i, .slice (some ⟨vb, voff, none⟩) m vc] w fun e w' =>
      ∃ G, e = .returned (.slice (some ⟨w.heap.size, 0, none⟩) (n + m) G) ∧ n + m ≤ G ∧ G ≤ maxLen ∧ ∃ R : Array Value, w'.heap[w.heap.size]? = some (.cells R 95 (0, 0)) ∧ Grown w w' none ∧ R.size = G * 9 ∧ R.toList.take ((n + m) * 9) = cur.toList.take (i * 9) ++ ys ++ (cur.toList.take (n * 9)).drop (i * 9) := by
  have mixed : Try.prog.follows .mixedOrders = true := by kernel_rfl
  have uS := Try.underlying44; have uI := Try.underlying3; have uB := Try.underlying4; have zE := Try.sizeOf95
  have vS := run_underlying uS; have vI := run_underlying uI; have vB := run_underlying uB
  obtain ⟨i0, z0, hi0, hz0, hzs, hzb, hzz⟩ : ∃ i0 z0, Try.prog.info? 95 = some i0 ∧ i0.zero = some z0 ∧ i0.size = 9 ∧ i0.bytes ≤ 1000 ∧ z0.cells.size = 9 := ⟨_, _, rfl, rfl, rfl, by decide, rfl⟩
  have hsz : (Try.prog.info? 95).map (·.size) = some 9 := by rw [hi0]; simp [hzs]
  have hz1 : ¬ ((m : Int) = 0) := by omega
  have hz2 : ¬ ((i : Int) = (n : Int)) := by omega
  have hz3 : (c : Int) < (n : Int) + (m : Int) := by omega
  have hw1 : IntKind.i64.wrap ((i : Int) + (m : Int)) = (i : Int) + (m : Int) := by rw [IntKind.wrap_i64]; omega
  have hb1 : (0 : Int) ≤ (i : Int) + (m : Int) := by omega
  have hin : i ≤ n := by omega
  have htn : ((i : Int) + (m : Int)).toNat = i + m := by omega
  have hb3 : (i : Int) ≤ (n : Int) := by omega
  have hy0 : 0 < ys.length := by omega
  have hci : ¬ (c = i) := by omega
  have hctl : cur.toList.length = cur.size := Array.length_toList
  have hqlt : q < w.heap.size := (Array.getElem?_eq_some_iff.1 hq).1
  have hvlt : vb < w.heap.size := World.block_lt_of_cell? w _ (hys 0 _ (List.getElem?_eq_getElem hy0))
  obtain ⟨cs, hcse⟩ : ∃ cs, cs = (cur.toList.take (n * 9)).drop (i * 9) := ⟨_, rfl⟩
  have hcl : cs.length = (n - i) * 9 := by rw [hcse, List.length_drop, List.length_take, hctl]; omega
  have hcc : ∀ (j : Nat) u, cs[j]? = some u → w.cell? ⟨q, i * 9 + j, none⟩ = some u := fun j u hu => by
    rw [hcse, List.getElem?_drop, List.getElem?_take] at hu
    split at hu
    · simpa [World.cell?, hq] using hu
    · cases hu
  have hkk : (n : Int) + (m : Int) - (i : Int) = ((n + m - i : Nat) : Int) := by omega
  have hik : i + (n + m - i) = n + m := by omega
  have hold : (Builtin.firstCells i0.size i (.slice (some ⟨q, 0, none⟩) i c)).run Try.prog w.drew = .ok (cur.toList.take (i * 9)).toArray w.drew := by
    rw [hzs]
    refine run_firstCells_some w.drew 9 i ⟨q, 0, none⟩ i c (cur.toList.take (i * 9)) (by rw [List.length_take, hctl]; omega) (fun j u hu => ?_)
    rw [addr_add, Nat.zero_add]
    rw [List.getElem?_take] at hu
    split at hu
    · have hqd : w.drew.heap[q]? = some (.cells cur e1 (0, 0)) := hq
      simpa [World.cell?, hqd] using hu
    · cases hu
  obtain ⟨G, hG⟩ : ∃ G, G = grownCap w (n + m) c 95 := ⟨_, rfl⟩
  have hGn : n + m ≤ G := by rw [hG]; exact grownCap_ge w _ _ _
  have hGm : G ≤ maxLen := by rw [hG]; exact grownCap_le_maxLen w (n + m) c 95 (by unfold maxLen; omega)
  have hG63 : G ≤ 9223372036854775807 := by unfold maxLen at hGm; omega
  obtain ⟨R, hR⟩ : ∃ R : Array Value, R = (cur.toList.take (i * 9)).toArray ++ Builtin.zeroCells z0.cells (n + m - i) ++ Builtin.zeroCells z0.cells (G - (n + m)) := ⟨_, rfl⟩
  have hRs : R.size = G * 9 := by
    rw [hR]
    simp only [Array.size_append, List.size_toArray, size_zeroCells, hzz, List.length_take, hctl]
    omega
  have hRt : R.toList.take (i * 9) = cur.toList.take (i * 9) := by
    rw [hR, Array.toList_append, Array.toList_append, List.append_assoc, List.take_append_of_le_length (by rw [List.length_take, hctl]; omega), List.take_of_length_le (by rw [List.length_take, hctl]; omega)]
  have hrz : ∀ ty, (Builtin.append_ #[44, 3] ty #[.slice (some ⟨q, 0, none⟩) i c, .int .i64 ((n : Int) + (m : Int) - (i : Int))]).run Try.prog w = .ok (.slice (some ⟨w.heap.size, 0, none⟩) (n + m) G) (w.drew.alloc (.cells R 95)) := fun ty => by
    have h := Lib.run_append_grow_zeros w 44 3 ty 95 i0 z0 .i64 .i64 uS uI hi0 hz0 (some ⟨q, 0, none⟩) i c (cur.toList.take (i * 9)) hold (n + m - i) (by omega) (by omega) (by omega) (by omega)
      (Nat.le_trans (Nat.mul_le_mul_left (n + m - i) hzb) (by omega)) (by rw [hik]; exact growslice_fits hroom (Nat.le_trans (Nat.mul_le_mul_left (n + m) hzb) (by omega)))
    rw [hik, ← hG, ← hR] at h
    rw [hkk]
    exact h
  have hmin1 : Nat.min (n - i) (n + m - (i + m)) = n - i := by simp only [Nat.min_def]; split <;> omega
  have hmin2 : Nat.min m (n + m - i) = m := by simp only [Nat.min_def]; split <;> omega
  obtain ⟨W1, hW1⟩ : ∃ W1, W1 = w.drew.alloc (.cells R 95) := ⟨_, rfl⟩
  have hh1 : W1.heap[w.heap.size]? = some (.cells R 95 (0, 0)) := by rw [hW1]; exact heap_alloc_new w.drew _
  have hold1 : ∀ k, k < w.heap.size → W1.heap[k]? = w.heap[k]? := fun k hk => by rw [hW1]; exact Go.RowKit.Below.heap_alloc w.drew _ k hk
  have hsz1 : W1.heap.size = w.heap.size + 1 := by rw [hW1]; exact Array.size_push _
  obtain ⟨R1, hR1⟩ : ∃ R1, R1 = R.toList.take (i * 9) ++ ys ++ R.toList.drop (i * 9 + ys.length) := ⟨_, rfl⟩
  have hRl : R.toList.length = G * 9 := by rw [Array.length_toList]; exact hRs
  have hR1l : R1.length = G * 9 := by rw [hR1, List.length_append, List.length_append, List.length_take, List.length_drop]; omega
  have hcpA : ∀ (W : World), W.heap = W1.heap → ∀ ty dc, (Builtin.copy_ #[44, 44] ty #[.slice (some ⟨w.heap.size, i * 9, none⟩) (n + m - i) dc, .slice (some ⟨vb, voff, none⟩) m vc]).run Try.prog W = .ok (goInt m) (W.setRow w.heap.size R1.toArray) := fun W hWh ty dc => by
    have := run_copy_rows (P := Try.prog) W 44 44 ty 95 9 w.heap.size (i * 9) (n + m - i) dc ⟨vb, voff, none⟩ m vc R 95 ys uS hsz (by rw [hWh]; exact hh1) (by rw [hmin2, hyl]) (fun j u hu => by
      rw [addr_add]
      have h1 := hys j u hu
      unfold World.cell? at h1 ⊢
      rw [hWh, hold1 vb hvlt]
      exact h1) (by omega) h1v
    rw [hmin2, ← hR1] at this
    exact this
  obtain ⟨R2, hR2⟩ : ∃ R2, R2 = R1.take ((i + m) * 9) ++ cs ++ R1.drop ((i + m) * 9 + cs.length) := ⟨_, rfl⟩
  have hcpB : ∀ (W : World), W.heap = (W1.setRow w.heap.size R1.toArray).heap → ∀ ty dc sc, (Builtin.copy_ #[44, 44] ty #[.slice (some ⟨w.heap.size, (i + m) * 9, none⟩) (n + m - (i + m)) dc, .slice (some ⟨q, i * 9, none⟩) (n - i) sc]).run Try.prog W = .ok (goInt ((n - i : Nat) : Int)) (W.setRow w.heap.size R2.toArray) := fun W hWh ty dc sc => by
    have := run_copy_rows (P := Try.prog) W 44 44 ty 95 9 w.heap.size ((i + m) * 9) (n + m - (i + m)) dc ⟨q, i * 9, none⟩ (n - i) sc R1.toArray 95 cs uS hsz (by rw [hWh]; exact setRow_heap W1 _ R _ 95 _ hh1) (by rw [hmin1, hcl]) (fun j u hu => by
      rw [addr_add]
      have h1 := hcc j u hu
      unfold World.cell? at h1 ⊢
      rw [hWh, setRow_other W1 _ q _ (by show q ≠ _; omega), hold1 q hqlt]
      exact h1) (by simp only [List.size_toArray, hR1l]; omega) (fun u hu => h1c u (by rw [hcse] at hu; exact List.mem_of_mem_drop hu))
    rw [hmin1] at this
    rw [hR2]
    exact this
  have hR2l : R2.length = G * 9 := by rw [hR2, List.length_append, List.length_append, List.length_take, List.length_drop]; omega
  have hR2t : R2.take ((n + m) * 9) = cur.toList.take (i * 9) ++ ys ++ cs := by
    have e := shift_cells2 R.toList cs ys (i * 9) ((i + m) * 9) (by omega) (by omega)
    rw [show i * 9 + ys.length = (i + m) * 9 by omega] at hR1
    rw [← hR1, ← hR2, hRt] at e
    rw [e, List.take_append_of_le_length, List.take_of_length_le]
    · simp only [List.length_append, List.length_take]; omega
    · simp only [List.length_append, List.length_take]; omega
  have hGi : ¬ (G = i) := by omega
  have hGim : ¬ (G = i + m) := by omega
  have hE1 : ((w.alloc (.cells R 95)).drew).heap = W1.heap := by rw [hW1]; rfl
  have hE2 : (((w.alloc (.cells R 95)).drew.setRow w.heap.size R1.toArray).drew).heap = (W1.setRow w.heap.size R1.toArray).heap := by rw [hW1]; rfl
  rw [hcse] at hR2t
  have fin : ∀ W : World, W.heap = ((W1.setRow w.heap.size R1.toArray).setRow w.heap.size R2.toArray).heap → W.heap[w.heap.size]? = some (.cells R2.toArray 95 (0, 0)) ∧ w.heap.size ≤ W.heap.size ∧ ∀ k, k < w.heap.size → W.heap[k]? = w.heap[k]? := fun W hW => by
    rw [hW]
    refine ⟨setRow_heap _ _ R1.toArray _ 95 _ (setRow_heap W1 _ R _ 95 _ hh1), ?_, fun k hk => ?_⟩
    · simp [World.setRow, hsz1]
    · rw [setRow_other _ _ k _ (by omega), setRow_other _ _ k _ (by omega), hold1 k hk]
  rw [hW1] at fin
  clear hkk hik hold hR hG hRl hR1 hR2 hRt hcse hR1l hRs
  go_enter Try.func104, Try.ntmps104
  go_wp2_with (first
    | (at_builtin; refine Lib.wpList_append_run _ rfl _ _ _ _ rfl _ _ rfl rfl _ _ (hrz _) ?_)
    | (at_builtin; refine copy_list _ rfl _ _ 44 44 rfl _ _ rfl rfl (hcpA _ hE1 _ _) ?_)
    | (at_builtin; refine copy_list _ rfl _ _ 44 44 rfl _ _ rfl rfl (hcpB _ hE2 _ _ _) ?_))
  go_region_law_o (refine copy_step rfl _ _ 44 44 rfl (.slice (some ⟨w.heap.size, (i + m) * 9, none⟩) (n + m - (i + m)) (G - (i + m))) (.slice (some ⟨q, i * 9, none⟩) (n - i) (c - i)) (by simp [Act.eval, Act.put]) (by simp [Act.eval, Act.put]) (hcpB _ hE2 3 (G - (i + m)) (c - i)) ?_)
  go_wp2
  go_ret
  obtain ⟨f1, f2, f3⟩ := fin _ rfl
  exact ⟨G, rfl, hGn, hGm, R2.toArray, f1, ⟨rfl, rfl, rfl, f2, fun k hk _ => f3 k hk, (show w.drawn ≤ w.drawn + 1 + 1 by omega)⟩, hR2l, hR2t⟩
/-- at the end -/
theorem insEnd104 (w : World) (base : Nat) (e1 : TypeId) (v : Value) (n : Nat) (xs : List Value) (m vb voff vc : Nat) (ys : List Value) (hown : OwnR w base e1 9 v n xs) (hbase : base ≤ w.heap.size) (hm : 0 < m) (hbig : n + m ≤ 1000000)
    (hyl : ys.length = m * 9) (hys : ∀ (j : Nat) u, ys[j]? = some u → w.cell? ⟨vb, voff + j, none⟩ = some u) (h1v : ∀ u ∈ ys, u.oneCell' = true) :
    Calls Try.prog 104 #[v, .int .i64 n, .slice (some ⟨vb, voff, none⟩) m vc] w fun e w' => ∃ v' e2, e = .returned v' ∧ OwnR w' base e2 9 v' (n + m) (xs ++ ys) ∧ Grown w w' (rowBlk v) ∧ ∀ b, rowBlk v' = some b → rowBlk v = some b ∨ w.heap.size ≤ b := by
  have mixed : Try.prog.follows .mixedOrders = true := by kernel_rfl
  have uS := Try.underlying44; have uI := Try.underlying3; have uB := Try.underlying4; have zE := Try.sizeOf95
  have vS := run_underlying uS; have vI := run_underlying uI; have vB := run_underlying uB
  obtain ⟨i0, z0, hi0, hz0, hzs, hzb, hzz⟩ : ∃ i0 z0, Try.prog.info? 95 = some i0 ∧ i0.zero = some z0 ∧ i0.size = 9 ∧ i0.bytes ≤ 1000 ∧ z0.cells.size = 9 := ⟨_, _, rfl, rfl, rfl, by decide, rfl⟩
  have hz1 : ¬ ((m : Int) = 0) := by omega
  obtain ⟨v', w', e2, hrun, p1, p2, p3⟩ := append_ok (P := Try.prog) (w := w) base 44 44 95 e1 i0 z0 9 uS hi0 hz0 hzs hzz (by decide) v n xs hown (some ⟨vb, voff, none⟩) m vc ys hyl (.inr ⟨_, rfl, fun j u hu => by rw [addr_add]; exact hys j u hu⟩) h1v
    (Nat.le_trans (Nat.mul_le_mul_left (n + m) hzb) (by omega)) (by omega) hbase
  have key : Calls Try.prog 104 #[v, .int .i64 n, .slice (some ⟨vb, voff, none⟩) m vc] w fun e w2 => e = .returned v' ∧ w2 = w' := by
    clear p1 p2 p3 hzs hzz hzb hz0 hi0
    rcases hown.2 with ⟨rfl, a0, rfl⟩ | ⟨q, cap, cur, rfl, hb, hg, hle, rest⟩
    · clear hown
      go_enter Try.func104, Try.ntmps104
      cases a0 with
      | none =>
        go_wp2_with (at_builtin; refine Lib.wpList_append_run _ rfl _ _ _ _ rfl _ _ rfl rfl _ _ hrun ?_)
        go_ret
        exact ⟨rfl, rfl⟩
      | some a =>
        obtain ⟨ab, ao, asp⟩ := a
        go_wp2_with (at_builtin; refine Lib.wpList_append_run _ rfl _ _ _ _ rfl _ _ rfl rfl _ _ hrun ?_)
        all_goals (go_ret; exact ⟨rfl, rfl⟩)
    · have hc63 : cap + 1 ≤ 9223372036854775807 := by have := rest.1; unfold maxLen at this; omega
      clear hown rest
      go_enter Try.func104, Try.ntmps104
      go_wp2_with (at_builtin; refine Lib.wpList_append_run _ rfl _ _ _ _ rfl _ _ rfl rfl _ _ hrun ?_)
      all_goals (go_ret; exact ⟨rfl, rfl⟩)
  refine key.mono ?_
  rintro _ _ ⟨rfl, rfl⟩
  exact ⟨v', e2, rfl, p1, p2, fun b hb => (p3 b hb).imp id (fun e => by omega)⟩
theorem insOk104 : InsOk Try.prog 104 S89 where
  lt := by decide
  tup := by kernel_rfl
  flat := rfl
  pos := by decide
  ent := enters_of Try.func104 (by kernel_rfl) rfl
  run := fun w base e1 v n xs i m vb voff vc ys hown hbase hi hm hmc hmax hyl hys h1x h1v hne => by
    by_cases hin : i = n
    · subst hin
      have hx : xs.length = i * 9 := hown.1
      have e : xs.take (i * S89.size) ++ ys ++ xs.drop (i * S89.size) = xs ++ ys := by
        show xs.take (i * 9) ++ ys ++ xs.drop (i * 9) = _
        rw [List.take_of_length_le (by omega), List.drop_of_length_le (by omega), List.append_nil]
      rw [e]
      exact insEnd104 w base e1 v i xs m vb voff vc ys hown hbase hm hmax hyl hys h1v
    · rcases hown.2 with ⟨rfl, _⟩ | ⟨q, cap, cur, rfl, hb, hg, hle, hcm, hcs, hct⟩
      · omega
      have hcs : cur.size = (cap + 1) * 9 := hcs
      have hct : cur.toList.take (n * 9) = xs := hct
      have hyl' : ys.length = m * 9 := hyl
      have hti : cur.toList.take (i * 9) = xs.take (i * 9) := by rw [← hct, List.take_take, Nat.min_eq_left (by omega)]
      have hlen : (xs.take (i * 9) ++ ys ++ xs.drop (i * 9)).length = (n + m) * 9 := by
        have hx : xs.length = n * 9 := hown.1
        rw [List.length_append, List.length_append, List.length_take, List.length_drop]; omega
      by_cases hroom : n + m ≤ cap + 1
      · refine (insRoom104 w q n (cap + 1) i m vb voff vc cur e1 ys hg (by omega) hm hroom (by unfold maxLen at hcm; omega) hcs hyl hys (by rw [hct]; exact h1x) h1v (fun e => hne (by rw [e]; rfl))).mono ?_
        rintro _ _ ⟨rfl, cur2, rfl, hc2⟩
        rw [hti, hct] at hc2
        have hl2 : cur2.toList.length = cur2.size := Array.length_toList
        have hl1 : cur.toList.length = cur.size := Array.length_toList
        have hs2 : cur2.size = cur.size := by
          rw [← hl2, hc2, List.length_append, hlen, List.length_drop]; omega
        refine ⟨_, e1, rfl, ⟨hlen, .inr ⟨q, cap, cur2, rfl, hb, setRow_heap w.drew q cur _ e1 _ hg, hroom, hcm, by rw [hs2]; exact hcs, ?_⟩⟩, ⟨rfl, rfl, rfl, by simp [World.setRow], fun k hk hne => setRow_other w.drew q k _ (fun e => hne (by rw [e]; rfl)), Nat.le_succ _⟩, fun b hb => .inl hb⟩
        show cur2.toList.take ((n + m) * 9) = xs.take (i * 9) ++ ys ++ xs.drop (i * 9)
        rw [hc2, ← hlen]
        exact List.take_left
      · refine (insGrow104 w q n (cap + 1) i m vb voff vc cur e1 ys hg (by omega) hm hle (by omega) hmax hcs hyl hys (by rw [hct]; exact h1x) h1v).mono ?_
        rintro _ w' ⟨G, rfl, hG1, hG2, R, hR, hgr, hRs, hRt⟩
        obtain ⟨G, rfl⟩ : ∃ G', G = G' + 1 := ⟨G - 1, by omega⟩
        rw [hti, hct] at hRt
        refine ⟨_, 95, rfl, ⟨hlen, .inr ⟨w.heap.size, G, R, rfl, hbase, hR, hG1, hG2, hRs, hRt⟩⟩, ⟨hgr.os, hgr.tape, hgr.output, hgr.size, fun k hk _ => hgr.block k hk (by simp), hgr.drawn⟩, fun b hb => .inr (by simp [rowBlk] at hb; omega)⟩
set_option maxHeartbeats 4000000
set_option maxRecDepth 100000
/-- where a byte stands first -/
theorem idx172 (s : ByteArray) (c : Int) (w : World) : Calls Try.prog 172 #[.string s, .int .u8 c] w fun e w' => e = .returned (.int .i64 (idxB s c)) ∧ Go.Den.Below w.heap.size w w' := by
  unfold idxB
  go_enter Try.func172, Try.ntmps172
  go_wp2
  rw [run_callFunc_extern Try.func176 (by kernel_rfl) (by kernel_rfl) (by kernel_rfl) (e := Extern.BytealgIndexByte.indexByte) (by kernel_rfl), Lib.run_indexByteString]
  simp only [Result.andThen]
  rw [Oper.upon_value]
  go_wp2
  go_ret
  exact ⟨rfl, Go.Den.Below.refl _ _⟩
theorem plugs : E.plugs.Ok E.prog E.frs := ⟨insX insOk104 (by kernel_rfl), ⟨idxX (by decide) (enters_of Try.func172 (by kernel_rfl) rfl) (by kernel_rfl) idx172, trivial⟩⟩
end Go.Proofs.Ytacfnpnaeiagnab.PY
