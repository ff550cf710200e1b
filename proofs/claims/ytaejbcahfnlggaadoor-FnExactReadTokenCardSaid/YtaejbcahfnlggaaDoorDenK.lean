import Derived.Test.YtaejbcahfnlggaaDoorDenJ
namespace Go.Den
open Go.RowKit (wrap64)
set_option linter.unusedVariables false
set_option linter.unusedSimpArgs false
/-! Append and literals, as the machine runs them. -/
section
variable {P : Program} {g : Gh} {w0 : Ent} {w : World}
theorem run_append_room2 (t ty e e' : TypeId) (i : TypeInfo) (ht : P.underlying t = some (.slice e)) (hi : P.info? e = some i)
    (q n cap : Nat) (cur : Array Value) (hg : w.heap[q]? = some (.cells cur e' (0, 0)))
    (a : Addr) (m c : Nat) (news : List Value) (hl : news.length = m * i.size) (hnews : ∀ (j : Nat) u, news[j]? = some u → w.cell? (a.add j) = some u) (h1 : ∀ u ∈ news, u.oneCell' = true)
    (hroom : n + m ≤ cap) (hfit : n * i.size + news.length ≤ cur.size) :
    (Builtin.append_ #[t, t] ty #[.slice (some ⟨q, 0, none⟩) n cap, .slice (some a) m c]).run P w =
      .ok (.slice (some ⟨q, 0, none⟩) (n + m) cap) (w.setRow q (cur.toList.take (n * i.size) ++ news ++ cur.toList.drop (n * i.size + news.length)).toArray) := by
  have hf := run_firstCells_some (P := P) w i.size m a m c news hl hnews
  have hst := run_storeCells_at P q (n * i.size) e' news 0 cur w hg (by simpa using hfit) h1
  simp only [Nat.add_zero] at hst
  simp [Builtin.append_, run_underlying ht, sizeOf, typeInfo, hi, Builtin.lenOf, hroom, hf, Addr.add_lit, hst]
/-- nothing appended: the same slice -/
theorem run_append_none (t ty e : TypeId) (ht : P.underlying t = some (.slice e)) (hi : ∃ i, P.info? e = some i) (b ay : Option Addr) (n cap cy : Nat) (hle : n ≤ cap) :
    (Builtin.append_ #[t, t] ty #[.slice b n cap, .slice ay 0 cy]).run P w = .ok (.slice b n cap) w := by
  obtain ⟨i, hi⟩ := hi
  have hf : ∀ s, (Builtin.firstCells s 0 (.slice ay 0 cy)).run P w = .ok #[] w := fun s => by
    cases ay <;> simp [Builtin.firstCells, loadCells, loadCellsFrom]
  cases b <;> simp [Builtin.append_, run_underlying ht, sizeOf, typeInfo, hi, Builtin.lenOf, hle, hf, storeCells]
theorem append_ok (base : Nat) (t ty e e' : TypeId) (i : TypeInfo) (z : Value) (size : Nat) (ht : P.underlying t = some (.slice e)) (hi : P.info? e = some i) (hz : i.zero = some z)
    (hsize : i.size = size) (hzs : z.cells.size = size) (hsz : 0 < size) (v : Value) (n : Nat) (xs : List Value) (hown : OwnR w base e' size v n xs)
    (a : Option Addr) (m c : Nat) (news : List Value) (hl : news.length = m * size) (hnews : m = 0 ∨ ∃ ad, a = some ad ∧ ∀ (j : Nat) u, news[j]? = some u → w.cell? (ad.add j) = some u) (h1 : ∀ u ∈ news, u.oneCell' = true)
    (hby : (n + m) * i.bytes ≤ 35184372088832) (hnm : n + m ≤ 35184372088832) (hbase : base ≤ w.heap.size) :
    ∃ v' w' e'', (Builtin.append_ #[t, t] ty #[v, .slice a m c]).run P w = .ok v' w' ∧ OwnR w' base e'' size v' (n + m) (xs ++ news) ∧ Grown w w' (rowBlk v) ∧
      ∀ b, rowBlk v' = some b → rowBlk v = some b ∨ b = w.heap.size := by
  subst hsize
  have hmax : n + m ≤ maxLen := by unfold maxLen; omega
  have hlen : (xs ++ news).length = (n + m) * i.size := by rw [List.length_append, hown.1, hl, Nat.add_mul]
  by_cases hm : m = 0
  · subst hm
    have hn : news = [] := List.eq_nil_of_length_eq_zero (by simpa using hl)
    subst hn
    have hself : Grown w w (rowBlk v) := ⟨rfl, rfl, rfl, Nat.le_refl _, fun _ _ _ => rfl, Nat.le_refl _⟩
    rcases hown.2 with ⟨rfl, a0, rfl⟩ | ⟨q, cap, cur, rfl, hb, hg, hle, rest⟩
    · exact ⟨_, w, e', run_append_none t ty e ht ⟨i, hi⟩ a0 a 0 0 c (Nat.le_refl _), by simpa using hown, hself, fun b hb => .inl hb⟩
    · exact ⟨_, w, e', run_append_none t ty e ht ⟨i, hi⟩ _ a n (cap + 1) c hle, by simpa using hown, hself, fun b hb => .inl hb⟩
  · obtain ⟨ad, rfl, hnw⟩ := hnews.resolve_left hm
    have grown : ∀ (old : Nat) (row : Option Nat),
        (w.drew.alloc (.cells (xs.toArray ++ news.toArray ++ Builtin.zeroCells z.cells (grownCap w (n + m) old e - (n + m))) e)).ownsRow base e i.size
          (.slice (some ⟨w.heap.size, 0, none⟩) (n + m) (grownCap w (n + m) old e)) (n + m) (xs ++ news) ∧
        Grown w (w.drew.alloc (.cells (xs.toArray ++ news.toArray ++ Builtin.zeroCells z.cells (grownCap w (n + m) old e - (n + m))) e)) row := by
      intro old row
      have hge := grownCap_ge w (n + m) old e
      have hcm : grownCap w (n + m) old e ≤ maxLen := grownCap_le_maxLen w (n + m) old e hmax
      refine ⟨⟨hlen, .inr ⟨w.heap.size, _, _, rfl, hbase, heap_alloc_new w.drew _, hge, hcm, ?_, ?_⟩⟩, ⟨rfl, rfl, rfl, by simp, fun k hk _ => Go.RowKit.Below.heap_alloc w.drew _ k hk, Nat.le_succ _⟩⟩
      · simp only [Array.size_append, List.size_toArray, size_zeroCells, hzs, hown.1, hl, ← Nat.add_mul]
        congr 1
        omega
      · simp only [Array.toList_append, List.append_assoc]
        rw [← List.append_assoc, ← hlen]
        exact List.take_left
    have new : ∀ (k : Nat) b, rowBlk (Value.slice (some ⟨w.heap.size, 0, none⟩) (n + m) k) = some b → b = w.heap.size := fun k b hb => by
      cases k with
      | zero => simp [rowBlk] at hb
      | succ k => simpa [rowBlk] using hb.symm
    rcases hown.2 with ⟨rfl, a0, rfl⟩ | ⟨q, cap, cur, rfl, hb, hg, hle, hcap, hcs, htk⟩
    · have hx : xs = [] := List.eq_nil_of_length_eq_zero (by simpa using hown.1)
      subst hx
      have hgr := grown 0 none
      have hnone : rowBlk (.slice a0 0 0) = none := by cases a0 <;> rfl
      rw [hnone]
      cases a0 with
      | none =>
        have hr := run_append_nil (P := P) w t ty e i z ht hi hz ad m c news hl hnw (by omega) (by omega) (by simp only [Nat.zero_add] at hby; omega)
        simp only [Nat.zero_add, List.nil_append, Array.empty_append] at hgr new ⊢
        exact ⟨_, _, e, hr, OwnR.of hgr.1, hgr.2, fun b hb => .inr (new _ b hb)⟩
      | some b0 =>
        have hr := run_append_grow (P := P) w t ty e i z ht hi hz b0 0 0 [] (by simp) (by simp) ad m c news hl hnw (by omega) (by omega) (growslice_fits (by omega) (by omega))
        simp only [Nat.zero_add, List.nil_append, Array.empty_append] at hgr new hr ⊢
        exact ⟨_, _, e, hr, OwnR.of hgr.1, hgr.2, fun b hb => .inr (new _ b hb)⟩
    · by_cases hroom : n + m ≤ cap + 1
      · have hfit : n * i.size + news.length ≤ cur.size := by rw [hl, hcs, ← Nat.add_mul]; exact Nat.mul_le_mul_right _ hroom
        have hr := run_append_room2 (P := P) t ty e e' i ht hi q n (cap + 1) cur hg ad m c news hl hnw h1 hroom hfit
        refine ⟨_, _, e', hr, ⟨hlen, .inr ⟨q, cap, _, rfl, hb, setRow_heap w q cur _ e' _ hg, hroom, hcap, ?_, ?_⟩⟩, ⟨rfl, rfl, rfl, by simp, fun k _ hk => setRow_other w q k _ (fun e => hk (by simp [rowBlk, e])), Nat.le_refl _⟩, fun b hb => .inl hb⟩
        · simp only [List.size_toArray, List.length_append, List.length_take, List.length_drop, Array.length_toList]
          omega
        · show List.take ((n + m) * i.size) (cur.toList.take (n * i.size) ++ news ++ cur.toList.drop (n * i.size + news.length)) = _
          rw [htk, ← hlen]
          exact List.take_left
      · have holds : ∀ (j : Nat) u, xs[j]? = some u → w.cell? ((⟨q, 0, none⟩ : Addr).add j) = some u := fun j u hu => by rw [addr_add, Nat.zero_add]; exact hown.cells (q := q) rfl j u hu
        have hr := run_append_grow (P := P) w t ty e i z ht hi hz ⟨q, 0, none⟩ n (cap + 1) xs hown.1 holds ad m c news hl hnw (by omega) (by omega) (growslice_fits (by omega) (by omega))
        have hgr := grown (cap + 1) (rowBlk (.slice (some ⟨q, 0, none⟩) n (cap + 1)))
        exact ⟨_, _, e, hr, OwnR.of hgr.1, hgr.2, fun b hb => .inr (new _ b hb)⟩

theorem rowOf_ok {σ : St} {a : Act} (hE : EnvR g σ a) (hf : ∀ b o v, g.fn b o = some v → g.fz b o = some v) {s : Sh} :
    ∀ (ps : List (Nat × Operand)) (n : Nat) (l : List (sem s)) (f : Bool) (cells : Array Value) (done rest : List Value), rowOf s n (ps.map fun p => (p.1, opnd σ p.2)) = some (l, f) →
      cells.toList = done ++ rest → done.length = n * s.size → l.length * s.size ≤ rest.length →
      ∃ cs' xs, Instr.fill (fun i => some (i * s.size, s.size)) cells (ps.map fun p => (p.1, a.eval p.2)) = some cs' ∧ cs'.toList = done ++ xs ++ rest.drop (l.length * s.size) ∧ RepL (RepC (g.sel f) s) l xs
  | [], n, l, f, cells, done, rest, h, hc, hd, hr => by
    simp [rowOf] at h
    obtain ⟨rfl, rfl⟩ := h
    exact ⟨cells, [], rfl, by simp [hc], rfl⟩
  | (i, x) :: ps, n, l, f, cells, done, rest, h, hc, hd, hr => by
    simp only [List.map_cons, rowOf] at h
    split at h
    · rename_i hi
      subst hi
      split at h
      · rename_i y f1 l1 g1 hy hl1
        cases h
        have hrep := data_rel hf hy (hE.opnd x)
        have hcc := hrep.cells
        have hlen := RepC.len _ _ _ hcc
        have hsz : (a.eval x).cells.size = s.size := by simpa using hlen
        have hrl : s.size ≤ rest.length := by
          rw [List.length_cons, Nat.add_mul, Nat.one_mul] at hr; omega
        obtain ⟨cs', xs, q1, q2, q3⟩ := rowOf_ok hE hf ps (i + 1) l1 g1 ((a.eval x).cells.zipIdx.foldl (fun (cs : Array Value) (p : Value × Nat) => cs.setIfInBounds (i * s.size + p.2) p.1) cells)
          (done ++ (a.eval x).cells.toList) (rest.drop s.size) hl1
          (by
            rw [← Array.foldl_toList, Array.toList_zipIdx, setVals_fold, hc, Nat.add_zero, ← hd, setVals_app _ _ _ (by rw [hlen]; exact hrl), hlen])
          (by rw [List.length_append, hlen, hd, Nat.add_mul, Nat.one_mul])
          (by rw [List.length_cons, Nat.add_mul, Nat.one_mul] at hr; rw [List.length_drop]; omega)
        refine ⟨cs', (a.eval x).cells.toList ++ xs, ?_, ?_, _, xs, rfl, hcc.mono (sel_le hf (by simp; intro a _; exact a)), q3.imp (fun x c h => RepC.mono (sel_le hf (by simp)) s x c h) _ _⟩
        · simp only [List.map_cons, Instr.fill]
          have hcl : cells.size = done.length + rest.length := by rw [← Array.length_toList, hc, List.length_append]
          rw [if_neg (by simp [hsz]; rw [hd] at hcl; omega)]
          exact q1
        · rw [q2, List.length_cons, Nat.add_mul, Nat.one_mul, List.drop_drop]
          simp [Nat.add_comm]
      · cases h
    · cases h
end
end Go.Den
