/- A block's words: what 'spread' answers. -/
import Derived.Test.YthlppmhkdincgaaR
import Derived.Lib.Strings
import Derived.WalkSmall
import Derived.Laws.CopyOwn
namespace Go.Proofs.Ythlppmhkdincgaa
open Go.RowKit Sha

theorem right_int (x : W) (m : Int) (h1 : 1 ≤ m) (h2 : m ≤ 31) (w : World) :
    Calls Try.prog 39 #[.int .u32 (x.toNat : Int), .int .i64 m] w fun e w' => e = .returned (.int .u32 ((rotr x m.toNat).toNat : Int)) ∧ w = w' := by
  obtain ⟨n, rfl⟩ := Int.eq_ofNat_of_zero_le (show 0 ≤ m by omega)
  exact right_any x n (by omega) (by omega) w

/-- A row of words in an array of 64, the rest 0. -/
def wcells (ws : List W) : Array Value := ((ws ++ List.replicate (64 - ws.length) 0).map fun x : W => Value.int .u32 (x.toNat : Int)).toArray

theorem wcells_size (ws : List W) (h : ws.length ≤ 64) : (wcells ws).size = 64 := by simp [wcells]; omega
theorem wcells_nil : wcells [] = zeros64 := by kernel_rfl
theorem wcells_get (ws : List W) (i : Nat) (h : i < ws.length) : (wcells ws)[i]? = some (.int .u32 ((ws.getD i 0).toNat : Int)) := by
  simp only [wcells, List.map_append, List.getElem?_toArray]
  rw [List.getElem?_append_left (by simpa using h), List.getElem?_map, List.getElem?_eq_getElem h]
  simp [List.getD, h]
theorem wcells_set (ws : List W) (x : W) (h : ws.length < 64) : (wcells ws).setIfInBounds ws.length (.int .u32 (x.toNat : Int)) = wcells (ws ++ [x]) := by
  apply Array.ext'
  simp only [wcells, Array.toList_setIfInBounds, List.length_append, List.length_singleton, List.append_assoc]
  obtain ⟨d, hd⟩ : ∃ d, 64 - ws.length = d + 1 := ⟨64 - ws.length - 1, by omega⟩
  rw [hd, show 64 - (ws.length + 1) = d by omega, List.replicate_succ]
  simp [List.set_append_right]

theorem sched_length (l : List UInt8) (k : Nat) : (sched l k).length = k := by
  induction k with
  | zero => rfl
  | succ k ih => simp [sched, ih]

theorem wcells_one (ws : List W) : (wcells ws).all (·.oneCell') = true := by
  rw [Array.all_eq_true_iff_forall_mem]
  intro v hv
  simp only [wcells, List.mem_toArray, List.mem_map] at hv
  obtain ⟨x, _, rfl⟩ := hv
  rfl

theorem word_at (s : ByteArray) (k : Nat) (h : 4 * k + 4 ≤ s.size) : word (s.extract (4 * k) s.size).data.toList 0 = word s.data.toList k := by
  have e : ∀ j, j < 4 → (s.extract (4 * k) s.size).data.toList.getD (4 * 0 + j) 0 = s.data.toList.getD (4 * k + j) 0 := by
    intro j hj
    rw [Lib.extract_data]
    simp only [List.getD_eq_getElem?_getD]
    rw [List.getElem?_take, List.getElem?_drop, if_pos (by simp; omega)]
    simp
  unfold word
  simp only [Nat.mul_zero, Nat.zero_add, Nat.add_zero] at e
  have e0 := e 0 (by omega)
  simp only [Nat.add_zero] at e0
  simp only [Nat.mul_zero, Nat.zero_add]
  rw [e0, e 1 (by omega), e 2 (by omega), e 3 (by omega)]

theorem word_ext (s : ByteArray) (k : Nat) (h : 4 * k + 4 ≤ s.size) (hb : s.size ≤ 140737488351232) (w : World) :
    Calls Try.prog 41 #[.string (s.extract (4 * k) s.size)] w fun e w' => e = .returned (.int .u32 ((word s.data.toList k).toNat : Int)) ∧ ∃ n, w' = w.drewN n := by
  have hz : (s.extract (4 * k) s.size).size = s.size - 4 * k := by simp [ByteArray.size_extract]
  have := word_any (s.extract (4 * k) s.size) (by omega) (by omega) w
  rw [word_at s k h] at this
  exact this

theorem next_word (l : List UInt8) (k : Nat) (h : k < 16) : sched l (k + 1) = sched l k ++ [word l k] := by simp [sched, next, h]

/-- A word that is stored behind those that stand in the row. -/
theorem row_next {wr : World} {b k : Nat} {l : List UInt8} {x : W} (h : wr.heap[b]? = some (.cells (wcells (sched l k)) 59 (0, 0))) (hk : k < 64) (hx : sched l (k + 1) = sched l k ++ [x]) :
    (wr.setCell ⟨b, k, none⟩ (.int .u32 (x.toNat : Int))).heap[b]? = some (.cells (wcells (sched l (k + 1))) 59 (0, 0)) := by
  rw [heap_setCell_same wr b k _ 59 _ h, hx]
  have := wcells_set (sched l k) x (by rw [sched_length]; exact hk)
  rw [sched_length] at this
  rw [this]

set_option maxHeartbeats 1000000 in
set_option maxRecDepth 100000 in
theorem spread_any (s : ByteArray) (hs : s.size = 64) (w : World) :
    Calls Try.prog 38 #[.string s] w fun e w' => e = .returned (.agg (wcells (sched s.data.toList 64))) ∧ Below w.heap.size w w' := by
  have hS := Lib.hid hs
  have hs1 : 64 ≤ s.size := by omega
  have hs2 : s.size ≤ 64 := by omega
  clear hs
  go_enter Try.func38, Try.ntmps38
  go_wp2_with (first
    | (with_reducible refine wpList_alloc_agg (o := ⟨some _, .alloc _, _, _, _, _⟩) rfl 59 rfl zeros64 Try.zero59 ?_)
    | fail)
  go_loopw [4, 5, 6, 7, 8, 9] (fun _ _ _ _ _ i wr => ∃ k : Nat, k ≤ 64 ∧ i = .int .i64 k ∧ wr.heap[w.heap.size + 1]? = some (.cells (wcells (sched s.data.toList k)) 59 (0, 0)) ∧ wr.heap[w.heap.size]? = some (.cells zeros64 59 (0, 0)) ∧ Below w.heap.size w wr)
    (fun _ _ _ _ _ i _ => 64 - (intOf i).toNat)
  case atStart =>
    refine ⟨0, by omega, rfl, ?_, heap_alloc2_old _ _ _, ((Below.refl _ _).alloc (Nat.le_refl _) _).alloc (by simp) _⟩
    rw [heap_alloc2_new]
    show _ = some (Obj.cells (wcells []) 59 (0, 0))
    rw [wcells_nil]
  case round =>
    obtain ⟨k, hk, rfl, hw1, hw0, hb⟩ := hrel
    have H1 := Lib.hid hw1
    have H0 := Lib.hid hw0
    clear hw1 hw0
    by_cases hlt : k < 64
    · obtain ⟨v, hv⟩ : ∃ v, wr.cell? ⟨w.heap.size + 1, k, none⟩ = some v := by
        rw [cell_of_row wr _ k _ 59 (0, 0) H1.out]
        exact ⟨_, Array.getElem?_eq_getElem (by rw [wcells_size _ (by rw [sched_length]; omega)]; exact hlt)⟩
      have hf := frozen_of_row wr _ k _ 59 H1.out
      by_cases h16 : k < 16
      · go_wp2_with (go_at_call 41; refine (word_ext s k (by omega) (by omega) _).mono ?_; rintro e w' ⟨rfl, n, rfl⟩)
        go_roundw
        case rel =>
          refine ⟨k + 1, by omega, by go_num, ?_, ?_, ?_⟩
          · exact row_next (wr := wr.drewN n) H1.out hlt (next_word _ _ h16)
          · rw [heap_setCell_other _ _ _ _ (by simp)]; exact H0.out
          · exact (below_drewN hb n).setCell (by simp) _
        case measure => simp [intOf]; omega
      · obtain ⟨i16, hi16⟩ : ∃ j : Nat, j = k - 16 := ⟨_, rfl⟩
        obtain ⟨i15, hi15⟩ : ∃ j : Nat, j = k - 15 := ⟨_, rfl⟩
        obtain ⟨i7, hi7⟩ : ∃ j : Nat, j = k - 7 := ⟨_, rfl⟩
        obtain ⟨i2, hi2⟩ : ∃ j : Nat, j = k - 2 := ⟨_, rfl⟩
        have e16 : IntKind.i64.wrap ((k : Int) - 16) = (i16 : Int) := by rw [IntWalk.i64_in _ (by omega)]; omega
        have e15 : IntKind.i64.wrap ((k : Int) - 15) = (i15 : Int) := by rw [IntWalk.i64_in _ (by omega)]; omega
        have e7 : IntKind.i64.wrap ((k : Int) - 7) = (i7 : Int) := by rw [IntWalk.i64_in _ (by omega)]; omega
        have e2 : IntKind.i64.wrap ((k : Int) - 2) = (i2 : Int) := by rw [IntWalk.i64_in _ (by omega)]; omega
        have cell : ∀ i, i < k → wr.cell? ⟨w.heap.size + 1, i, none⟩ = some (.int .u32 (((sched s.data.toList k).getD i 0).toNat : Int)) := fun i hi => by
          rw [cell_of_row wr _ i _ 59 (0, 0) H1.out]
          exact wcells_get _ i (by rw [sched_length]; exact hi)
        have c16 := cell i16 (by omega)
        have c15 := cell i15 (by omega)
        have c7 := cell i7 (by omega)
        have c2 := cell i2 (by omega)
        have hnext : sched s.data.toList (k + 1) = sched s.data.toList k ++ [(sched s.data.toList k).getD i16 0 + low ((sched s.data.toList k).getD i15 0) + (sched s.data.toList k).getD i7 0 + high ((sched s.data.toList k).getD i2 0)] := by
          simp only [sched, next]
          rw [if_neg h16, hi16, hi15, hi7, hi2]
        have l16 : i16 < 64 := by omega
        have l15 : i15 < 64 := by omega
        have l7 : i7 < 64 := by omega
        have l2 : i2 < 64 := by omega
        have m16 : (i16 : Int) < 64 := by omega
        have m15 : (i15 : Int) < 64 := by omega
        have m7 : (i7 : Int) < 64 := by omega
        have m2 : (i2 : Int) < 64 := by omega
        have n16 : i16 ≠ k := by omega
        have n7 : i7 ≠ k := by omega
        clear cell hi16 hi15 hi7 hi2
        generalize (sched s.data.toList k).getD i16 0 = x16 at *
        generalize (sched s.data.toList k).getD i15 0 = x15 at *
        generalize (sched s.data.toList k).getD i7 0 = x7 at *
        generalize (sched s.data.toList k).getD i2 0 = x2 at *
        have HN := Lib.hid hnext
        clear hnext
        go_wp2
        go_quiet (fail)
        go_wp2_with (go_at_call 39; refine (right_int _ _ (by omega) (by omega) _).mono ?_; rintro e w' ⟨rfl, rfl⟩)
        go_region
        all_goals (go_wp2; go_roundw)
        case rel =>
          refine ⟨k + 1, by omega, by go_num, ?_, ?_, ?_⟩
          · rw [spread_sum]
            exact row_next (wr := wr.drewN (nq + 1)) H1.out hlt HN.out
          · rw [heap_setCell_other _ _ _ _ (by simp)]; exact H0.out
          · exact (below_drewN hb (nq + 1)).setCell (by simp) _
        case measure => simp [intOf]; omega
    · go_wp2_with (first
        | ((with_reducible show wpList _ _ _ (⟨some 61, .load _ _, _, _, _, _⟩ :: _) _ _); refine wpList_load_row rfl 59 _ rfl (w.heap.size + 1) rfl 59 _ (0, 0) _ H1.out Try.underlying59 rfl (by rw [wcells_size _ (by rw [sched_length]; omega)]; exact Try.size59) ?_)
        | ((with_reducible show wpList _ _ _ (⟨none, .store _ _ _, _, _, _, _⟩ :: _) _ _); refine wpList_store_row rfl 59 _ _ rfl w.heap.size (wcells (sched s.data.toList k)) rfl rfl 59 zeros64 H0.out (by rw [wcells_size _ (by rw [sched_length]; omega)]; exact Try.size59) (by rw [wcells_size _ (by rw [sched_length]; omega)]; rfl) (wcells_one _) ?_))
      obtain rfl : k = 64 := by omega
      refine bodyPost_ret (v := .agg (wcells (sched s.data.toList 64))) (results_cell_row Try.results38 _ _ w.heap.size 59 _ (0, 0) _ rfl (setRow_heap wr _ _ _ _ _ H0.out) Try.underlying59 rfl (by rw [wcells_size _ (by rw [sched_length]; omega)]; exact Try.size59)) rfl ⟨rfl, ?_⟩
      exact below_setRow hb (Nat.le_refl _) _
end Go.Proofs.Ythlppmhkdincgaa
