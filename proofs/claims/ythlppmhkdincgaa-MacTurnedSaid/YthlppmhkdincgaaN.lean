/- Bytes of the call's own, made of a string: what an append of one byte does to them. -/
import Derived.Test.YthlppmhkdincgaaM
import Derived.ArgAppend
namespace Go.Proofs.Ythlppmhkdincgaa
open Go.RowKit Sha

/-- A slice of bytes that begins a row of the call's own, of which no cell is frozen. -/
def OwnB (w : World) (base : Nat) (v : Value) (l : List UInt8) : Prop :=
  ∃ g cap cur fr, v = .slice (some ⟨g, 0, none⟩) l.length cap ∧ base ≤ g ∧ w.heap[g]? = some (.cells cur 5 fr) ∧ (∀ j, j < cur.size → (decide (fr.1 ≤ j) && decide (j < fr.2)) = false) ∧ l.length ≤ cap ∧ cap ≤ maxLen ∧ cur.size = cap ∧ cur.toList.take l.length = l.map u8v

theorem OwnB.bytes {w : World} {base : Nat} {v : Value} {l : List UInt8} (h : OwnB w base v l) : BytesAt w v l := by
  obtain ⟨g, cap, cur, fr, rfl, hb, hh, hf, h1, h2, h3, h4⟩ := h
  refine .inr ⟨g, 0, cap, rfl, h1, h2, fun i hi => ?_⟩
  rw [cell_of_row w g _ cur 5 fr hh]
  have e : (cur.toList.take l.length)[i]? = some (u8v l[i]) := by rw [h4]; simp [hi]
  rw [List.getElem?_take, if_pos hi] at e
  simpa using e

theorem OwnB.conv (w : World) (base : Nat) (s : ByteArray) (hb : base ≤ w.heap.size) (hs : s.size ≤ 1099511627776) :
    ∃ v w', (convert 9 32 (.string s)).run Try.prog w = .ok v w' ∧ OwnB w' base v s.data.toList ∧ Below w.heap.size w w' := by
  have hge := grownCap_ge w s.size 0 5
  have hml := grownCap_le_maxLen w s.size 0 5 (by unfold maxLen; omega)
  have hsz : (bytesRow s (grownCap w s.size 0 5)).size = grownCap w s.size 0 5 := by
    simp [bytesRow]; omega
  refine ⟨_, _, run_bytes_of_string (P := Try.prog) w 9 32 5 s Try.underlying9 Try.underlying32 Try.underlying5, ⟨w.heap.size, grownCap w s.size 0 5, bytesRow s (grownCap w s.size 0 5), _, by simp, hb, heap_alloc_new _ _, fun j hj => ?_, by simpa using hge, hml, hsz, ?_⟩, (Below.refl _ _).drew.alloc (by simp) _⟩
  · simp; intro h; omega
  · simp only [bytesRow, Array.toList_append, Array.toList_map]
    rw [List.take_append_of_le_length (by simp)]
    rw [List.take_of_length_le (by simp)]
    rfl

theorem OwnB.push {wr : World} {base : Nat} {v : Value} {l : List UInt8} (h : OwnB wr base v l) (c : UInt8) (hbd : l.length ≤ 1099511627776) (hbase : base ≤ wr.heap.size) :
    ∃ v' w', (Builtin.append_ #[32, 32] 32 #[v, .slice (some ⟨wr.heap.size, 0, none⟩) 1 1]).run Try.prog (wr.alloc (.cells #[u8v c] 5)) = .ok v' w' ∧ OwnB w' base v' (l ++ [c]) ∧ Below base wr w' := by
  obtain ⟨i, hi, hz0, hz1, hz2⟩ := info_parts Try.info5
  obtain ⟨g, cap, cur, fr, rfl, hb, hh, hf, h1, h2, h3, h4⟩ := h
  have hglt : g < wr.heap.size := (Array.getElem?_eq_some_iff.1 hh).1
  have hh' : (wr.alloc (.cells #[u8v c] 5)).heap[g]? = some (.cells cur 5 fr) := by rw [ha_old _ _ g hglt]; exact hh
  have hnews := news_new wr #[u8v c] 5 [u8v c] rfl
  have hlen : (l ++ [c]).length = l.length + 1 := by simp
  by_cases hroom : l.length + 1 ≤ cap
  · refine ⟨_, _, run_append_room_cells (P := Try.prog) (wr.alloc (.cells #[u8v c] 5)) 32 32 5 i Try.underlying32 hi g 0 l.length cap ⟨wr.heap.size, 0, none⟩ 1 1 [u8v c] (by rw [hz1]; rfl) hnews (u8v_one [c]) hroom (fun j hj => ?_) (fun j hj => ?_), ⟨g, cap, cur.setIfInBounds l.length (u8v c), fr, by rw [hlen], hb, ?_, ?_, by rw [hlen]; exact hroom, h2, by simpa using h3, ?_⟩, ?_⟩
    · obtain rfl : j = 0 := by simpa using hj
      rw [cell_of_row _ g _ cur 5 fr hh']
      simp only [hz1, Nat.zero_add, Nat.mul_one, Nat.add_zero]
      rw [Array.getElem?_eq_getElem (by omega)]; rfl
    · obtain rfl : j = 0 := by simpa using hj
      simp only [World.frozen?, hh', hz1, Nat.zero_add, Nat.mul_one, Nat.add_zero]
      exact hf _ (by omega)
    · simp only [World.setCells, hz1, Nat.zero_add, Nat.mul_one]
      rw [setCell_eq_setRow _ g l.length cur 5 fr (u8v c) hh']
      exact setRow_heap _ g cur _ 5 fr hh'
    · intro j hj; exact hf j (by simpa using hj)
    · rw [hlen, Array.toList_setIfInBounds, List.map_append, ← h4]
      apply List.ext_getElem?
      intro k
      have hcl : cur.toList.length = cap := by simpa using h3
      rw [List.getElem?_take, List.getElem?_append]
      by_cases hk : k < l.length
      · rw [if_pos (by omega), List.getElem?_set_ne (by omega), if_pos (by simp; omega), List.getElem?_take, if_pos hk]
      · by_cases hk2 : k = l.length
        · subst hk2
          have hm : min l.length cur.size = l.length := by omega
          rw [if_pos (by omega), if_neg (by simp; omega), List.getElem?_set_self (by simp; omega)]
          simp [hm]
        · have hm : min l.length cur.size = l.length := by omega
          rw [if_neg (by omega), if_neg (by simp; omega)]
          simp [hm]; omega
    · simp only [World.setCells]
      exact ((Below.refl _ _).alloc hbase _).setCell hb _
  · have holds : ∀ j u, (l.map u8v)[j]? = some u → (wr.alloc (.cells #[u8v c] 5)).cell? ((⟨g, 0, none⟩ : Addr).add j) = some u := by
      intro j u hu
      rw [Addr.add_mid, cell_of_row _ g _ cur 5 fr hh', Nat.zero_add]
      rw [← h4, List.getElem?_take] at hu
      split at hu
      · simpa using hu
      · cases hu
    have hge := grownCap_ge (wr.alloc (.cells #[u8v c] 5)) (l.length + 1) cap 5
    have hml := grownCap_le_maxLen (wr.alloc (.cells #[u8v c] 5)) (l.length + 1) cap 5 (by unfold maxLen; omega)
    refine ⟨_, _, run_append_grow (P := Try.prog) (wr.alloc (.cells #[u8v c] 5)) 32 32 5 i (.int .u8 0) Try.underlying32 hi hz0 ⟨g, 0, none⟩ l.length cap (l.map u8v) (by simp [hz1]) holds ⟨wr.heap.size, 0, none⟩ 1 1 [u8v c] (by rw [hz1]; rfl) hnews (by omega) (by omega) (by rw [hz2]; exact growslice_fits (by omega) (by omega)),
      ⟨(wr.alloc (.cells #[u8v c] 5)).heap.size, _, _, (0, 0), by rw [hlen], by simp; omega, heap_alloc_new _ _, fun j _ => by simp, by rw [hlen]; exact hge, hml, ?_, ?_⟩, ((Below.refl _ _).alloc hbase _).drew.alloc (by simp; omega) _⟩
    · have hz : (Value.int IntKind.u8 0).cells.size = 1 := rfl
      simp only [Array.size_append, List.size_toArray, size_zeroCells, hz, List.length_map, List.length_cons, List.length_nil]
      omega
    · simp only [Array.toList_append]
      rw [hlen, List.take_append_of_le_length (by simp)]
      rw [List.take_of_length_le (by simp)]
      simp
end Go.Proofs.Ythlppmhkdincgaa
