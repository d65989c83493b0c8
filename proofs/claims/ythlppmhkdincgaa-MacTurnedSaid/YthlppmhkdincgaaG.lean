/- A slice of bytes: its length, its cuts, and what comes of appending a string to it. -/
import Derived.Test.YthlppmhkdincgaaF
namespace Go.Proofs.Ythlppmhkdincgaa
open Go.RowKit Sha

def capOf : Value → Nat
  | .slice _ _ c => c
  | _ => 0

theorem Try.size5 : (Try.prog.info? 5).map (·.size) = some 1 := by kernel_rfl

theorem BytesAt.form {w : World} {v : Value} {l : List UInt8} (h : BytesAt w v l) : ∃ a c, v = .slice a l.length c ∧ l.length ≤ c ∧ c ≤ maxLen := by
  rcases h with ⟨rfl, rfl⟩ | ⟨g, o, cap, rfl, h1, h2, _⟩
  · exact ⟨none, 0, rfl, Nat.le_refl _, by decide⟩
  · exact ⟨_, _, rfl, h1, h2⟩

theorem BytesAt.len_run {w : World} {v : Value} {l : List UInt8} (h : BytesAt w v l) (ty : TypeId) (W : World) :
    (Builtin.len_ #[32] ty #[v]).run Try.prog W = .ok (.int .i64 (l.length : Int)) W := by
  obtain ⟨a, c, rfl, h1, h2⟩ := h.form
  have hl : l.length ≤ 9223372036854775807 := by unfold maxLen at h2; omega
  simp [Builtin.len_, run_underlying Try.underlying32, goInt]

theorem BytesAt.cut3_run {w : World} {v : Value} {l : List UInt8} (h : BytesAt w v l) :
    ∃ v', (∀ W : World, (Instr.slice 32 v none (some (.int .i64 (l.length : Int))) (some (.int .i64 (l.length : Int)))).run Try.prog W = .ok v' W) ∧ BytesAt w v' l ∧ capOf v' = l.length := by
  obtain ⟨i, hi, hs⟩ := Option.map_eq_some_iff.1 Try.size5
  rcases h with ⟨rfl, rfl⟩ | ⟨g, o, cap, rfl, h1, h2, h3⟩
  · refine ⟨.slice none 0 0, fun W => ?_, .inl ⟨rfl, rfl⟩, rfl⟩
    simp [Instr.slice, run_underlying Try.underlying32, Instr.sliceBounds, Instr.sliceBound, asIntOf, sizeOf, typeInfo, hi, hs]
  · refine ⟨.slice (some ⟨g, o, none⟩) l.length l.length, fun W => ?_, .inr ⟨g, o, l.length, rfl, Nat.le_refl _, by omega, h3⟩, rfl⟩
    simp [Instr.slice, run_underlying Try.underlying32, Instr.sliceBounds, Instr.sliceBound, asIntOf, sizeOf, typeInfo, hi, hs, h1, Addr.add]

theorem BytesAt.cutTo_run {w : World} {v : Value} {l : List UInt8} (h : BytesAt w v l) (n : Nat) (hn : n ≤ l.length) :
    ∃ v', (∀ W : World, (Instr.slice 32 v none (some (.int .i64 (n : Int))) none).run Try.prog W = .ok v' W) ∧ BytesAt w v' (l.take n) := by
  obtain ⟨i, hi, hs⟩ := Option.map_eq_some_iff.1 Try.size5
  rcases h with ⟨rfl, rfl⟩ | ⟨g, o, cap, rfl, h1, h2, h3⟩
  · obtain rfl : n = 0 := by simpa using hn
    refine ⟨.slice none 0 0, fun W => ?_, .inl ⟨rfl, rfl⟩⟩
    simp [Instr.slice, run_underlying Try.underlying32, Instr.sliceBounds, Instr.sliceBound, asIntOf, sizeOf, typeInfo, hi, hs]
  · refine ⟨.slice (some ⟨g, o, none⟩) n cap, fun W => ?_, .inr ⟨g, o, cap, by simp [hn], by simp; omega, h2, fun j hj => ?_⟩⟩
    · simp [Instr.slice, run_underlying Try.underlying32, Instr.sliceBounds, Instr.sliceBound, asIntOf, sizeOf, typeInfo, hi, hs, show n ≤ cap by omega, Addr.add]
    · simp only [List.length_take] at hj
      rw [h3 j (by omega)]
      simp

theorem BytesAt.cutFrom_run {w : World} {v : Value} {l : List UInt8} (h : BytesAt w v l) (n : Nat) (hn : n ≤ l.length) :
    ∃ v', (∀ W : World, (Instr.slice 32 v (some (.int .i64 (n : Int))) none none).run Try.prog W = .ok v' W) ∧ BytesAt w v' (l.drop n) := by
  obtain ⟨i, hi, hs⟩ := Option.map_eq_some_iff.1 Try.size5
  rcases h with ⟨rfl, rfl⟩ | ⟨g, o, cap, rfl, h1, h2, h3⟩
  · obtain rfl : n = 0 := by simpa using hn
    refine ⟨.slice none 0 0, fun W => ?_, .inl ⟨rfl, rfl⟩⟩
    simp [Instr.slice, run_underlying Try.underlying32, Instr.sliceBounds, Instr.sliceBound, asIntOf, sizeOf, typeInfo, hi, hs]
  · by_cases hc : cap = n
    · subst hc
      have hl : l.length = cap := by omega
      refine ⟨.slice (some ⟨g, o, none⟩) 0 0, fun W => ?_, .inr ⟨g, o, 0, by simp [hl], by simp [hl], by decide, fun j hj => by simp [hl] at hj⟩⟩
      simp [Instr.slice, run_underlying Try.underlying32, Instr.sliceBounds, Instr.sliceBound, asIntOf, sizeOf, typeInfo, hi, hs, hl]
    · refine ⟨.slice (some ⟨g, o + n, none⟩) (l.length - n) (cap - n), fun W => ?_, .inr ⟨g, o + n, cap - n, by simp, by simp; omega, by omega, fun j hj => ?_⟩⟩
      · simp [Instr.slice, run_underlying Try.underlying32, Instr.sliceBounds, Instr.sliceBound, asIntOf, sizeOf, typeInfo, hi, hs, hn, hc, Addr.add_mid]
      · simp only [List.length_drop] at hj
        rw [Nat.add_assoc, h3 (n + j) (by omega)]
        simp

/-- A new block whose first cells are bytes. -/
theorem bytes_new (w : World) (cs : Array Value) (l : List UInt8) (cap : Nat) (hc : l.length ≤ cap) (hm : cap ≤ maxLen) (h : ∀ i, (h : i < l.length) → cs[i]? = some (u8v l[i])) :
    BytesAt (w.alloc (.cells cs 5)) (.slice (some ⟨w.heap.size, 0, none⟩) l.length cap) l := by
  refine .inr ⟨w.heap.size, 0, cap, rfl, hc, hm, fun i hi => ?_⟩
  rw [cell_of_row _ _ _ cs 5 (0, 0) (heap_alloc_new w _), Nat.zero_add]
  exact h i hi

theorem BytesAt.append_run {w : World} {v : Value} {l : List UInt8} (h : BytesAt w v l) (hc : capOf v = l.length) (s : ByteArray) (hb : l.length + s.size ≤ 140737488355328) :
    ∃ v' w', (Builtin.append_ #[32, 9] 32 #[v, .string s]).run Try.prog w = .ok v' w' ∧ BytesAt w' v' (l ++ s.data.toList) ∧ Below w.heap.size w w' := by
  obtain ⟨i, hi, hz0, hz1, hz2⟩ := info_parts Try.info5
  by_cases hs : s.size = 0
  · have he : s.data.toList = [] := List.eq_nil_of_length_eq_zero (by simpa using hs)
    have hf := Lib.run_firstCells_string (P := Try.prog) w 1 s
    have hsc : Lib.strCells s = [] := by simp [Lib.strCells, he]
    rw [hsc, hs] at hf
    refine ⟨v, w, ?_, by rw [he, List.append_nil]; exact h, Below.refl _ _⟩
    rcases h with ⟨rfl, rfl⟩ | ⟨g, o, cap, rfl, h1, h2, h3⟩
    · simp [Builtin.append_, run_underlying Try.underlying32, run_underlying Try.underlying9, sizeOf, typeInfo, hi, hz1, Builtin.lenOf, hs, hf]
    · simp [Builtin.append_, run_underlying Try.underlying32, run_underlying Try.underlying9, sizeOf, typeInfo, hi, hz1, Builtin.lenOf, hs, hf, h1, storeCells]
  · have hcat : (l ++ s.data.toList).length = l.length + s.size := by simp
    rcases h with ⟨rfl, rfl⟩ | ⟨g, o, cap, rfl, h1, h2, h3⟩
    · have hge := grownCap_ge w s.size 0 5
      have hml := grownCap_le_maxLen w s.size 0 5 (by unfold maxLen; simp at hb; omega)
      refine ⟨_, _, run_append_nil_string (P := Try.prog) w 32 9 32 5 i (.int .u8 0) Try.underlying32 Try.underlying9 hi hz0 s (by omega) (by simp at hb; omega) (by rw [hz2]; simp at hb; omega), ?_, (Below.refl _ _).drew.alloc (by simp) _⟩
      have := bytes_new w.drew (s.data.map (fun b => Value.int .u8 b.toNat) ++ Builtin.zeroCells (Value.int .u8 0).cells (grownCap w s.size 0 5 - s.size)) s.data.toList (grownCap w s.size 0 5) (by simpa using hge) hml (fun j hj => by
        rw [Array.getElem?_append_left (by simpa using hj)]
        simp only [Array.length_toList] at hj
        simp [u8v]
        exact ⟨_, Array.getElem?_eq_getElem hj, rfl⟩)
      simpa using this
    · have hcl : cap = l.length := hc
      subst hcl
      have hge := grownCap_ge w (l.length + s.size) l.length 5
      have hml := grownCap_le_maxLen w (l.length + s.size) l.length 5 (by unfold maxLen; omega)
      refine ⟨_, _, Lib.run_append_grow_string (P := Try.prog) w 32 9 32 5 i (.int .u8 0) Try.underlying32 Try.underlying9 hi hz0 ⟨g, o, none⟩ l.length l.length (l.map u8v) (by simp [hz1]) (fun j x hx => ?_) s (by omega) (by omega) (by rw [hz2]; exact growslice_fits (by omega) (by omega)), ?_, (Below.refl _ _).drew.alloc (by simp) _⟩
      · rw [Addr.add_mid]
        have hj : j < l.length := by
          rcases Nat.lt_or_ge j l.length with hlt | hge
          · exact hlt
          · simp [hge] at hx
        rw [h3 j hj]
        simpa [hj] using hx
      · have := bytes_new w.drew ((l.map u8v).toArray ++ (Lib.strCells s).toArray ++ Builtin.zeroCells (Value.int .u8 0).cells (grownCap w (l.length + s.size) l.length 5 - (l.length + s.size))) (l ++ s.data.toList) (grownCap w (l.length + s.size) l.length 5) (by rw [hcat]; exact hge) hml (fun j hj => by
          rw [hcat] at hj
          rw [Array.getElem?_append_left (by simp [Lib.strCells_length]; exact hj)]
          rw [strCells_eq]
          simp only [List.append_toArray, ← List.map_append, List.getElem?_toArray, List.getElem?_map]
          rw [List.getElem?_eq_getElem (by rw [hcat]; exact hj)]
          rfl)
        rw [hcat] at this
        exact this
end Go.Proofs.Ythlppmhkdincgaa
