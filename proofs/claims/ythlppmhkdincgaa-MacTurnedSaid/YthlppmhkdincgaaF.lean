/- A Hash in memory: New, there, Len, Copy. -/
import Derived.Test.YthlppmhkdincgaaE
namespace Go.Proofs.Ythlppmhkdincgaa
open Go.RowKit Sha

/-- The cells of a Hash that New gave. -/
def hcells (v : St) (r : Value) (n : Nat) : Array Value :=
  #[.bool true, .int .u32 (v.a.toNat : Int), .int .u32 (v.b.toNat : Int), .int .u32 (v.c.toNat : Int), .int .u32 (v.d.toNat : Int), .int .u32 (v.e.toNat : Int), .int .u32 (v.f.toNat : Int), .int .u32 (v.g.toNat : Int), .int .u32 (v.h.toNat : Int), r, .int .i64 (n : Int)]

/-- In block b lies a Hash to which the text t was written. -/
def HashAt (w : World) (b : Nat) (t : List UInt8) : Prop :=
  ∃ r, w.heap[b]? = some (.cells (hcells (blocks t (t.length / 64)) r t.length) 38 (0, 0)) ∧ BytesAt w r (t.drop (64 * (t.length / 64)))

theorem there_true (b : Nat) (w : World) (h : w.cell? ⟨b, 0, none⟩ = some (.bool true)) :
    Calls Try.prog 28 #[.pointer (some ⟨b, 0, none⟩)] w fun e w' => e = .returned (.bool true) ∧ w = w' := by
  go_enter Try.func28, Try.ntmps28
  go_wp2
  go_ret
  exact ⟨rfl, rfl⟩

theorem there_zero (b : Nat) (w : World) (h : w.cell? ⟨b, 0, none⟩ = some (.bool false)) :
    Calls Try.prog 28 #[.pointer (some ⟨b, 0, none⟩)] w fun e w' => e = .returned (.bool false) ∧ w = w' := by
  go_enter Try.func28, Try.ntmps28
  go_wp2
  go_ret
  exact ⟨rfl, rfl⟩

theorem there_nil (w : World) :
    Calls Try.prog 28 #[.pointer none] w fun e w' => e = .returned (.bool false) ∧ w = w' := by
  go_enter Try.func28, Try.ntmps28
  go_wp2
  go_ret
  exact ⟨rfl, rfl⟩

theorem new_any (w : World) :
    Calls Try.prog 12 #[] w fun e w' => e = .returned (.pointer (some ⟨w.heap.size + 1, 0, none⟩)) ∧ w' = (w.alloc (.cells (St.cells first) 36)).alloc (.cells (hcells first (.slice none 0 0) 0) 38) := by
  go_enter Try.func12, Try.ntmps12
  go_wp2_with (go_at_call 27; refine (first_any _).mono ?_; rintro e w' ⟨rfl, rfl⟩; simp only [St.cells])
  go_ret
  exact ⟨rfl, rfl⟩

theorem HashAt.new (w : World) (X : Obj) : HashAt ((w.alloc X).alloc (.cells (hcells first (.slice none 0 0) 0) 38)) (w.heap.size + 1) [] :=
  ⟨.slice none 0 0, heap_alloc2_new _ _ _, .inl ⟨rfl, rfl⟩⟩

theorem HashAt.made {w : World} {b : Nat} {t : List UInt8} (h : HashAt w b t) : w.cell? ⟨b, 0, none⟩ = some (.bool true) := by
  obtain ⟨r, h, _⟩ := h
  exact cell_of_row w b 0 _ 38 (0, 0) h

theorem HashAt.lt {w : World} {b : Nat} {t : List UInt8} (h : HashAt w b t) : b < w.heap.size := by
  obtain ⟨r, h, _⟩ := h
  exact (Array.getElem?_eq_some_iff.1 h).1

/-- No cell of a Hash is a byte. -/
theorem hcells_no_byte (v : St) (r : Value) (n o : Nat) (c : UInt8) (hr : ∀ x, r ≠ .int .u8 x) : (hcells v r n)[o]? ≠ some (u8v c) := by
  intro h
  match o, h with
  | 0, h => simp [hcells, u8v] at h
  | 1, h => simp [hcells, u8v] at h
  | 2, h => simp [hcells, u8v] at h
  | 3, h => simp [hcells, u8v] at h
  | 4, h => simp [hcells, u8v] at h
  | 5, h => simp [hcells, u8v] at h
  | 6, h => simp [hcells, u8v] at h
  | 7, h => simp [hcells, u8v] at h
  | 8, h => simp [hcells, u8v] at h
  | 9, h => simp [hcells, u8v] at h; exact hr _ h
  | 10, h => simp [hcells, u8v] at h
  | n + 11, h => simp [hcells] at h

theorem BytesAt.no_byte {w : World} {v : Value} {l : List UInt8} (h : BytesAt w v l) (x : Int) : v ≠ .int .u8 x := by
  rcases h with ⟨rfl, _⟩ | ⟨g, o, cap, rfl, _⟩ <;> simp

/-- Bytes stay where no block but a Hash is written. -/
theorem BytesAt.kept {w w' : World} {v : Value} {l : List UInt8} (h : BytesAt w v l) (hk : ∀ k, k < w.heap.size → (∀ i c, w.cell? ⟨k, i, none⟩ = some (u8v c) → w'.heap[k]? = w.heap[k]?)) : BytesAt w' v l := by
  rcases h with h | ⟨g, o, cap, hv, h1, h2, h3⟩
  · exact .inl h
  · refine .inr ⟨g, o, cap, hv, h1, h2, fun i hi => ?_⟩
    have hc := h3 i hi
    rw [World.cell?_of_block (w := w) (hk g (World.block_lt_of_cell? w _ hc) _ _ hc)]
    exact hc

/-- Bytes stay where nothing below is written. -/
theorem BytesAt.below {w w' : World} {v : Value} {l : List UInt8} (h : BytesAt w v l) (hb : Below w.heap.size w w') : BytesAt w' v l :=
  h.kept fun k hk _ _ _ => hb.block k hk

theorem HashAt.below {w w' : World} {b : Nat} {t : List UInt8} (h : HashAt w b t) (hb : Below w.heap.size w w') : HashAt w' b t := by
  have hlt := h.lt
  obtain ⟨r, h1, h2⟩ := h
  exact ⟨r, (hb.block b hlt).trans h1, h2.below hb⟩

/-- A Hash stays as it is where another one alone is written. -/
theorem HashAt.other {w w' : World} {b c : Nat} {t u : List UInt8} (h : HashAt w b t) (hc : HashAt w c u) (hne : b ≠ c) (hg : w.grownBy w' (some c)) : HashAt w' b t := by
  have hlt := h.lt
  obtain ⟨r, h1, h2⟩ := h
  obtain ⟨r', h1', h2'⟩ := hc
  refine ⟨r, (hg.block b hlt (by simpa using hne)).trans h1, h2.kept fun k hk i x hx => ?_⟩
  by_cases hkc : k = c
  · subst hkc
    rw [cell_of_row w k i _ 38 (0, 0) h1'] at hx
    exact absurd hx (hcells_no_byte _ _ _ _ _ (fun y => h2'.no_byte y))
  · exact hg.block k hk (by simpa using hkc)

theorem len_any (b : Nat) (t : List UInt8) (w : World) (h : HashAt w b t) :
    Calls Try.prog 16 #[.pointer (some ⟨b, 0, none⟩)] w fun e w' => e = .returned (.int .i64 (t.length : Int)) ∧ w = w' := by
  have hm := h.made
  obtain ⟨r, h1, _⟩ := h
  have hn : w.cell? ⟨b, 10, none⟩ = some (.int .i64 (t.length : Int)) := cell_of_row w b 10 _ 38 (0, 0) h1
  clear h1
  go_enter Try.func16, Try.ntmps16
  go_wp2_with (go_at_call 28; refine (there_true b _ hm).mono ?_; rintro e w' ⟨rfl, rfl⟩)
  go_ret
  exact ⟨rfl, rfl⟩

def hzero : Array Value := #[.bool false, .int .u32 0, .int .u32 0, .int .u32 0, .int .u32 0, .int .u32 0, .int .u32 0, .int .u32 0, .int .u32 0, .slice none 0 0, .int .i64 0]
theorem Try.zero38 : (Try.prog.info? 38).map (·.zero) = some (some (.agg hzero)) := by kernel_rfl
theorem Try.size38 : (Try.prog.info? 38).map (·.size) = some 11 := by kernel_rfl
theorem hcells_one (v : St) (r : Value) (n : Nat) (hr : r.oneCell' = true) : (hcells v r n).all (·.oneCell') = true := by
  cases r <;> simp_all [hcells, Value.oneCell']
theorem BytesAt.one {w : World} {v : Value} {l : List UInt8} (h : BytesAt w v l) : v.oneCell' = true := by
  rcases h with ⟨rfl, _⟩ | ⟨g, o, cap, rfl, _⟩ <;> rfl

theorem copy_any (b : Nat) (t : List UInt8) (w : World) (h : HashAt w b t) :
    Calls Try.prog 13 #[.pointer (some ⟨b, 0, none⟩)] w fun e w' => e = .returned (.pointer (some ⟨w.heap.size, 0, none⟩)) ∧ HashAt w' w.heap.size t ∧ Below w.heap.size w w' := by
  have hm := h.made
  have H := Lib.hid h
  obtain ⟨r, h1, h2⟩ := h
  have h3 := h2.one
  have H1 := Lib.hid h1
  have H2 := Lib.hid h2
  have H3 := Lib.hid h3
  clear h1 h2 h3
  go_enter Try.func13, Try.ntmps13
  go_wp2_with (first
    | (go_at_call 28; refine (there_true b _ hm).mono ?_; rintro e w' ⟨rfl, rfl⟩)
    | ((with_reducible show wpList _ _ _ (⟨some 9, .load 38 _, _, _, _, _⟩ :: _) _ _); refine wpList_load_row rfl 38 _ rfl b rfl 38 _ (0, 0) _ H1.out Try.underlying38 rfl Try.size38 ?_)
    | ((with_reducible show wpList _ _ _ (⟨some 3, .alloc 38, _, _, _, _⟩ :: _) _ _); refine wpList_alloc_at rfl 38 rfl hzero Try.zero38 w.heap.size rfl ?_)
    | ((with_reducible show wpList _ _ _ (⟨none, .store 38 _ _, _, _, _, _⟩ :: _) _ _); refine wpList_store_row rfl 38 _ _ rfl w.heap.size _ rfl rfl 38 hzero (heap_alloc_new _ _) Try.size38 rfl (hcells_one _ _ _ H3.out) ?_; rw [setRow_alloc]))
  go_ret
  exact ⟨rfl, ⟨r, heap_alloc_new _ _, H2.out.below ((Below.refl _ _).alloc (Nat.le_refl _) _)⟩, (Below.refl _ _).alloc (Nat.le_refl _) _⟩
end Go.Proofs.Ythlppmhkdincgaa
