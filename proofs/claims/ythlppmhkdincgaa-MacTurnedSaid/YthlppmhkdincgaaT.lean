/- The tag of a text under a key, in plain Lean; keys as they are used, and mixed. -/
import Derived.Test.YthlppmhkdincgaaQ
import Derived.Lib.BufferWrite
attribute [local go_sem ↓] Go.wp_at_zero Go.wp_at_succ
namespace Go.Proofs.Ythlppmhkdincgaa
open Go.RowKit Sha

/-- A key as it is used. -/
def keyed (k : List UInt8) : List UInt8 :=
  (if 64 < k.length then sha k else k) ++ List.replicate (64 - (if 64 < k.length then sha k else k).length) 0
def mixed (k : List UInt8) (c : UInt8) : List UInt8 := k.map (· ^^^ c)
def tag (k s : List UInt8) : List UInt8 := sha (mixed (keyed k) 92 ++ sha (mixed (keyed k) 54 ++ s))

theorem sha_length (l : List UInt8) : (sha l).length = 32 := rfl
theorem tag_length (k s : List UInt8) : (tag k s).length = 32 := rfl
theorem keyed_length (k : List UInt8) : (keyed k).length = 64 := by
  unfold keyed
  by_cases h : 64 < k.length
  · simp [h, sha_length]
  · simp [h]; omega
theorem mixed_length (k : List UInt8) (c : UInt8) : (mixed k c).length = k.length := by simp [mixed]
theorem b_xor (x y : UInt8) : bits .xor .u8 (x.toNat : Int) (y.toNat : Int) = ((x ^^^ y).toNat : Int) := by
  show IntKind.u8.wrap ((BitVec.ofInt 8 (x.toNat : Int) ^^^ BitVec.ofInt 8 (y.toNat : Int)).toNat : Int) = _
  rw [BitVec.ofInt_natCast, BitVec.ofInt_natCast]
  have e : ∀ z : UInt8, BitVec.ofNat 8 z.toNat = z.toBitVec := fun z => by simp
  rw [e, e, ← UInt8.toBitVec_xor, UInt8.toNat_toBitVec]
  have := (x ^^^ y).toNat_lt
  rw [IntKind.wrap_u8]; omega
theorem b_or (x y : UInt8) : bits .or .u8 (x.toNat : Int) (y.toNat : Int) = ((x ||| y).toNat : Int) := by
  show IntKind.u8.wrap ((BitVec.ofInt 8 (x.toNat : Int) ||| BitVec.ofInt 8 (y.toNat : Int)).toNat : Int) = _
  rw [BitVec.ofInt_natCast, BitVec.ofInt_natCast]
  have e : ∀ z : UInt8, BitVec.ofNat 8 z.toNat = z.toBitVec := fun z => by simp
  rw [e, e, ← UInt8.toBitVec_or, UInt8.toNat_toBitVec]
  have := (x ||| y).toNat_lt
  rw [IntKind.wrap_u8]; omega

theorem keyed_long (k : List UInt8) (h : 64 < k.length) : keyed k = sha k ++ List.replicate 32 0 := by
  unfold keyed
  rw [if_pos h, sha_length]
theorem keyed_short (k : List UInt8) (h : ¬ 64 < k.length) : keyed k = k ++ List.replicate (64 - k.length) 0 := by
  unfold keyed
  rw [if_neg h]

/-- A builtin copy whose run is known. -/
theorem wpList_copy_is {P : Program} {ops : Array Oper} {rest : List Oper} {o : Oper} {a : Act} {w : World} {Q : Exit → Act → World → Prop} (hgd : o.guard = none) (s x : Operand) (t u ty : TypeId)
    (hop : o.op = Op.call { callee := Callee.builtin Builtin.copy, args := #[s, x], argTypes := #[t, u] }) (hty : o.type = ty)
    (sv xv : Value) (hs : a.eval s = sv) (hx : a.eval x = xv) (v : Value) (w' : World) (hr : (Builtin.copy_ #[t, u] ty #[sv, xv]).run P w = .ok v w')
    (h : wpList P ops Q rest (a.put o.dst v) w') : wpList P ops Q (o :: rest) a w := by
  refine wpList_plain hgd fun K hK => ?_
  subst hty
  unfold Oper.wp execOp
  simp only [hop, resolve, invoke, builtin, Sem.run_bind, Sem.run_pure, Result.andThen_ok, List.map_toArray, List.map_cons, List.map_nil, hs, hx, hr]
  exact hK _ _ h

/-- A string is copied to the head of a row of bytes. -/
theorem ByteRow.copy_run {w : World} {g cap : Nat} {l : List UInt8} (h : ByteRow w g l cap) (h0 : ∀ cur fr, w.heap[g]? = some (.cells cur 5 fr) → fr = (0, 0)) (s : ByteArray) (hs : s.size ≤ l.length) (ty : TypeId) :
    ∃ w', (Builtin.copy_ #[32, 9] ty #[.slice (some ⟨g, 0, none⟩) l.length cap, .string s]).run Try.prog w = .ok (goInt s.size) w' ∧ ByteRow w' g (s.data.toList ++ l.drop s.size) cap ∧ (∀ B W, B ≤ g → Below B W w → Below B W w') := by
  obtain ⟨cur, fr, hh, hf, h1, h2, h3, h4⟩ := h
  obtain rfl := h0 cur fr hh
  have hrun := Lib.run_copy_row_string (P := Try.prog) w 32 9 ty 5 g 0 l.length cap s cur 5 Try.underlying32 Try.size5 hh hs (by omega)
  have hsz : s.data.toList.length = s.size := by simp
  have hbc : Lib.byteCells s.data.toList = s.data.toList.map u8v := rfl
  refine ⟨_, hrun, ⟨(cur.toList.take 0 ++ Lib.byteCells s.data.toList ++ cur.toList.drop (0 + s.size)).toArray, (0, 0), setRow_heap w g cur _ 5 _ hh, fun j _ => by simp, by simp; omega, h2, ?_, ?_⟩, ?_⟩
  · rw [hbc]; simp; omega
  · rw [hbc]
    simp only [List.take_zero, List.nil_append, Nat.zero_add, List.length_append, List.length_drop, hsz, List.map_append]
    rw [show s.size + (l.length - s.size) = (s.data.toList.map u8v).length + (l.length - s.size) by simp, List.take_length_add_append]
    congr 1
    rw [List.map_drop, ← h4, List.drop_take]
  · intro B W hB hb
    exact hb.trans ⟨rfl, rfl, rfl, by simp [World.setRow], fun k hk => by simp only [World.setRow, Array.getElem?_modify]; rw [if_neg (by omega)]⟩

set_option maxHeartbeats 1000000 in
theorem key_any (s : ByteArray) (w : World) (hs : s.size ≤ 1073741824) :
    Calls Try.prog 32 #[.string s] w fun e w' => e = .returned (.string (str (keyed s.data.toList))) ∧ Below w.heap.size w w' := by
  obtain ⟨i0, hi, hz0, hz1, hz2⟩ := info_parts Try.info5
  go_enter Try.func32, Try.ntmps32
  by_cases hlt : 64 < s.size
  · have hlti : (64 : Int) < (s.size : Int) := by omega
    go_wp2_with fail
    refine (of_any s w hs).mono ?_
    rintro e w1 ⟨rfl, hb1⟩
    have HB1 := Lib.hid hb1
    clear hb1
    go_wp2_with ((with_reducible show wpList _ _ _ (⟨some 9, .makeSlice _ _ _, _, _, _, _⟩ :: _) _ _); refine wpList_make_full _ rfl _ _ 32 rfl w.heap.size 5 i0 (.int .u8 0) 1 Try.underlying32 hi hz0 hz1 _ _ _ _ 64 rfl rfl rfl rfl (by rw [hz2]; decide) (by decide) HB1.out.size ?_)
    intro w2 hown hgrow
    have hb2 : Below w.heap.size w w2 := HB1.out.grown hgrow HB1.out.size (fun k hk => by cases hk)
    have e0 : (madeCells #[Value.int IntKind.u8 0] 64).toList = (List.replicate 64 (0 : UInt8)).map u8v := made_zero 64
    have hown' : w2.ownsRow w.heap.size 5 1 (.slice (some ⟨w1.heap.size, 0, none⟩) 64 64) 64 ((List.replicate 64 (0 : UInt8)).map u8v) := by rw [← e0]; exact hown
    obtain ⟨hrow, hge, _⟩ := ByteRow.of_own hown'
    have hfr : ∀ cur fr, w2.heap[w1.heap.size]? = some (.cells cur 5 fr) → fr = (0, 0) := by
      obtain ⟨_, h⟩ := hown'
      rcases h with ⟨h0, _⟩ | ⟨g', cap', cur', hv, _, hh', _⟩
      · cases h0
      · cases hv
        intro cur fr h
        rw [hh'] at h
        injection h with h
        injection h with _ _ h
        exact h.symm
    have hcr := ByteRow.copy_run hrow hfr (str (sha s.data.toList)) (show 32 ≤ (List.replicate 64 (0 : UInt8)).length by simp) 3
    obtain ⟨w3, hrun, hrow3, hb3⟩ := hcr
    have HB3 := Lib.hid (hb3 w.heap.size w hge hb2)
    have hconv := run_convert_bytes w3 _ _ hrow3.bytes
    have hfin : (str (sha s.data.toList)).data.toList ++ (List.replicate 64 0).drop (str (sha s.data.toList)).size = keyed s.data.toList := by
      rw [keyed_long _ (show 64 < s.data.toList.length from hlt), str_data, show (str (sha s.data.toList)).size = 32 from rfl, List.drop_replicate]
    rw [hfin, keyed_length] at hconv
    rw [List.length_replicate] at hrun
    have HR := Lib.hid hrun
    clear hrun hrow hrow3 hfin hown hown' hgrow hfr hb3 hb2
    go_wp2_with (first
      | ((with_reducible show wpList _ _ _ (⟨some 12, .call _, _, _, _, _⟩ :: _) _ _); refine wpList_copy_is rfl _ _ 32 9 3 rfl rfl _ _ rfl rfl _ w3 HR.out ?_))
    go_ret
    exact ⟨rfl, HB3.out⟩
  · have hlti : ¬ (64 : Int) < (s.size : Int) := by omega
    go_wp2_with ((with_reducible show wpList _ _ _ (⟨some 9, .makeSlice _ _ _, _, _, _, _⟩ :: _) _ _); refine wpList_make_full _ rfl _ _ 32 rfl w.heap.size 5 i0 (.int .u8 0) 1 Try.underlying32 hi hz0 hz1 _ _ _ _ 64 rfl rfl rfl rfl (by rw [hz2]; decide) (by decide) (Nat.le_refl _) ?_)
    intro w2 hown hgrow
    have hb2 : Below w.heap.size w w2 := (Below.refl w.heap.size w).grown hgrow (Nat.le_refl _) (fun k hk => by cases hk)
    have e0 : (madeCells #[Value.int IntKind.u8 0] 64).toList = (List.replicate 64 (0 : UInt8)).map u8v := made_zero 64
    have hown' : w2.ownsRow w.heap.size 5 1 (.slice (some ⟨w.heap.size, 0, none⟩) 64 64) 64 ((List.replicate 64 (0 : UInt8)).map u8v) := by rw [← e0]; exact hown
    obtain ⟨hrow, hge, _⟩ := ByteRow.of_own hown'
    have hfr : ∀ cur fr, w2.heap[w.heap.size]? = some (.cells cur 5 fr) → fr = (0, 0) := by
      obtain ⟨_, h⟩ := hown'
      rcases h with ⟨h0, _⟩ | ⟨g', cap', cur', hv, _, hh', _⟩
      · cases h0
      · cases hv
        intro cur fr h
        rw [hh'] at h
        injection h with h
        injection h with _ _ h
        exact h.symm
    have hcr := ByteRow.copy_run hrow hfr s (by simp; omega) 3
    obtain ⟨w3, hrun, hrow3, hb3⟩ := hcr
    have HB3 := Lib.hid (hb3 w.heap.size w hge hb2)
    have hconv := run_convert_bytes w3 _ _ hrow3.bytes
    have hfin : s.data.toList ++ (List.replicate 64 0).drop s.size = keyed s.data.toList := by
      rw [keyed_short _ (show ¬ 64 < s.data.toList.length from hlt), List.drop_replicate]
      rfl
    rw [hfin, keyed_length] at hconv
    rw [List.length_replicate] at hrun
    have HR := Lib.hid hrun
    clear hrun hrow hrow3 hfin hown hown' hgrow hfr hb3 hb2
    go_wp2_with (first
      | ((with_reducible show wpList _ _ _ (⟨some 12, .call _, _, _, _, _⟩ :: _) _ _); refine wpList_copy_is rfl _ _ 32 9 3 rfl rfl _ _ rfl rfl _ w3 HR.out ?_))
    go_ret
    exact ⟨rfl, HB3.out⟩
end Go.Proofs.Ythlppmhkdincgaa
