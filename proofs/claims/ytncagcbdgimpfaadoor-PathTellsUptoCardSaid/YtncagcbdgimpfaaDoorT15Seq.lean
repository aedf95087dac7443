/- Walks: the library's iterator over the parts of a text. -/
import Derived.Test.YtncagcbdgimpfaaDoorBaseR2
import Derived.Test.YtncagcbdgimpfaaDoorP15
import Derived.Test.YtncagcbdgimpfaaDoorT15Shelf
namespace Go.Proofs.YtncagcbdgimpfaaDoor
open Go.RowKit Go.Sac Go.Shelf
set_option linter.unusedVariables false
set_option linter.unusedSimpArgs false
attribute [local go_sem] Oper.semAt_some

theorem splitseq_calls (s : ByteArray) (w : World) :
    Calls Tryd.prog 23 #[.string s, .string ⟨#[47]⟩] w fun e w' => e = .returned (.func (.func 34) #[] #[.pointer (some ⟨w.heap.size + 1, 0, none⟩), .pointer (some ⟨w.heap.size, 0, none⟩), .pointer (some ⟨w.heap.size + 1 + 1, 0, none⟩)]) ∧
      w' = ((w.alloc (.cells #[.string s] 9)).alloc (.cells #[.string ⟨#[47]⟩] 9)).alloc (.cells #[.int .i64 0] 3) := by
  have inner : ∀ w : World, Calls Tryd.prog 29 #[.string s, .string ⟨#[47]⟩, .int .i64 0] w fun e w' => e = .returned (.func (.func 34) #[] #[.pointer (some ⟨w.heap.size + 1, 0, none⟩), .pointer (some ⟨w.heap.size, 0, none⟩), .pointer (some ⟨w.heap.size + 1 + 1, 0, none⟩)]) ∧
      w' = ((w.alloc (.cells #[.string s] 9)).alloc (.cells #[.string ⟨#[47]⟩] 9)).alloc (.cells #[.int .i64 0] 3) := by
    intro w
    go_enter Tryd.func29, Tryd.ntmps29
    go_wp2
    go_ret
    exact ⟨rfl, rfl⟩
  have HI := Hd.mk inner
  clear inner
  go_enter Tryd.func23, Tryd.ntmps23
  go_wp2_with (go_at_call 29; refine (HI.out _).mono ?_; rintro e w' ⟨rfl, rfl⟩)
  go_ret
  exact ⟨rfl, rfl⟩

/-- a text as a call may hand it on -/
abbrev Str := { x : ByteArray // x.size ≤ 140737488351232 }
theorem grown_set (W : World) (g : Nat) (v : Value) : W.grownBy (W.setCell ⟨g, 0, none⟩ v) (some g) :=
  ⟨rfl, rfl, rfl, by simp, fun k _ hk => Below.heap_setCell W ⟨g, 0, none⟩ v k (fun e => hk (by rw [e]))⟩
def curLen (n : Nat) (w : World) : Nat := match w.cell? ⟨n, 0, none⟩ with | some (.string c) => c.size | _ => 0
theorem curLen_eq {n : Nat} {w : World} {t : TypeId} {c : ByteArray} (h : Boxed w n t (.string c)) : curLen n w = c.size := by unfold curLen; rw [h.cell]
theorem ext_list (s : ByteArray) (a b : Nat) : (s.extract a b).data.toList = (s.data.toList.take b).drop a := by
  rw [ByteArray.data_extract, Array.toList_extract, List.extract_eq_take_drop, List.drop_take]
set_option maxRecDepth 100000 in
set_option maxHeartbeats 4000000 in
theorem seq1_in (l n₀ n₁ : Nat) (s : ByteArray) (J Jx : List Str → World → Prop) (hJ0 : ∀ p, StabR n₁ (n₁ + 3) (J p)) (hJx0 : ∀ p, StabR n₁ (n₁ + 3) (Jx p)) (hn0 : n₀ ≤ n₁)
    (hY : ∀ pre x W, J pre W → pre.length < s.size + 1 → YieldAt Fence.wide (3 - 1) Tryd.prog l #[.string x.1] W fun e W' =>
      (e = .returned (.bool true) ∧ J (pre ++ [x]) W' ∧ KeepR n₀ n₁ (n₁ + 3) W W') ∨ (e = .returned (.bool false) ∧ Jx (pre ++ [x]) W'))
    (W : World) (hs : s.size ≤ 140737488351232)
    (hB0 : Boxed W n₁ 9 (.string s)) (hB1 : Boxed W (n₁ + 1) 9 (.string ⟨#[47]⟩)) (hB2 : Boxed W (n₁ + 1 + 1) 3 (.int .i64 0)) (h0 : J [] W) :
    CallsIn Fence.wide 3 Tryd.prog 34 #[.func (.yield l) #[] #[], .pointer (some ⟨n₁ + 1, 0, none⟩), .pointer (some ⟨n₁, 0, none⟩), .pointer (some ⟨n₁ + 1 + 1, 0, none⟩)] W fun e W' => (∃ v, e = .returned v) ∧
      ((∃ ys, (ys.map (·.1.data.toList)) = splitL s.data.toList ∧ J ys W') ∨ (∃ pre, pre.map (·.1.data.toList) <+: splitL s.data.toList ∧ Jx pre W')) := by
  have c1 := hB1.cell
  have hJ := Hd.mk hJ0
  have hJx := Hd.mk hJx0
  clear hJ0 hJx0
  refine callsIn_of_wp Tryd.func34 rfl trivial ?_ rfl
  simp only [Tryd.ntmps34, List.size_toArray, List.length_cons, List.length_nil, Nat.reduceAdd, Nat.reduceSub, Array.replicate_succ, Array.replicate_zero, List.push_toArray, List.append_toArray, List.nil_append, List.cons_append]
  gi_wp2
  clear c1
  have HN0 := Hd.mk hn0
  gi_loopw [7] (fun _ wr => ∃ (pre : List Str) (cur : ByteArray), Boxed wr n₁ 9 (.string cur) ∧ Boxed wr (n₁ + 1) 9 (.string ⟨#[47]⟩) ∧ Boxed wr (n₁ + 1 + 1) 3 (.int .i64 0) ∧ Hd (pre.map (·.1.data.toList) ++ splitL cur.data.toList = splitL s.data.toList) ∧ cur.size ≤ s.size ∧ J pre wr) (fun _ wr => curLen n₁ wr)
  case atStart => exact ⟨[], s, hB0, hB1, hB2, ⟨rfl⟩, Nat.le_refl _, h0⟩
  case round =>
    obtain ⟨pre, cur, b0, b1, b2, HS, hcs, hj⟩ := hrel
    have c0 := b0.cell
    have c1 := b1.cell
    have c2 := b2.cell
    have hlen : pre.length < s.size + 1 := by
      have h1 := congrArg List.length HS.out
      have h2 := split_len s.data.toList
      have h3 := List.length_pos_iff.2 (split_ne cur.data.toList)
      simp at h1 h2; omega
    have HL := Hd.mk hlen
    rcases (by have := Lib.indexByte_ge cur.data.toList 47; omega : Lib.indexByte cur.data.toList 47 = -1 ∨ 0 ≤ Lib.indexByte cur.data.toList 47) with hi | hi
    · have HI := Hd.mk hi
      obtain ⟨fn, tmps, assign, body, hy, hR⟩ := hY pre ⟨cur, by omega⟩ wr hj hlen
      dsimp only at hy
      clear hi hlen
      gi_wp2_with (refine ⟨trivial, ?_⟩; gi_at_call 36; refine (callsIn_wide.2 (strings_Index_one _ _ _)).mono ?_; rintro e w2 ⟨rfl, rfl⟩; rw [HI.out])
      refine hR.mono ?_
      have HE : Hd ((pre ++ [(⟨cur, by omega⟩ : Str)]).map (·.1.data.toList) = splitL s.data.toList) := ⟨by rw [← HS.out, split_idx_none _ HI.out]; simp⟩
      rintro e W3 (⟨rfl, hJ3, hk3⟩ | ⟨rfl, hJx3⟩)
      · gi_wp2
        go_end0
        exact ⟨⟨_, rfl⟩, .inl ⟨_, HE.out, hJ3⟩⟩
      · gi_wp2
        go_end0
        exact ⟨⟨_, rfl⟩, .inr ⟨_, by rw [HE.out]; exact List.prefix_rfl, hJx3⟩⟩
    · obtain ⟨i, hi2⟩ : ∃ i : Nat, Lib.indexByte cur.data.toList 47 = i := ⟨(Lib.indexByte cur.data.toList 47).toNat, by omega⟩
      have HI := Hd.mk hi2
      have HP := Hd.mk (split_idx _ i hi2)
      have hil : i < cur.size := by have := HP.out.1; simpa using this
      obtain ⟨fn, tmps, assign, body, hy, hR⟩ := hY pre ⟨cur.extract 0 i, by rw [ByteArray.size_extract]; omega⟩ wr hj hlen
      dsimp only at hy
      clear hi hlen hi2
      gi_wp2_with (refine ⟨trivial, ?_⟩; gi_at_call 36; refine (callsIn_wide.2 (strings_Index_one _ _ _)).mono ?_; rintro e w2 ⟨rfl, rfl⟩; rw [HI.out])
      refine hR.mono ?_
      have HX : Hd ((cur.extract 0 i).data.toList = cur.data.toList.take i) := ⟨by rw [ext_list]; simp⟩
      have HY2 : Hd ((cur.extract (i + 1) cur.size).data.toList = cur.data.toList.drop (i + 1)) := ⟨by rw [ext_list, List.take_of_length_le (by simp)]⟩
      rintro e W3 (⟨rfl, hJ3, hk3⟩ | ⟨rfl, hJx3⟩)
      · have d0 := hk3.boxed b0 (by omega) (by omega)
        have d1 := hk3.boxed b1 (by omega) (by omega)
        have d2 := hk3.boxed b2 (by omega) (by omega)
        have c0 := d0.cell
        have c1 := d1.cell
        have c2 := d2.cell
        have f0 := d0.frozen
        gi_wp2
        have e0 : Boxed (W3.setCell ⟨n₁, 0, none⟩ (.string (cur.extract (i + 1) cur.size))) n₁ 9 (.string (cur.extract (i + 1) cur.size)) := (show Blk W3 n₁ 9 [.string cur] from d0).set 0 _
        go_roundw
        case rel =>
          refine ⟨_, cur.extract (i + 1) cur.size, e0, (show Blk W3 (n₁ + 1) 9 [_] from d1).far (show n₁ + 1 ≠ n₁ by omega) _, (show Blk W3 (n₁ + 1 + 1) 3 [_] from d2).far (show n₁ + 1 + 1 ≠ n₁ by omega) _, ⟨?_⟩, ?_, hJ.out _ _ _ _ hJ3 (grown_set W3 n₁ _) (fun r e => by injection e with e; omega)⟩
          · rw [HY2.out, List.map_append, List.map_cons, List.map_nil, HX.out, ← HS.out, HP.out.2]; simp
          · rw [ByteArray.size_extract]; omega
        case measure => rw [curLen_eq e0, curLen_eq b0, ByteArray.size_extract]; omega
      · gi_wp2
        refine bodyPost_ret (results_none rfl _ _ _) rfl ?_
        refine ⟨⟨_, rfl⟩, .inr ⟨_, ?_, hJx3⟩⟩
        rw [← HS.out, HP.out.2, List.map_append]
        exact ⟨splitL (cur.data.toList.drop (i + 1)), by rw [List.map_cons, List.map_nil, HX.out]; simp⟩
theorem seq_iter (n₀ : Nat) (s : ByteArray) (w w0 : World) (hs : s.size ≤ 140737488351232) (hw : w0.heap.size = n₀)
    (hB0 : Boxed w n₀ 9 (.string s)) (hB1 : Boxed w (n₀ + 1) 9 (.string ⟨#[47]⟩)) (hB2 : Boxed w (n₀ + 1 + 1) 3 (.int .i64 0)) (n₁ : Nat) (hn1 : n₁ ≤ n₀) :
    IterS 3 Tryd.prog 34 #[.pointer (some ⟨n₀ + 1, 0, none⟩), .pointer (some ⟨n₀, 0, none⟩), .pointer (some ⟨n₀ + 1 + 1, 0, none⟩)] (fun x : Str => Value.string x.1) (KeepR n₁ n₀ (n₀ + 3)) (fun ys : List Str => ys.map (·.1.data.toList) = splitL s.data.toList) (fun pre : List Str => pre.map (·.1.data.toList) <+: splitL s.data.toList) (s.size + 1) n₀ (n₀ + 3) w := by
  intro l J Jx W hW hJ hJx hY h0
  have hlt : n₀ + 1 + 1 < w.heap.size := (Array.getElem?_eq_some_iff.1 hB2).1
  exact seq1_in l n₁ n₀ s J Jx hJ hJx hn1 hY W hs ((hW.block _ (by omega)).trans hB0) ((hW.block _ (by omega)).trans hB1) ((hW.block _ (by omega)).trans hB2) h0
end Go.Proofs.YtncagcbdgimpfaaDoor
