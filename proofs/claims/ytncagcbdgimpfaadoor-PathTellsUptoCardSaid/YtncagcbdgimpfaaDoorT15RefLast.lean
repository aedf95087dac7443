/- Walks: ref15.Last. -/
import Derived.Test.YtncagcbdgimpfaaDoorT15Last
namespace Go.Proofs.YtncagcbdgimpfaaDoor
open Go.RowKit Go.Sac Go.Shelf
set_option linter.unusedVariables false
set_option linter.unusedSimpArgs false

set_option maxHeartbeats 4000000 in
theorem rlast_none (b : Bool) (A : Option Addr) (c : Nat) (w : World) : Calls Tryd.prog 20 #[.agg #[.bool b, .slice A 0 c]] w fun e w' => RetL false [] ⟨#[]⟩ 11 w e w' := by
  have BP := Hd.mk ((Blk.new w 25 [.bool b, .slice A 0 c]).alloc (.cells #[.bool false, .slice none 0 0] 25))
  have BR := Hd.mk (Blk.new (w.alloc (.cells #[.bool b, .slice A 0 c] 25)) 25 [.bool false, .slice none 0 0])
  rw [World.size_alloc] at BR
  have HB : Hd (Below w.heap.size w ((w.alloc (.cells #[.bool b, .slice A 0 c] 25)).alloc (.cells #[.bool false, .slice none 0 0] 25))) := ⟨((Below.refl _ w).alloc (Nat.le_refl _) _).alloc (by simp) _⟩
  go_enter Tryd.func20, Tryd.ntmps20
  go_wp2_with (refine wpList_store_row rfl 25 (.tmp 2) (.tmp 20) rfl (w.heap.size + 1) #[.bool false, .slice none 0 0] rfl rfl 25 _ BR.out (info_path.trans (by simp)) (by simp) (by simp [Value.oneCell']) ?_)
  refine bodyPost_ret (results_cell_slots2 rfl _ _ (w.heap.size + 1) _ _ _ rfl rfl rfl (load_row (BR.out.putRow [.bool false, .slice none 0 0]) Tryd.underlying25 rfl info_path)) rfl ?_
  exact ⟨none, 0, rfl, Nat.le_refl _, Rc.nil _ _, below_row HB.out (by omega) _⟩
set_option maxHeartbeats 4000000 in
theorem rlast_up (b : Bool) (bk off k n c : Nat) (z : ByteArray) (w : World) (hz : w.cell? ⟨bk, off + k, none⟩ = some (.string z)) (hn : n = k + 1) (hk : k ≤ 140737488351232) (hup : (z.toList == [46, 46]) = true) :
    Calls Tryd.prog 20 #[.agg #[.bool b, .slice (some ⟨bk, off, none⟩) n c]] w fun e w' => RetL false [] ⟨#[]⟩ 11 w e w' := by
  have BP := Hd.mk ((Blk.new w 25 [.bool b, .slice (some ⟨bk, off, none⟩) n c]).alloc (.cells #[.bool false, .slice none 0 0] 25))
  have BR := Hd.mk (Blk.new (w.alloc (.cells #[.bool b, .slice (some ⟨bk, off, none⟩) n c] 25)) 25 [.bool false, .slice none 0 0])
  rw [World.size_alloc] at BR
  have HB : Hd (Below w.heap.size w ((w.alloc (.cells #[.bool b, .slice (some ⟨bk, off, none⟩) n c] 25)).alloc (.cells #[.bool false, .slice none 0 0] 25))) := ⟨((Below.refl _ w).alloc (Nat.le_refl _) _).alloc (by simp) _⟩
  have hzb : bk < w.heap.size := World.block_lt_of_cell? w _ hz
  have hz2 := (HB.out.cell hzb).trans hz
  have en : (n : Int) - 1 = (k : Int) := by omega
  have i0 : ((n : Int) == 0) = false := by rw [beq_eq_false_iff_ne]; omega
  have i1 : (k : Int) < (n : Int) := by omega
  clear hn hz
  go_enter Tryd.func20, Tryd.ntmps20
  go_wp2_with (refine wpList_store_row rfl 25 (.tmp 2) (.tmp 20) rfl (w.heap.size + 1) #[.bool false, .slice none 0 0] rfl rfl 25 _ BR.out (info_path.trans (by simp)) (by simp) (by simp [Value.oneCell']) ?_)
  refine bodyPost_ret (results_cell_slots2 rfl _ _ (w.heap.size + 1) _ _ _ rfl rfl rfl (load_row (BR.out.putRow [.bool false, .slice none 0 0]) Tryd.underlying25 rfl info_path)) rfl ?_
  exact ⟨none, 0, rfl, Nat.le_refl _, Rc.nil _ _, below_row HB.out (by omega) _⟩
/-- what ref15.Last's last region yields, operation by operation -/
def RLV (b : Bool) (bk off k n c p : Nat) (z : ByteArray) (j : Nat) (w : World) (v : Value) : Prop :=
  match j with
  | 0 => v = .pointer (some ⟨p, 0, none⟩)
  | 1 => v = .bool b
  | 2 => v = .pointer (some ⟨p, 1, none⟩)
  | 3 => v = .slice (some ⟨bk, off, none⟩) n c
  | 4 => v = .int .i64 n
  | 5 => v = .int .i64 k
  | 6 => v = .slice (some ⟨bk, off, none⟩) k c
  | 7 => v = .agg #[.bool b, .slice (some ⟨bk, off, none⟩) k c]
  | 8 => v = .pointer (some ⟨p, 1, none⟩)
  | 9 => v = .slice (some ⟨bk, off, none⟩) n c
  | 10 => v = .int .i64 n
  | 11 => v = .int .i64 k
  | 12 => v = .pointer (some ⟨bk, off + k, none⟩)
  | 13 => v = .string z
  | 14 => Blk w (p + 1) 25 [.bool b, .slice (some ⟨bk, off, none⟩) k c]
  | 15 => v = .string z
  | 16 => v = .int .i64 0
  | _ => True
def RLR (p i : Nat) : World → World → Prop := KeepBut (if i = 14 then some (p + 1) else none)
theorem RLV_stab {b : Bool} {bk off k n c p : Nat} {z : ByteArray} (i j : Nat) (w w' : World) (v : Value) (hij : i ≠ j) (hR : RLR p i w w') (h : RLV b bk off k n c p z j w v) : RLV b bk off k n c p z j w' v := by
  rcases j with _ | _ | _ | _ | _ | _ | _ | _ | _ | _ | _ | _ | _ | _ | _ | _ | _ | j <;> try exact h
  exact hR.blk h (by rw [if_neg hij]; simp)
def f0R (i : Nat) : Value := if i = 15 then .string ⟨#[]⟩ else if i = 16 then .int .i64 0 else undef
set_option maxHeartbeats 4000000 in
theorem rlast_go (b : Bool) (bk off k n c : Nat) (z : ByteArray) (zs : List ByteArray) (w : World) (hz : w.cell? ⟨bk, off + k, none⟩ = some (.string z)) (hr : Rc w (some ⟨bk, off, none⟩) (svs zs)) (hn : n = k + 1) (hc : n ≤ c) (hkz : k = zs.length) (hk : k ≤ 1048576) (hup : (z.toList == [46, 46]) = false) :
    Calls Tryd.prog 20 #[.agg #[.bool b, .slice (some ⟨bk, off, none⟩) n c]] w fun e w' => RetL b zs z 0 w e w' := by
  have HG : Hd (LG b (some ⟨bk, off, none⟩) n c w ((w.alloc (.cells #[.bool b, .slice (some ⟨bk, off, none⟩) n c] 25)).alloc (.cells #[.bool false, .slice none 0 0] 25))) := ⟨((Below.refl _ w).alloc (Nat.le_refl _) _).alloc (by simp) _, by simp,
    (Blk.new w 25 [.bool b, .slice (some ⟨bk, off, none⟩) n c]).alloc (.cells #[.bool false, .slice none 0 0] 25),
    _, _, by have := Blk.new (w.alloc (.cells #[.bool b, .slice (some ⟨bk, off, none⟩) n c] 25)) 25 [.bool false, .slice none 0 0]
             rw [World.size_alloc] at this; exact this⟩
  have hzb : bk < w.heap.size := World.block_lt_of_cell? w _ hz
  have hz2 := (HG.out.bel.cell hzb).trans hz
  have en : (n : Int) - 1 = (k : Int) := by omega
  have i0 : ((n : Int) == 0) = false := by rw [beq_eq_false_iff_ne]; omega
  have i1 : (k : Int) < (n : Int) := by omega
  have HZ := Hd.mk hz
  have HR := Hd.mk hr
  have HC := Hd.mk (show k ≤ c by omega)
  have HN := Hd.mk hn
  have HCC := Hd.mk hc
  have HK := Hd.mk hkz
  clear hn hz hr hc hkz
  go_enter Tryd.func20, Tryd.ntmps20
  go_wp2_with (fail)
  clear hz2
  change Code.wp Tryd.prog _ _ _ ((w.alloc (.cells #[.bool b, .slice (some ⟨bk, off, none⟩) n c] 25)).alloc (.cells #[.bool false, .slice none 0 0] 25))
  generalize ((w.alloc (.cells #[.bool b, .slice (some ⟨bk, off, none⟩) n c] 25)).alloc (.cells #[.bool false, .slice none 0 0] 25)) = w0 at *
  refine region_fam (fun f => #[.agg #[.bool b, .slice (some ⟨bk, off, none⟩) n c], .pointer (some ⟨w.heap.size, 0, none⟩), .pointer (some ⟨w.heap.size + 1, 0, none⟩), f 15, f 16, .int .i64 n, .pointer (some ⟨w.heap.size, 1, none⟩), .slice (some ⟨bk, off, none⟩) n c, .int .i64 n, .int .i64 n, .bool false, .bool false, .pointer (some ⟨w.heap.size, 1, none⟩), .slice (some ⟨bk, off, none⟩) n c, .int .i64 n, .int .i64 k, .pointer (some ⟨bk, off + k, none⟩), .string z, .bool false, .bool false, undef, f 0, f 1, f 2, f 3, f 4, f 5, f 6, f 7, f 8, f 9, f 10, f 11, f 12, f 13])
    (RLV b bk off k n c w.heap.size z) (LG b (some ⟨bk, off, none⟩) n c w) (RLR w.heap.size) (by kernel_rfl) (by kernel_rfl) f0R rfl (HG.out.grow (Below.refl _ _).drew) RLV_stab ?put ?step ?fin
  case put =>
    intro i o ho f v
    rcases i with _ | _ | _ | _ | _ | _ | _ | _ | _ | _ | _ | _ | _ | _ | _ | _ | _ | i
    all_goals first | (injection ho with ho; subst ho; rfl) | (cases ho)
  case step =>
    intro i o ho f w1 hG hp
    have hcb := hG.bp.cell (i := 0) rfl
    have hcs := hG.bp.cell (i := 1) rfl
    rcases i with _ | _ | _ | _ | _ | _ | _ | _ | _ | _ | _ | _ | _ | _ | _ | _ | _ | i
    · injection ho with ho; subst ho
      refine wpOp_go rfl rfl ?_
      go_simp
      first | exact ⟨.refl _ _, rfl⟩ | exact ⟨hG, .refl _ _, rfl⟩
    · injection ho with ho; subst ho
      have h0 : f 0 = _ := hp ⟨0, .data⟩ (by simp) rfl
      simp only [h0]
      refine wpOp_go rfl rfl ?_
      go_simp
      first | exact ⟨.refl _ _, rfl⟩ | exact ⟨hG, .refl _ _, rfl⟩
    · injection ho with ho; subst ho
      refine wpOp_go rfl rfl ?_
      go_simp
      first | exact ⟨.refl _ _, rfl⟩ | exact ⟨hG, .refl _ _, rfl⟩
    · injection ho with ho; subst ho
      have h2 : f 2 = _ := hp ⟨2, .data⟩ (by simp) rfl
      simp only [h2]
      refine wpOp_go rfl rfl ?_
      go_simp
      first | exact ⟨.refl _ _, rfl⟩ | exact ⟨hG, .refl _ _, rfl⟩
    · injection ho with ho; subst ho
      refine wpOp_go rfl rfl ?_
      go_simp
      first | exact ⟨.refl _ _, rfl⟩ | exact ⟨hG, .refl _ _, rfl⟩
    · injection ho with ho; subst ho
      have h4 : f 4 = _ := hp ⟨4, .data⟩ (by simp) rfl
      have hw1 : IntKind.i64.wrap ((n : Int) - 1) = (k : Int) := by rw [IntKind.wrap_i64]; omega
      have hw2 : IntKind.i64.wrap (k : Int) = (k : Int) := by rw [IntKind.wrap_i64]; omega
      simp only [h4]
      refine wpOp_go rfl rfl ?_
      go_simp
      first | exact ⟨.refl _ _, rfl⟩ | exact ⟨hG, .refl _ _, rfl⟩
    · injection ho with ho; subst ho
      have h3 : f 3 = _ := hp ⟨3, .data⟩ (by simp) rfl
      have h5 : f 5 = _ := hp ⟨5, .data⟩ (by simp) rfl
      have hk0 : (0 : Int) ≤ (k : Int) := by omega
      have hkc : (k : Int) ≤ (c : Int) := by have := HC.out; omega
      simp only [h3, h5]
      refine wpOp_go rfl rfl ?_
      go_simp
      first | exact ⟨.refl _ _, rfl⟩ | exact ⟨hG, .refl _ _, rfl⟩
    · injection ho with ho; subst ho
      have h1 : f 1 = _ := hp ⟨1, .data⟩ (by simp) rfl
      have h6 : f 6 = _ := hp ⟨6, .data⟩ (by simp) rfl
      simp only [h1, h6]
      refine wpOp_go rfl rfl ?_
      go_simp
      first | exact ⟨.refl _ _, rfl⟩ | exact ⟨hG, .refl _ _, rfl⟩
    · injection ho with ho; subst ho
      refine wpOp_go rfl rfl ?_
      go_simp
      first | exact ⟨.refl _ _, rfl⟩ | exact ⟨hG, .refl _ _, rfl⟩
    · injection ho with ho; subst ho
      have h8 : f 8 = _ := hp ⟨8, .data⟩ (by simp) rfl
      simp only [h8]
      refine wpOp_go rfl rfl ?_
      go_simp
      first | exact ⟨.refl _ _, rfl⟩ | exact ⟨hG, .refl _ _, rfl⟩
    · injection ho with ho; subst ho
      refine wpOp_go rfl rfl ?_
      go_simp
      first | exact ⟨.refl _ _, rfl⟩ | exact ⟨hG, .refl _ _, rfl⟩
    · injection ho with ho; subst ho
      have h10 : f 10 = _ := hp ⟨10, .data⟩ (by simp) rfl
      have hw1 : IntKind.i64.wrap ((n : Int) - 1) = (k : Int) := by rw [IntKind.wrap_i64]; omega
      have hw2 : IntKind.i64.wrap (k : Int) = (k : Int) := by rw [IntKind.wrap_i64]; omega
      simp only [h10]
      refine wpOp_go rfl rfl ?_
      go_simp
      first | exact ⟨.refl _ _, rfl⟩ | exact ⟨hG, .refl _ _, rfl⟩
    · injection ho with ho; subst ho
      have h9 : f 9 = _ := hp ⟨9, .data⟩ (by simp) rfl
      have h11 : f 11 = _ := hp ⟨11, .data⟩ (by simp) rfl
      have hk0 : (0 : Int) ≤ (k : Int) := by omega
      simp only [h9, h11]
      refine wpOp_go rfl rfl ?_
      go_simp
      first | exact ⟨.refl _ _, rfl⟩ | exact ⟨hG, .refl _ _, rfl⟩
    · injection ho with ho; subst ho
      have h12 : f 12 = _ := hp ⟨12, .data⟩ (by simp) rfl
      have hzc := (hG.bel.cell hzb).trans HZ.out
      simp only [h12]
      refine wpOp_go rfl rfl ?_
      go_simp
      first | exact ⟨.refl _ _, rfl⟩ | exact ⟨hG, .refl _ _, rfl⟩
    · injection ho with ho; subst ho
      have h7 : f 7 = _ := hp ⟨7, .data⟩ (by simp) rfl
      simp only [h7]
      obtain ⟨x, y, hbr⟩ := hG.br
      refine wpOp_go rfl rfl (wp_store_row 25 (.tmp 2) (.tmp 28) rfl (w.heap.size + 1) #[.bool b, .slice (some ⟨bk, off, none⟩) k c] rfl rfl 25 _ hbr (info_path.trans (by simp)) (by simp) (by simp [Value.oneCell']) ?_)
      refine ⟨undef, rfl, ?_, ?_, ?_⟩
      · exact ⟨below_row hG.bel (by omega) _, by simp; exact hG.size, hG.bp.rowFar (by omega) _, _, _, hbr.putRow [.bool b, .slice (some ⟨bk, off, none⟩) k c]⟩
      · exact KeepBut.row w1 _ _
      · exact hbr.putRow [.bool b, .slice (some ⟨bk, off, none⟩) k c]
    · injection ho with ho; subst ho
      have h13 : f 13 = _ := hp ⟨13, .data⟩ (by simp) rfl
      simp only [h13]
      refine wpOp_go rfl rfl ?_
      go_simp
      first | exact ⟨.refl _ _, rfl⟩ | exact ⟨hG, .refl _ _, rfl⟩
    · injection ho with ho; subst ho
      refine wpOp_go rfl rfl ?_
      go_simp
      first | exact ⟨.refl _ _, rfl⟩ | exact ⟨hG, .refl _ _, rfl⟩
    · cases ho
  case fin =>
    intro f w1 hG hV
    have hb : Blk w1 (w.heap.size + 1) 25 [.bool b, .slice (some ⟨bk, off, none⟩) k c] := hV 14 (by simp)
    have h3 : f 15 = _ := hV 15 (by simp)
    have h4 : f 16 = _ := hV 16 (by simp)
    simp only [h3, h4]
    go_wp2_with (fail)
    have hk' := HK.out
    subst hk'
    refine bodyPost_ret (results_cell_slots2 rfl _ _ (w.heap.size + 1) _ _ _ rfl rfl rfl (load_row hb Tryd.underlying25 rfl info_path)) rfl ?_
    exact ⟨_, c, rfl, HC.out, HR.out.below hG.bel, hG.bel⟩
end Go.Proofs.YtncagcbdgimpfaaDoor
