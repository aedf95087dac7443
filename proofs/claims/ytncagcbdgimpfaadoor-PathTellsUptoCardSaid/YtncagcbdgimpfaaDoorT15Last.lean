/- Walks: path.Last. -/
import Derived.Test.YtncagcbdgimpfaaDoorT15Box
namespace Go.Proofs.YtncagcbdgimpfaaDoor
open Go.RowKit Go.Sac Go.Shelf
set_option linter.unusedVariables false
set_option linter.unusedSimpArgs false

/-- Last's answer: a path, its last name, an error -/
def RetL (b : Bool) (xs : List ByteArray) (z : ByteArray) (er : Int) (w : World) (e : Ending) (w' : World) : Prop :=
  ∃ A c, e = .returned (.tuple #[.agg #[.bool b, .slice A xs.length c], .string z, .int .i64 er]) ∧ xs.length ≤ c ∧ Rc w' A (svs xs) ∧ Below w.heap.size w w'
theorem results_cell_slots2 {P : Program} {fn : Func} {p q r : Tmp} {ty : TypeId} (h : fn.results = #[.cell p ty, .tmp q, .tmp r]) (tmps : Array Value) (w : World) (g : Nat) (v1 v2 v3 : Value)
    (hp : tmps.getD p undef = .pointer (some ⟨g, 0, none⟩)) (hq : tmps.getD q undef = v2) (hr : tmps.getD r undef = v3) (h1 : (loadVar ty ⟨g, 0, none⟩).run P w = .ok v1 w) :
    (results fn tmps).run P w = .ok (.tuple #[v1, v2, v3]) w := by
  have hp' : tmps[p]?.getD undef = .pointer (some ⟨g, 0, none⟩) := by simpa using hp
  have hq' : tmps[q]?.getD undef = v2 := by simpa using hq
  have hr' : tmps[r]?.getD undef = v3 := by simpa using hr
  simp only [results, h]
  simp [Sem.run_bind, Result.andThen, hp', hq', hr', asAddr, h1]
set_option maxHeartbeats 4000000 in
theorem last_none (b : Bool) (A : Option Addr) (c : Nat) (w : World) : Calls Tryd.prog 19 #[.agg #[.bool b, .slice A 0 c]] w fun e w' => RetL false [] ⟨#[]⟩ 11 w e w' := by
  have BP := Hd.mk ((Blk.new w 25 [.bool b, .slice A 0 c]).alloc (.cells #[.bool false, .slice none 0 0] 25))
  have BR := Hd.mk (Blk.new (w.alloc (.cells #[.bool b, .slice A 0 c] 25)) 25 [.bool false, .slice none 0 0])
  rw [World.size_alloc] at BR
  have HB : Hd (Below w.heap.size w ((w.alloc (.cells #[.bool b, .slice A 0 c] 25)).alloc (.cells #[.bool false, .slice none 0 0] 25))) := ⟨((Below.refl _ w).alloc (Nat.le_refl _) _).alloc (by simp) _⟩
  go_enter Tryd.func19, Tryd.ntmps19
  go_wp2_with (refine wpList_store_row rfl 25 (.tmp 2) (.tmp 20) rfl (w.heap.size + 1) #[.bool false, .slice none 0 0] rfl rfl 25 _ BR.out (info_path.trans (by simp)) (by simp) (by simp [Value.oneCell']) ?_)
  refine bodyPost_ret (results_cell_slots2 rfl _ _ (w.heap.size + 1) _ _ _ rfl rfl rfl (load_row (BR.out.putRow [.bool false, .slice none 0 0]) Tryd.underlying25 rfl info_path)) rfl ?_
  exact ⟨none, 0, rfl, Nat.le_refl _, Rc.nil _ _, below_row HB.out (by omega) _⟩
set_option maxHeartbeats 4000000 in
theorem last_up (b : Bool) (bk off k n c : Nat) (z : ByteArray) (w : World) (hz : w.cell? ⟨bk, off + k, none⟩ = some (.string z)) (hn : n = k + 1) (hk : k ≤ 140737488351232) (hup : (z.toList == [46, 46]) = true) :
    Calls Tryd.prog 19 #[.agg #[.bool b, .slice (some ⟨bk, off, none⟩) n c]] w fun e w' => RetL false [] ⟨#[]⟩ 11 w e w' := by
  have BP := Hd.mk ((Blk.new w 25 [.bool b, .slice (some ⟨bk, off, none⟩) n c]).alloc (.cells #[.bool false, .slice none 0 0] 25))
  have BR := Hd.mk (Blk.new (w.alloc (.cells #[.bool b, .slice (some ⟨bk, off, none⟩) n c] 25)) 25 [.bool false, .slice none 0 0])
  rw [World.size_alloc] at BR
  have HB : Hd (Below w.heap.size w ((w.alloc (.cells #[.bool b, .slice (some ⟨bk, off, none⟩) n c] 25)).alloc (.cells #[.bool false, .slice none 0 0] 25))) := ⟨((Below.refl _ w).alloc (Nat.le_refl _) _).alloc (by simp) _⟩
  have hzb : bk < w.heap.size := World.block_lt_of_cell? w _ hz
  have hz2 := (HB.out.cell hzb).trans hz
  have en : (n : Int) - 1 = (k : Int) := by omega
  have i1 : (k : Int) < (n : Int) := by omega
  clear hn hz
  go_enter Tryd.func19, Tryd.ntmps19
  go_wp2_with (refine wpList_store_row rfl 25 (.tmp 2) (.tmp 20) rfl (w.heap.size + 1) #[.bool false, .slice none 0 0] rfl rfl 25 _ BR.out (info_path.trans (by simp)) (by simp) (by simp [Value.oneCell']) ?_)
  refine bodyPost_ret (results_cell_slots2 rfl _ _ (w.heap.size + 1) _ _ _ rfl rfl rfl (load_row (BR.out.putRow [.bool false, .slice none 0 0]) Tryd.underlying25 rfl info_path)) rfl ?_
  exact ⟨none, 0, rfl, Nat.le_refl _, Rc.nil _ _, below_row HB.out (by omega) _⟩
/-- what path.Last's last region yields, operation by operation -/
def LV (b : Bool) (bk off k n c p : Nat) (z : ByteArray) (zs : List ByteArray) (j : Nat) (w : World) (v : Value) : Prop :=
  match j with
  | 0 => v = .pointer (some ⟨p, 0, none⟩)
  | 1 => v = .bool b
  | 2 => v = .pointer (some ⟨p, 1, none⟩)
  | 3 => v = .slice (some ⟨bk, off, none⟩) n c
  | 4 => v = .int .i64 k
  | 5 => v = .slice (some ⟨bk, off, none⟩) k c
  | 6 => FreshR (p + 2) k (svs zs) w v
  | 7 => ∃ u, v = .agg #[.bool b, u] ∧ FreshR (p + 2) k (svs zs) w u
  | 8 => v = .pointer (some ⟨p, 1, none⟩)
  | 9 => v = .slice (some ⟨bk, off, none⟩) n c
  | 10 => v = .int .i64 k
  | 11 => v = .pointer (some ⟨bk, off + k, none⟩)
  | 12 => v = .string z
  | 13 => ∃ u, Blk w (p + 1) 25 [.bool b, u] ∧ FreshR (p + 2) k (svs zs) w u
  | 14 => v = .string z
  | 15 => v = .int .i64 0
  | _ => True
def LR (p i : Nat) : World → World → Prop := KeepBut (if i = 13 then some (p + 1) else none)
theorem LV_stab {b : Bool} {bk off k n c p : Nat} {z : ByteArray} {zs : List ByteArray} (i j : Nat) (w w' : World) (v : Value) (hij : i ≠ j) (hR : LR p i w w') (h : LV b bk off k n c p z zs j w v) : LV b bk off k n c p z zs j w' v := by
  have ho : ∀ g, (if i = 13 then some (p + 1) else none) = some g → g < p + 2 := by
    intro g; split
    · intro e; injection e with e; omega
    · intro e; cases e
  rcases j with _ | _ | _ | _ | _ | _ | _ | _ | _ | _ | _ | _ | _ | _ | _ | _ | j <;> try exact h
  · exact hR.fresh h ho
  · obtain ⟨u, h1, h2⟩ := h
    exact ⟨u, h1, hR.fresh h2 ho⟩
  · obtain ⟨u, h1, h2⟩ := h
    exact ⟨u, hR.blk h1 (by rw [if_neg hij]; simp), hR.fresh h2 ho⟩
structure LG (b : Bool) (A : Option Addr) (n c : Nat) (w0 w : World) : Prop where
  bel : Below w0.heap.size w0 w
  size : w0.heap.size + 2 ≤ w.heap.size
  bp : Blk w w0.heap.size 25 [.bool b, .slice A n c]
  br : ∃ x y, Blk w (w0.heap.size + 1) 25 [x, y]
theorem LG.grow {b : Bool} {A : Option Addr} {n c : Nat} {w0 w w' : World} (h : LG b A n c w0 w) (k : Below w.heap.size w w') : LG b A n c w0 w' :=
  ⟨below_then h.bel h.bel.size k, Nat.le_trans h.size k.size, h.bp.below k h.bp.lt, by obtain ⟨x, y, hb⟩ := h.br; exact ⟨x, y, hb.below k hb.lt⟩⟩
def f0L (i : Nat) : Value := if i = 14 then .string ⟨#[]⟩ else if i = 15 then .int .i64 0 else undef
set_option maxHeartbeats 4000000 in
theorem last_go (b : Bool) (bk off k n c : Nat) (z : ByteArray) (zs : List ByteArray) (w : World) (hz : w.cell? ⟨bk, off + k, none⟩ = some (.string z)) (hr : Rc w (some ⟨bk, off, none⟩) (svs zs)) (hn : n = k + 1) (hc : n ≤ c) (hkz : k = zs.length) (hk : k ≤ 1000000) (hup : (z.toList == [46, 46]) = false) :
    Calls Tryd.prog 19 #[.agg #[.bool b, .slice (some ⟨bk, off, none⟩) n c]] w fun e w' => RetL b zs z 0 w e w' := by
  have HG : Hd (LG b (some ⟨bk, off, none⟩) n c w ((w.alloc (.cells #[.bool b, .slice (some ⟨bk, off, none⟩) n c] 25)).alloc (.cells #[.bool false, .slice none 0 0] 25))) := ⟨((Below.refl _ w).alloc (Nat.le_refl _) _).alloc (by simp) _, by simp,
    (Blk.new w 25 [.bool b, .slice (some ⟨bk, off, none⟩) n c]).alloc (.cells #[.bool false, .slice none 0 0] 25),
    _, _, by have := Blk.new (w.alloc (.cells #[.bool b, .slice (some ⟨bk, off, none⟩) n c] 25)) 25 [.bool false, .slice none 0 0]
             rw [World.size_alloc] at this; exact this⟩
  have hzb : bk < w.heap.size := World.block_lt_of_cell? w _ hz
  have hz2 := (HG.out.bel.cell hzb).trans hz
  have en : (n : Int) - 1 = (k : Int) := by omega
  have i1 : (k : Int) < (n : Int) := by omega
  have HZ := Hd.mk hz
  have HR := Hd.mk hr
  have HN := Hd.mk hn
  have HC := Hd.mk hc
  have HK := Hd.mk hkz
  clear hn hz hr hc hkz
  go_enter Tryd.func19, Tryd.ntmps19
  go_wp2_with (fail)
  clear hz2
  change Code.wp Tryd.prog _ _ _ ((w.alloc (.cells #[.bool b, .slice (some ⟨bk, off, none⟩) n c] 25)).alloc (.cells #[.bool false, .slice none 0 0] 25))
  generalize ((w.alloc (.cells #[.bool b, .slice (some ⟨bk, off, none⟩) n c] 25)).alloc (.cells #[.bool false, .slice none 0 0] 25)) = w0 at *
  refine region_fam (fun f => #[.agg #[.bool b, .slice (some ⟨bk, off, none⟩) n c], .pointer (some ⟨w.heap.size, 0, none⟩), .pointer (some ⟨w.heap.size + 1, 0, none⟩), f 14, f 15, .int .i64 k, .pointer (some ⟨w.heap.size, 1, none⟩), .slice (some ⟨bk, off, none⟩) n c, .int .i64 n, .int .i64 k, .int .i64 k, .bool (decide ((k : Int) < 0)), .bool (decide ((k : Int) < 0)), .pointer (some ⟨w.heap.size, 1, none⟩), .slice (some ⟨bk, off, none⟩) n c, .int .i64 k, .pointer (some ⟨bk, off + k, none⟩), .string z, .bool false, .bool (decide ((k : Int) < 0)), undef, f 0, f 1, f 2, f 3, f 4, f 5, f 6, f 7, f 8, f 9, f 10, f 11, f 12])
    (LV b bk off k n c w.heap.size z zs) (LG b (some ⟨bk, off, none⟩) n c w) (LR w.heap.size) (by kernel_rfl) (by kernel_rfl) f0L rfl (HG.out.grow (Below.refl _ _).drew) LV_stab ?put ?step ?fin
  case put =>
    intro i o ho f v
    rcases i with _ | _ | _ | _ | _ | _ | _ | _ | _ | _ | _ | _ | _ | _ | _ | _ | i
    all_goals first | (injection ho with ho; subst ho; rfl) | (cases ho)
  case step =>
    intro i o ho f w1 hG hp
    have hcb := hG.bp.cell (i := 0) rfl
    have hcs := hG.bp.cell (i := 1) rfl
    rcases i with _ | _ | _ | _ | _ | _ | _ | _ | _ | _ | _ | _ | _ | _ | _ | _ | i
    · injection ho with ho; subst ho
      refine wpOp_go rfl rfl ?_
      go_simp
      exact ⟨.refl _ _, rfl⟩
    · injection ho with ho; subst ho
      have h0 : f 0 = _ := hp ⟨0, .data⟩ (by simp) rfl
      refine wpOp_go rfl rfl ?_
      simp only [h0]
      go_simp
      exact ⟨.refl _ _, rfl⟩
    · injection ho with ho; subst ho
      refine wpOp_go rfl rfl ?_
      go_simp
      exact ⟨.refl _ _, rfl⟩
    · injection ho with ho; subst ho
      have h0 : f 2 = _ := hp ⟨2, .data⟩ (by simp) rfl
      refine wpOp_go rfl rfl ?_
      simp only [h0]
      go_simp
      exact ⟨.refl _ _, rfl⟩
    · injection ho with ho; subst ho
      refine wpOp_go rfl rfl ?_
      go_simp
      exact ⟨.refl _ _, rfl⟩
    · injection ho with ho; subst ho
      have h0 : f 3 = _ := hp ⟨3, .data⟩ (by simp) rfl
      have h1 : f 4 = _ := hp ⟨4, .data⟩ (by simp) rfl
      have hkc : (k : Int) ≤ (c : Int) := by have := HC.out; omega
      have hk0 : (0 : Int) ≤ (k : Int) := by omega
      refine wpOp_go rfl rfl ?_
      simp only [h0, h1]
      go_simp
      exact ⟨.refl _ _, rfl⟩
    · injection ho with ho; subst ho
      have h0 : f 5 = _ := hp ⟨5, .data⟩ (by simp) rfl
      have hBS := hG.bel
      refine wpOp_go rfl rfl ?_
      simp only [h0]
      go_simp
      refine (clone_any _ k c zs w1 (HR.out.below hBS) HK.out (by omega)).mono ?_
      rintro e w2 ⟨v, rfl, ho, hb2⟩
      exact ⟨hG.grow hb2, .of_below hb2 _, (FreshR.of_own ho rfl).mono hG.size⟩
    · injection ho with ho; subst ho
      have h0 : f 1 = _ := hp ⟨1, .data⟩ (by simp) rfl
      obtain ⟨A, c', h2, h3⟩ := hp ⟨6, .data⟩ (by simp) rfl
      change f 6 = _ at h2
      refine wpOp_go rfl rfl ?_
      simp only [h0, h2]
      go_simp
      exact ⟨.refl _ _, _, rfl, A, c', rfl, h3⟩
    · injection ho with ho; subst ho
      refine wpOp_go rfl rfl ?_
      go_simp
      exact ⟨.refl _ _, rfl⟩
    · injection ho with ho; subst ho
      have h0 : f 8 = _ := hp ⟨8, .data⟩ (by simp) rfl
      refine wpOp_go rfl rfl ?_
      simp only [h0]
      go_simp
      exact ⟨.refl _ _, rfl⟩
    · injection ho with ho; subst ho
      refine wpOp_go rfl rfl ?_
      go_simp
      exact ⟨.refl _ _, rfl⟩
    · injection ho with ho; subst ho
      have h0 : f 9 = _ := hp ⟨9, .data⟩ (by simp) rfl
      have h1 : f 10 = _ := hp ⟨10, .data⟩ (by simp) rfl
      have hk0 : (0 : Int) ≤ (k : Int) := by omega
      refine wpOp_go rfl rfl ?_
      simp only [h0, h1]
      go_simp
      exact ⟨.refl _ _, rfl⟩
    · injection ho with ho; subst ho
      have h0 : f 11 = _ := hp ⟨11, .data⟩ (by simp) rfl
      have hzc := (hG.bel.cell hzb).trans HZ.out
      refine wpOp_go rfl rfl ?_
      simp only [h0]
      go_simp
      exact ⟨.refl _ _, rfl⟩
    · injection ho with ho; subst ho
      obtain ⟨u, h0, h1⟩ := hp ⟨7, .data⟩ (by simp) rfl
      change f 7 = _ at h0
      obtain ⟨A, c', rfl, h3⟩ := h1
      obtain ⟨x, y, hbr⟩ := hG.br
      simp only [h0]
      refine wpOp_go rfl rfl (wp_store_row 25 (.tmp 2) (.tmp 28) rfl (w.heap.size + 1) #[.bool b, .slice A k c'] rfl rfl 25 _ hbr (info_path.trans (by simp)) (by simp) (by simp [Value.oneCell']) ?_)
      refine ⟨undef, rfl, ?_, ?_, ?_⟩
      · exact ⟨below_row hG.bel (by omega) _, by simp; exact hG.size, hG.bp.rowFar (by omega) _, _, _, hbr.putRow [.bool b, .slice A k c']⟩
      · exact KeepBut.row w1 _ _
      · exact ⟨.slice A k c', hbr.putRow [.bool b, .slice A k c'], (KeepBut.row w1 _ _).fresh ⟨A, c', rfl, h3⟩ (fun g e => by injection e with e; omega)⟩
    · injection ho with ho; subst ho
      have h0 : f 12 = _ := hp ⟨12, .data⟩ (by simp) rfl
      refine wpOp_go rfl rfl ?_
      simp only [h0]
      go_simp
      exact ⟨.refl _ _, rfl⟩
    · injection ho with ho; subst ho
      refine wpOp_go rfl rfl ?_
      go_simp
      exact ⟨.refl _ _, rfl⟩
    · cases ho
  case fin =>
    intro f w1 hG hV
    obtain ⟨u, hb, A, c', rfl, h1, h2, _⟩ := hV 13 (by simp)
    have h3 : f 14 = _ := hV 14 (by simp)
    have h4 : f 15 = _ := hV 15 (by simp)
    simp only [h3, h4]
    go_wp2_with (fail)
    have hk' := HK.out
    subst hk'
    refine bodyPost_ret (results_cell_slots2 rfl _ _ (w.heap.size + 1) _ _ _ rfl rfl rfl (load_row hb Tryd.underlying25 rfl info_path)) rfl ?_
    exact ⟨A, c', rfl, h1, h2, hG.bel⟩
end Go.Proofs.YtncagcbdgimpfaaDoor
