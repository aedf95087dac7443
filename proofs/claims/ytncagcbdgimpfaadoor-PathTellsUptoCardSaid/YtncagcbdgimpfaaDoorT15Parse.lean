/- Walks: a text as a path. -/
import Derived.Test.YtncagcbdgimpfaaDoorT15Seq
namespace Go.Proofs.YtncagcbdgimpfaaDoor
open Go.RowKit Go.Sac Go.Shelf
set_option linter.unusedVariables false
set_option linter.unusedSimpArgs false
attribute [local go_sem] Oper.semAt_some

/-- does a part count? may it be? -/
def keepP (p : List UInt8) : Bool := !p.isEmpty && !(p == [46])
def goodP (p : List UInt8) : Bool := p == [46, 46] || namedL p
def partsL (l : List UInt8) : List (List UInt8) := (splitL l).filter keepP
def okL (l : List UInt8) : Bool := !l.isEmpty && (decide (l.length ≤ 200) && (partsL l).all goodP)
def absL (l : List UInt8) : Bool := match l with | [] => false | c :: _ => c == 47
def kept (xs : List Str) : List ByteArray := (xs.filter fun x => keepP x.1.data.toList).map (·.1)
def svs (xs : List ByteArray) : List Value := xs.map Value.string
/-- A path, and an error. -/
def RetPE (abs : Bool) (xs : List ByteArray) (err : Int) (w : World) (e : Ending) (w' : World) : Prop :=
  ∃ A c, e = .returned (.tuple #[.agg #[.bool abs, .slice A xs.length c], .int .i64 err]) ∧ xs.length ≤ c ∧ Rc w' A (svs xs) ∧ Below w.heap.size w w'
theorem info_path : (Tryd.prog.info? 25).map (·.size) = some 2 := by kernel_rfl
theorem info_str : (Tryd.prog.info? 9).map (fun i => (i.zero, i.size, i.bytes)) = some (some (.string ByteArray.empty), 1, 16) := by kernel_rfl
theorem kept_no (xs : List Str) (x : Str) (h : keepP x.1.data.toList = false) : kept (xs ++ [x]) = kept xs := by unfold kept; simp [h]
theorem kept_yes (xs : List Str) (x : Str) (h : keepP x.1.data.toList = true) : kept (xs ++ [x]) = kept xs ++ [x.1] := by unfold kept; simp [h]
theorem kept_parts (xs : List Str) (l : List UInt8) (h : xs.map (·.1.data.toList) = splitL l) : (kept xs).map (·.data.toList) = partsL l := by
  unfold kept partsL
  rw [← h, List.filter_map, List.map_map]
  rfl
theorem kept_len (xs : List Str) : (kept xs).length ≤ xs.length := by unfold kept; rw [List.length_map]; exact List.length_filter_le _ _
/-- What the loop holds. -/
def ParI (n : Nat) (w : World) (ab : Bool) (pre : List Str) (W : World) : Prop :=
  (∃ v, Blk W (n + 2) 25 [.bool ab, v] ∧ W.ownsRow (n + 6) 9 1 v (kept pre).length (svs (kept pre))) ∧
  (Blk W n 25 [.bool false, .slice none 0 0] ∧ (Blk W (n + 1) 26 [.int .i64 0] ∧ (Below n w W ∧ (n + 6 ≤ W.heap.size ∧ ∀ x ∈ kept pre, goodP x.data.toList = true))))
def ParX (n : Nat) (w : World) (c : Code) (pre : List Str) (W : World) : Prop :=
  (c = .ret ∧ ∃ q x, pre = q ++ [x] ∧ keepP x.1.data.toList = true ∧ goodP x.1.data.toList = false) ∧
  (Blk W n 25 [.bool false, .slice none 0 0] ∧ (Blk W (n + 1) 26 [.int .i64 11] ∧ Below n w W))
theorem parI_stab (n : Nat) (w : World) (ab : Bool) (B : Nat) (hw : n ≤ w.heap.size) (hB : n ≤ B) (pre : List Str) : StabW (n + 3) (n + 6) B (ParI n w ab pre) := by
  have h1 : StabW (n + 3) (n + 6) B (fun W => ∃ v, Blk W (n + 2) 25 [.bool ab, v] ∧ W.ownsRow (n + 6) 9 1 v (kept pre).length (svs (kept pre))) := fun W W' row hs hg hr =>
    let ⟨v, a, b⟩ := hs
    ⟨v, StabW.block (Or.inl (by omega)) W W' row a hg hr, StabW.row (Or.inl (Nat.le_refl _)) W W' row b hg hr⟩
  have h2 : StabW (n + 3) (n + 6) B (fun W => n + 6 ≤ W.heap.size) := fun W W' row hs hg hr => Nat.le_trans hs hg.size
  exact h1.and ((StabW.block (Or.inl (by omega))).and ((StabW.block (Or.inl (by omega))).and ((StabW.below hw (by omega) hB).and (h2.and StabW.pure))))
theorem parX_stab (n : Nat) (w : World) (B : Nat) (hw : n ≤ w.heap.size) (hB : n ≤ B) (c : Code) (pre : List Str) : StabW (n + 3) (n + 6) B (ParX n w c pre) :=
  StabW.and StabW.pure ((StabW.block (Or.inl (by omega))).and ((StabW.block (Or.inl (by omega))).and (StabW.below hw (by omega) hB)))
theorem row_far {w : World} {base : Nat} {e : TypeId} {size n : Nat} {v : Value} {xs : List Value} (h : w.ownsRow base e size v n xs) {p : Addr} (hp : p.block < base) (u : Value) : (w.setCell p u).ownsRow base e size v n xs := by
  refine h.kept (row := some p.block) ⟨rfl, rfl, rfl, by simp, fun k _ hk => Below.heap_setCell w p u k (fun e => hk (by rw [e]))⟩ ?_
  cases hv : v.ownBlock with
  | none => exact Or.inl rfl
  | some q => right; intro e; injection e with e; have := h.lt q hv; omega
theorem parI_no {n : Nat} {w : World} {ab : Bool} {pre : List Str} {x : Str} {W : World} (h : ParI n w ab pre W) (hk : keepP x.1.data.toList = false) : ParI n w ab (pre ++ [x]) W := by
  unfold ParI at h ⊢; rw [kept_no _ _ hk]; exact h
/-- how a part's tests come out -/
theorem part_ways (x : ByteArray) : (x.toList.isEmpty = true ∧ keepP x.data.toList = false) ∨ (x.toList.isEmpty = false ∧ (x.toList == [46]) = true ∧ keepP x.data.toList = false) ∨
    (x.toList.isEmpty = false ∧ (x.toList == [46]) = false ∧ keepP x.data.toList = true ∧ (x.toList == [46, 46]) = true ∧ goodP x.data.toList = true) ∨
    (x.toList.isEmpty = false ∧ (x.toList == [46]) = false ∧ keepP x.data.toList = true ∧ (x.toList == [46, 46]) = false ∧ goodP x.data.toList = namedL x.data.toList) := by
  unfold keepP goodP
  rw [str_list]
  cases h1 : x.data.toList.isEmpty
  · cases h2 : x.data.toList == [46]
    · cases h3 : x.data.toList == [46, 46]
      · exact Or.inr (Or.inr (Or.inr ⟨rfl, rfl, rfl, rfl, rfl⟩))
      · exact Or.inr (Or.inr (Or.inl ⟨rfl, rfl, rfl, rfl, rfl⟩))
    · exact Or.inr (Or.inl ⟨rfl, rfl, rfl⟩)
  · exact Or.inl ⟨rfl, rfl⟩
set_option maxRecDepth 100000 in
set_option maxHeartbeats 4000000 in
theorem parse_core (s : ByteArray) (w : World) (h1 : 0 < s.size) (h2 : s.size ≤ 200) :
    Calls Tryd.prog 11 #[.string s] w fun e w' => ∃ xs : List ByteArray, (if okL s.data.toList then RetPE (absL s.data.toList) xs 0 w e w' ∧ xs.map (·.data.toList) = partsL s.data.toList else RetPE false [] 11 w e w') := by
  refine (callsIn_wide (n := 4)).1 ?_
  have f0 : s.toList.isEmpty = false := by rw [str_list]; simp; intro h; rw [← ByteArray.size_data, h] at h1; simp at h1
  have f1 : decide ((s.size : Int) > 200) = false := by simp; omega
  obtain ⟨ab, hab⟩ : ∃ ab, ((s[0].toNat : Int) == 47) = ab := ⟨_, rfl⟩
  have HAB : Hd (absL s.data.toList = ab) := ⟨by
    rw [← hab]
    have e : s.data.toList = s[0] :: s.data.toList.drop 1 := by rw [← toList_at s 0 h1, ← List.drop_eq_getElem_cons]; rfl
    rw [e]
    show (s[0] == 47) = _
    rw [Bool.eq_iff_iff, beq_iff_eq, beq_iff_eq]
    refine ⟨fun h => by rw [h]; rfl, fun h => UInt8.toNat_inj.1 (by show s[0].toNat = 47; omega)⟩⟩
  refine callsIn_of_wp_marks Tryd.func11 rfl trivial ?_ rfl
  simp only [Tryd.ntmps11, List.size_toArray, List.length_cons, List.length_nil, Nat.reduceAdd, Nat.reduceSub, Array.replicate_succ, Array.replicate_zero, List.push_toArray, List.append_toArray, List.nil_append, List.cons_append]
  gi_wp2
  try apply wpInW_scope
  gi_wp2
  apply wpIn_label
  gi_wp2_with (refine ⟨trivial, ?_⟩; gi_at_call 23; refine (callsIn_wide.2 (splitseq_calls _ _)).mono ?_; rintro e w' ⟨rfl, rfl⟩)
  have a0 : Blk (((w.alloc (.cells #[.bool false, .slice none 0 0] 25)).alloc (.cells #[.int .i64 0] 26)).alloc (.cells #[.bool ab, .slice none 0 0] 25)) w.heap.size 25 [.bool false, .slice none 0 0] := ((Blk.new w _ [.bool false, .slice none 0 0]).alloc _).alloc _
  have a1 : Blk (((w.alloc (.cells #[.bool false, .slice none 0 0] 25)).alloc (.cells #[.int .i64 0] 26)).alloc (.cells #[.bool ab, .slice none 0 0] 25)) (w.heap.size + 1) 26 [.int .i64 0] := by
    have := (Blk.new (w.alloc (.cells #[.bool false, .slice none 0 0] 25)) 26 [.int .i64 0]).alloc (.cells #[.bool ab, .slice none 0 0] 25)
    rw [World.size_alloc] at this; exact this
  have a2 : Blk (((w.alloc (.cells #[.bool false, .slice none 0 0] 25)).alloc (.cells #[.int .i64 0] 26)).alloc (.cells #[.bool ab, .slice none 0 0] 25)) (w.heap.size + 2) 25 [.bool ab, .slice none 0 0] := by
    have := (Blk.new ((w.alloc (.cells #[.bool false, .slice none 0 0] 25)).alloc (.cells #[.int .i64 0] 26)) 25 [.bool ab, .slice none 0 0])
    rw [World.size_alloc, World.size_alloc] at this; exact this
  have hBx : Below w.heap.size w (((w.alloc (.cells #[.bool false, .slice none 0 0] 25)).alloc (.cells #[.int .i64 0] 26)).alloc (.cells #[.bool ab, .slice none 0 0] 25)) := (((Below.refl _ w).alloc (Nat.le_refl _) _).alloc (by simp) _).alloc (by simp; omega) _
  obtain ⟨wx, hwx⟩ : ∃ wx, wx = (((w.alloc (.cells #[.bool false, .slice none 0 0] 25)).alloc (.cells #[.int .i64 0] 26)).alloc (.cells #[.bool ab, .slice none 0 0] 25)) := ⟨_, rfl⟩
  have hsx : wx.heap.size = w.heap.size + 3 := by rw [hwx]; simp
  rw [← hwx] at a0 a1 a2 hBx ⊢
  clear hwx
  have b0 := ((Boxed.new wx 9 (.string s)).alloc (.cells #[.string ⟨#[47]⟩] 9)).alloc (.cells #[.int .i64 0] 3)
  have b1 := (Boxed.new (wx.alloc (.cells #[.string s] 9)) 9 (.string ⟨#[47]⟩)).alloc (.cells #[.int .i64 0] 3)
  have b2 := Boxed.new ((wx.alloc (.cells #[.string s] 9)).alloc (.cells #[.string ⟨#[47]⟩] 9)) 3 (.int .i64 0)
  have A0 := ((a0.alloc (.cells #[.string s] 9)).alloc (.cells #[.string ⟨#[47]⟩] 9)).alloc (.cells #[.int .i64 0] 3)
  have A1 := ((a1.alloc (.cells #[.string s] 9)).alloc (.cells #[.string ⟨#[47]⟩] 9)).alloc (.cells #[.int .i64 0] 3)
  have A2 := ((a2.alloc (.cells #[.string s] 9)).alloc (.cells #[.string ⟨#[47]⟩] 9)).alloc (.cells #[.int .i64 0] 3)
  have hBl := ((hBx.alloc (by omega) (.cells #[.string s] 9)).alloc (by simp; omega) (.cells #[.string ⟨#[47]⟩] 9)).alloc (by simp; omega) (.cells #[.int .i64 0] 3)
  obtain ⟨wl, hwl⟩ : ∃ wl, wl = ((wx.alloc (.cells #[.string s] 9)).alloc (.cells #[.string ⟨#[47]⟩] 9)).alloc (.cells #[.int .i64 0] 3) := ⟨_, rfl⟩
  have hsl : wl.heap.size = w.heap.size + 6 := by rw [hwl]; simp; omega
  simp only [World.size_alloc, hsx] at b0 b1 b2 ⊢
  rw [← hwl] at b0 b1 b2 A0 A1 A2 hBl ⊢
  clear hwl a0 a1 a2 hBx
  refine range_state (n := 4) (P := Tryd.prog) (gf := 34) (lb := #[.pointer (some ⟨w.heap.size + 3 + 1, 0, none⟩), .pointer (some ⟨w.heap.size + 3, 0, none⟩), .pointer (some ⟨w.heap.size + 3 + 1 + 1, 0, none⟩)]) rfl (enters_of Tryd.func34 (by kernel_rfl) rfl) rfl (by decide)
    (seq_iter (w.heap.size + 3) s wl wx (by omega) hsx b0 b1 b2 w.heap.size (by omega)) (by omega) keepR_t (keepR_b (by omega) (by omega))
    (ParI w.heap.size w ab) (ParX w.heap.size w) (parI_stab _ _ _ _ (Nat.le_refl _) (by omega)) (parX_stab _ _ _ (Nat.le_refl _) (by omega))
    ⟨⟨_, A2, World.ownsRow_nil _ _ _ _⟩, A0, A1, hBl, by omega, by intro x hx; cases hx⟩
    (fun x => { tmps := #[.string s, undef, .pointer (some ⟨w.heap.size, 0, none⟩), .pointer (some ⟨w.heap.size + 1, 0, none⟩), .pointer (some ⟨w.heap.size + 1 + 1, 0, none⟩), .string x.1, .string s, .bool false, .bool false, .string s, .int .i64 s.size, .bool false, .bool false, undef, .string s, .int .u8 (s[0].toNat : Int), .bool ab, .agg #[.bool ab, .slice none 0 0], .string s, .func (.func 34) #[] #[.pointer (some ⟨w.heap.size + 3 + 1, 0, none⟩), .pointer (some ⟨w.heap.size + 3, 0, none⟩), .pointer (some ⟨w.heap.size + 3 + 1 + 1, 0, none⟩)], .string x.1, undef, undef, undef, undef, undef, undef, undef, undef, undef, undef, undef, undef, undef, undef, undef, undef, undef, undef, undef, undef, undef, undef], defers := [] }) ?assign ?body ?done ?stop
  case assign =>
    intro l x W K hK
    gi_wp2
    exact hK
  case body =>
    rintro l pre x W hI hlt
    have HI := Hd.mk hI
    obtain ⟨⟨v, hP, hrow⟩, h0, h1', hB, hz, hgood⟩ := hI
    have HG := Hd.mk hgood
    clear hgood
    have hkl := kept_len pre
    have g0 := h0.cell (i := 0) rfl
    have g1 := h0.cell (i := 1) rfl
    have gf0 := h0.frz 0
    have gf1 := h0.frz 1
    have g2 := h1'.cell (i := 0) rfl
    have gf2 := h1'.frz 0
    rcases part_ways x.1 with ⟨e1, k1⟩ | ⟨e1, e2, k1⟩ | ⟨e1, e2, k1, e3, k2⟩ | ⟨e1, e2, k1, e3, k2⟩
    · have HK := Hd.mk k1
      clear k1
      gi_wp2
      exact ⟨KeepsOthers.refl _, KeepR.refl _ _ _ _, parI_no HI.out HK.out⟩
    · have HK := Hd.mk k1
      clear k1
      gi_wp2
      exact ⟨KeepsOthers.refl _, KeepR.refl _ _ _ _, parI_no HI.out HK.out⟩
    · have HK := Hd.mk k1
      have HK2 := Hd.mk k2
      clear k1 k2
      have hc := hP.cell (i := 1) rfl
      have hf := hP.frz 1
      obtain ⟨A1, c1, hvf, _, _, _⟩ := own_rc hrow
      subst hvf
      gi_wp2
      refine ⟨trivial, ?_⟩
      gi_wp2_with (gi_at_builtin; refine app_in (w.heap.size + 6) 23 9 (.string ByteArray.empty) 1 16 (.tmp 37) (.tmp 39) rfl rfl Tryd.underlying23 info_str rfl (by decide) (by decide) (.slice A1 (kept pre).length c1) (kept pre).length (svs (kept pre)) [.string x.1] (some ⟨W.heap.size, 0, none⟩) 1 1 rfl rfl (own_alloc hrow _) (Rc.one _ _ _) (by simp) (by simp [Value.oneCell']) (by simp; omega) (by omega) ((kept pre).length + 1) (svs (kept pre) ++ [.string x.1]) rfl rfl ?_; intro v' w1 hown' hgrow hat; obtain ⟨hq1, hq2, hq3, hq4, hq5, hq6, hq7, hq8⟩ := blk_appended (n₀ := w.heap.size) (j := 1) hP (by omega) (by omega) hz hrow hown' hgrow; obtain ⟨g', cap', rfl⟩ := ownsRow_succ hown'; have hc1 := hq1.cell (i := 1) rfl; have hf1 := hq1.frz 1)
      refine ⟨hq4, ⟨hq5, fun b hb1 hb2 => hq7 b (by omega) (by omega)⟩, ?_⟩
      unfold ParI
      rw [kept_yes _ _ HK.out]
      refine ⟨⟨_, hq2, by simpa [svs] using hq3⟩, hq6 _ _ _ (by omega) (by omega) h0, hq6 _ _ _ (by omega) (by omega) h1', hB.trans hq5, Nat.le_trans hz hq8, ?_⟩
      intro y hy
      rcases List.mem_append.1 hy with hy | hy
      · exact HG.out y hy
      · simp at hy; subst hy; exact HK2.out
    · cases hnm : namedL x.1.data.toList
      · have HK := Hd.mk k1
        have HK2 : Hd (goodP x.1.data.toList = false) := ⟨by rw [k2, hnm]⟩
        have HNM := Hd.mk hnm
        clear k1 k2 hnm
        gi_wp2_with (refine ⟨trivial, ?_⟩; gi_at_call 24; refine (CallsIn.inRound l (callsIn_wide.2 (named_calls _ _ x.2))).mono ?_; rintro e w2 ⟨rfl, hb2⟩; rw [HNM.out]; have g0 := (h0.below hb2 h0.lt).cell (i := 0) rfl; have g1 := (h0.below hb2 h0.lt).cell (i := 1) rfl; have gf0 := (h0.below hb2 h0.lt).frz 0; have gf1 := (h0.below hb2 h0.lt).frz 1; have g2 := (h1'.below hb2 h1'.lt).cell (i := 0) rfl; have gf2 := (h1'.below hb2 h1'.lt).frz 0)
        have hB2 := hb2.mono hB.size
        have hh0 := (((h0.below hb2 h0.lt).set 0 (.bool false)).set 1 (.slice none 0 0)).far (p := ⟨w.heap.size + 1, 0, none⟩) (show w.heap.size ≠ w.heap.size + 1 by omega) (.int .i64 11)
        have hh1 := (((h1'.below hb2 h1'.lt).far (p := ⟨w.heap.size, 0, none⟩) (show w.heap.size + 1 ≠ w.heap.size by omega) (.bool false)).far (p := ⟨w.heap.size, 1, none⟩) (show w.heap.size + 1 ≠ w.heap.size by omega) (.slice none 0 0)).set 0 (.int .i64 11)
        refine ⟨(((KeepsOthers.of_below hb2).trans (KeepsOthers.setCell _ _ _)).trans (KeepsOthers.setCell _ _ _)).trans (KeepsOthers.setCell _ _ _), ⟨rfl, pre, x, rfl, HK.out, HK2.out⟩, hh0, hh1, ?_⟩
        exact (((hB.trans hB2).setCell (p := ⟨w.heap.size, 0, none⟩) (Nat.le_refl _) _).setCell (p := ⟨w.heap.size, 1, none⟩) (Nat.le_refl _) _).setCell (p := ⟨w.heap.size + 1, 0, none⟩) (by show w.heap.size ≤ w.heap.size + 1; omega) _
      · have HK := Hd.mk k1
        have HK2 : Hd (goodP x.1.data.toList = true) := ⟨by rw [k2, hnm]⟩
        have HNM := Hd.mk hnm
        clear k1 k2 hnm
        have hKO : KeepsOthers W W := KeepsOthers.refl _
        obtain ⟨A1, c1, hvf, _, _, _⟩ := own_rc hrow
        subst hvf
        gi_wp2_with (first
          | (refine ⟨trivial, ?_⟩; gi_at_call 24; refine (CallsIn.inRound l (callsIn_wide.2 (named_calls _ _ x.2))).mono ?_; rintro e w2 ⟨rfl, hb2⟩; rw [HNM.out]; have hP := hP.below hb2 hP.lt; have hrow := own_below hrow hb2; have hz := Nat.le_trans hz hb2.size; have h0 := h0.below hb2 h0.lt; have h1' := h1'.below hb2 h1'.lt; have hc := hP.cell (i := 1) rfl; have hf := hP.frz 1)
          | (gi_at_builtin; refine app_in (w.heap.size + 6) 23 9 (.string ByteArray.empty) 1 16 (.tmp 37) (.tmp 39) rfl rfl Tryd.underlying23 info_str rfl (by decide) (by decide) (.slice A1 (kept pre).length c1) (kept pre).length (svs (kept pre)) [.string x.1] (some ⟨w2.heap.size, 0, none⟩) 1 1 rfl rfl (own_alloc hrow _) (Rc.one _ _ _) (by simp) (by simp [Value.oneCell']) (by simp; omega) (by omega) ((kept pre).length + 1) (svs (kept pre) ++ [.string x.1]) rfl rfl ?_; intro v' w1 hown' hgrow hat; obtain ⟨hq1, hq2, hq3, hq4, hq5, hq6, hq7, hq8⟩ := blk_appended (n₀ := w.heap.size) (j := 1) hP (by omega) (by omega) hz hrow hown' hgrow; obtain ⟨g', cap', rfl⟩ := ownsRow_succ hown'; have hc1 := hq1.cell (i := 1) rfl; have hf1 := hq1.frz 1))
        have hB2 := hb2.mono hB.size
        have hz0 : w.heap.size + 6 ≤ W.heap.size := by assumption
        refine ⟨(KeepsOthers.of_below hb2).trans hq4, ⟨hB2.trans hq5, fun b hb1 hb3 => (hq7 b (by omega) (by omega)).trans (hb2.block b (by omega))⟩, ?_⟩
        unfold ParI
        rw [kept_yes _ _ HK.out]
        refine ⟨⟨_, hq2, by simpa [svs] using hq3⟩, hq6 _ _ _ (by omega) (by omega) h0, hq6 _ _ _ (by omega) (by omega) h1', (hB.trans hB2).trans hq5, Nat.le_trans hz hq8, ?_⟩
        intro y hy
        rcases List.mem_append.1 hy with hy | hy
        · exact HG.out y hy
        · simp at hy; subst hy; exact HK2.out
  case done =>
    rintro D ys W hD hys hI hK
    have HI := Hd.mk hI
    obtain ⟨⟨v, hP, hrow⟩, h0, h1', hB, hz, hgood⟩ := hI
    have hc0 := hP.cell (i := 0) rfl
    have hc1 := hP.cell (i := 1) rfl
    have g0 := h0.cell (i := 0) rfl
    have g1 := h0.cell (i := 1) rfl
    have gf0 := h0.frz 0
    have gf1 := h0.frz 1
    have g2 := h1'.cell (i := 0) rfl
    have gf2 := h1'.frz 0
    have HYS := Hd.mk hys
    have HG := Hd.mk hgood
    clear hys hgood
    obtain ⟨A1, c1, hvf, hle, hR, _⟩ := own_rc hrow
    subst hvf
    gi_wp2
    have K0 := (((h0.set 0 (.bool ab)).set 1 (.slice A1 (kept ys).length c1)).far (p := ⟨w.heap.size + 1, 0, none⟩) (show w.heap.size ≠ w.heap.size + 1 by omega) (.int .i64 0))
    have K1 := (((h1'.far (p := ⟨w.heap.size, 0, none⟩) (show w.heap.size + 1 ≠ w.heap.size by omega) (.bool ab)).far (p := ⟨w.heap.size, 1, none⟩) (show w.heap.size + 1 ≠ w.heap.size by omega) (.slice A1 (kept ys).length c1)).set 0 (.int .i64 0))
    have hB3 := ((hB.setCell (p := ⟨w.heap.size, 0, none⟩) (Nat.le_refl _) (.bool ab)).setCell (p := ⟨w.heap.size, 1, none⟩) (Nat.le_refl _) (.slice A1 (kept ys).length c1)).setCell (p := ⟨w.heap.size + 1, 0, none⟩) (by show w.heap.size ≤ w.heap.size + 1; omega) (.int .i64 0)
    have hrow3 : (((W.setCell ⟨w.heap.size, 0, none⟩ (.bool ab)).setCell ⟨w.heap.size, 1, none⟩ (.slice A1 (kept ys).length c1)).setCell ⟨w.heap.size + 1, 0, none⟩ (.int .i64 0)).ownsRow (w.heap.size + 6) 9 1 (.slice A1 (kept ys).length c1) (kept ys).length (svs (kept ys)) :=
      row_far (row_far (row_far hrow (by show w.heap.size < w.heap.size + 6; omega) _) (by show w.heap.size < w.heap.size + 6; omega) _) (by show w.heap.size + 1 < w.heap.size + 6; omega) _
    have hK3 : (((W.setCell ⟨w.heap.size, 0, none⟩ (.bool ab)).setCell ⟨w.heap.size, 1, none⟩ (.slice A1 (kept ys).length c1)).setCell ⟨w.heap.size + 1, 0, none⟩ (.int .i64 0)).heap[D]? = some (.deferred (some [])) :=
      (((KeepsOthers.setCell W _ _).trans (KeepsOthers.setCell _ _ _)).trans (KeepsOthers.setCell _ _ _)).same D _ hK rfl
    generalize (((W.setCell ⟨w.heap.size, 0, none⟩ (.bool ab)).setCell ⟨w.heap.size, 1, none⟩ (.slice A1 (kept ys).length c1)).setCell ⟨w.heap.size + 1, 0, none⟩ (.int .i64 0)) = W3 at *
    have K0' : Blk (W3.putObj D (.deferred none)) w.heap.size 25 [.bool ab, .slice A1 (kept ys).length c1] := (World.putObj_heap_other (by omega)).trans K0
    have K1' : Blk (W3.putObj D (.deferred none)) (w.heap.size + 1) 26 [.int .i64 0] := (World.putObj_heap_other (by omega)).trans K1
    have hrow4 := ownsRow_putObj hrow3 (.deferred none) hK3 rfl
    obtain ⟨A2, c2, hvf2, hle2, hR2, _⟩ := own_rc hrow4
    injection hvf2 with q1 q2 q3
    subst q1; subst q3
    have hBB := hB3.trans (belowK_b (w := w) (Nat.le_refl _) W3 D _ (.deferred none) (by omega) hK3 rfl rfl)
    refine ⟨by simp, .inl ⟨_, _, rfl, run_takeDeferred hK3, ?_⟩⟩
    have hok : okL s.data.toList = true := by
      unfold okL
      have hp : (partsL s.data.toList).all goodP = true := by
        rw [← kept_parts ys _ HYS.out, List.all_map, List.all_eq_true]
        exact fun y hy => HG.out y hy
      rw [hp, ← str_list, f0, str_list]
      simp; omega
    refine ⟨_, results_cells2 rfl _ _ w.heap.size (w.heap.size + 1) _ _ rfl rfl (load_row K0' Tryd.underlying25 rfl info_path) (load_one K1' Tryd.isAgg26), kept ys, ?_⟩
    rw [if_pos hok]
    refine ⟨⟨A1, c1, ?_, hle2, hR2, hBB⟩, kept_parts ys _ HYS.out⟩
    rw [HAB.out]
  case stop =>
    rintro D c pre W hD hpre hX hK
    obtain ⟨⟨rfl, q, x, rfl, hk, hg⟩, h0, h1', hB⟩ := hX
    have HPR := Hd.mk hpre
    clear hpre
    gi_wp2
    have K0' : Blk (W.putObj D (.deferred none)) w.heap.size 25 [.bool false, .slice none 0 0] := (World.putObj_heap_other (by omega)).trans h0
    have K1' : Blk (W.putObj D (.deferred none)) (w.heap.size + 1) 26 [.int .i64 11] := (World.putObj_heap_other (by omega)).trans h1'
    have hBB := hB.trans (belowK_b (w := w) (Nat.le_refl _) W D _ (.deferred none) (by omega) hK rfl rfl)
    refine ⟨by simp, .inl ⟨_, _, rfl, run_takeDeferred hK, ?_⟩⟩
    have hok : ¬ okL s.data.toList = true := by
      unfold okL
      obtain ⟨r, hr⟩ := HPR.out
      have hin : x.1.data.toList ∈ partsL s.data.toList := by
        unfold partsL
        rw [List.mem_filter]
        exact ⟨by rw [← hr]; simp, hk⟩
      intro h
      simp only [Bool.and_eq_true] at h
      have := List.all_eq_true.1 h.2.2 _ hin
      rw [hg] at this; cases this
    refine ⟨_, results_cells2 rfl _ _ w.heap.size (w.heap.size + 1) _ _ rfl rfl (load_row K0' Tryd.underlying25 rfl info_path) (load_one K1' Tryd.isAgg26), [], ?_⟩
    rw [if_neg hok]
    exact ⟨none, 0, rfl, Nat.le_refl _, Rc.nil _ _, hBB⟩
/-- what a text is as a path -/
def mkS (p : List UInt8) : ByteArray := ⟨p.toArray⟩
def namesL (l : List UInt8) : List ByteArray := if okL l = true then (partsL l).map mkS else []
def absR (l : List UInt8) : Bool := okL l && absL l
def errR (l : List UInt8) : Int := if okL l = true then 0 else 11
theorem mkS_list (x : ByteArray) : mkS x.data.toList = x := rfl
theorem names_of {xs : List ByteArray} {l : List UInt8} (hok : okL l = true) (h : xs.map (·.data.toList) = partsL l) : xs = namesL l := by
  unfold namesL
  rw [if_pos hok, ← h, List.map_map]
  conv => lhs; rw [← List.map_id xs]
  rfl
theorem ok_empty (s : ByteArray) (h : s.size = 0) : okL s.data.toList = false ∧ s.toList.isEmpty = true := by
  have e : s.data.toList = [] := List.eq_nil_of_length_eq_zero (by simpa using h)
  rw [str_list, e]
  exact ⟨rfl, rfl⟩
theorem ok_long (s : ByteArray) (h : 200 < s.size) : okL s.data.toList = false ∧ s.toList.isEmpty = false := by
  have hl : s.data.toList.length = s.size := by simp
  have e : s.data.toList ≠ [] := by intro e; rw [e] at hl; simp at hl; omega
  rw [str_list]
  refine ⟨?_, by simpa using e⟩
  unfold okL
  rw [hl]
  have : decide (s.size ≤ 200) = false := by simp; omega
  rw [this]; simp
set_option maxHeartbeats 2000000 in
theorem parse_no (s : ByteArray) (w : World) (h : s.toList.isEmpty = true ∨ (s.toList.isEmpty = false ∧ decide ((s.size : Int) > 200) = true)) : Calls Tryd.prog 11 #[.string s] w fun e w' => RetPE false [] 11 w e w' := by
  refine (callsIn_wide (n := 4)).1 ?_
  rcases h with f0 | ⟨f0, f1⟩
  all_goals
    refine callsIn_of_wp_marks Tryd.func11 rfl trivial ?_ rfl
    simp only [Tryd.ntmps11, List.size_toArray, List.length_cons, List.length_nil, Nat.reduceAdd, Nat.reduceSub, Array.replicate_succ, Array.replicate_zero, List.push_toArray, List.append_toArray, List.nil_append, List.cons_append]
    gi_wp2
    try apply wpInW_scope
    gi_wp2
    have K1 := Blk.new (w.alloc (.cells #[.bool false, .slice none 0 0] 25)) 26 [.int .i64 11]
    rw [World.size_alloc] at K1
    exact ⟨_, results_cells2 rfl _ _ w.heap.size (w.heap.size + 1) _ _ rfl rfl (load_row ((Blk.new w 25 [.bool false, .slice none 0 0]).alloc _) Tryd.underlying25 rfl info_path) (load_one K1 Tryd.isAgg26), none, 0, rfl, Nat.le_refl _, Rc.nil _ _, ((Below.refl _ w).alloc (Nat.le_refl _) _).alloc (by simp) _⟩
set_option maxHeartbeats 2000000 in
theorem parse_calls (s : ByteArray) (w : World) (hs : s.size ≤ 140737488351232) :
    Calls Tryd.prog 11 #[.string s] w fun e w' => RetPE (absR s.data.toList) (namesL s.data.toList) (errR s.data.toList) w e w' := by
  by_cases h1 : 0 < s.size
  · by_cases h2 : s.size ≤ 200
    · refine (parse_core s w h1 h2).mono ?_
      rintro e w' ⟨xs, h⟩
      split at h
      · rename_i hok
        rw [← names_of hok h.2, errR, if_pos hok, absR, hok]
        exact h.1
      · rename_i hok
        rw [errR, if_neg hok, namesL, if_neg hok, absR, show okL s.data.toList = false by simpa using hok]
        exact h
    · obtain ⟨hok, f0⟩ := ok_long s (by omega)
      have f1 : decide ((s.size : Int) > 200) = true := by simp; omega
      rw [errR, namesL, absR, hok]
      exact parse_no s w (Or.inr ⟨f0, f1⟩)
  · obtain ⟨hok, f0⟩ := ok_empty s (by omega)
    rw [errR, namesL, absR, hok]
    exact parse_no s w (Or.inl f0)
end Go.Proofs.YtncagcbdgimpfaaDoor
