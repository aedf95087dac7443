/- Walks: what the chapter's example fixes; the law PathParses. -/
import Derived.Test.YtncagcbdgimpfaaDoorT15Print
namespace Go.Proofs.YtncagcbdgimpfaaDoor
open Go.RowKit Go.Sac Go.Shelf
set_option linter.unusedVariables false
set_option linter.unusedSimpArgs false

def exS : ByteArray := ⟨#[47, 97, 47, 47, 46, 47, 98, 47]⟩
theorem ex_ok : okL exS.data.toList = true := by decide +kernel
theorem ex_abs : absR exS.data.toList = true := by decide +kernel
theorem ex_err : errR exS.data.toList = 0 := by decide +kernel
theorem ex_names : namesL exS.data.toList = [mkS [97], mkS [98]] := by decide +kernel
theorem ex_print : printL true [mkS [97], mkS [98]] = [47, 97, 47, 98] := by decide +kernel
theorem em_names : namesL (ByteArray.mk #[]).data.toList = [] := by decide +kernel
theorem em_abs : absR (ByteArray.mk #[]).data.toList = false := by decide +kernel
theorem em_err : errR (ByteArray.mk #[]).data.toList = 11 := by decide +kernel
set_option maxHeartbeats 4000000 in
theorem known_calls (w : World) : Calls Tryd.prog 10 #[] w (RetT w) := by
  have S1 : Hd True := ⟨trivial⟩
  go_enter Tryd.func10, Tryd.ntmps10
  go_wp2_with (first
    | (go_at_call 11; clear S1; refine (parse_calls exS _ (by decide)).mono ?_; rintro e w1 ⟨A, c, rfl, hc, hr, hb⟩; rw [ex_abs, ex_err, ex_names] at *; have HR := Hd.mk hr; have HB := Hd.mk hb; clear hr hb)
    | (go_at_call 11; refine (parse_calls ⟨#[]⟩ _ (by decide)).mono ?_; rintro e w2 ⟨A2, c2, rfl, hc2, hr2, hb2⟩; rw [em_abs, em_err, em_names] at *; have B1 := Hd.mk ((Blk.new w1 25 [.bool true, .slice A 2 c]).below hb2 (by simp)); have HR2 := Hd.mk ((HR.out.below ((Below.refl _ w1).alloc (Nat.le_refl _) _)).below hb2); have HB2 := Hd.mk (below_then (HB.out.alloc HB.out.size (.cells #[.bool true, .slice A 2 c] 25)) (HB.out.alloc HB.out.size _).size hb2); clear HR HB hr2 hb2; have B2 := Hd.mk (B1.out.alloc (.cells #[.bool false, .slice A2 0 c2] 25)); have k0 := B2.out.cell (i := 0) rfl; have k1 := B2.out.cell (i := 1) rfl)
    | (go_at_call 13; clear k0 k1
       have HR3 := Hd.mk (((HR2.out.below ((Below.refl _ w2).alloc (Nat.le_refl _) (.cells #[.bool false, .slice A2 0 c2] 25)))).below ((Below.refl _ _).alloc (Nat.le_refl _) (.cells #[.string ⟨#[97]⟩, .string ⟨#[98]⟩] 9)))
       have B3 := Hd.mk (B2.out.alloc (.cells #[.string ⟨#[97]⟩, .string ⟨#[98]⟩] 9))
       have HN := Hd.mk (Blk.new (w2.alloc (.cells #[.bool false, .slice A2 0 c2] 25)) 9 [.string ⟨#[97]⟩, .string ⟨#[98]⟩]).rc
       rw [World.size_alloc] at HN
       clear HR2 B1 B2
       refine (rsame_calls true true _ _ 2 _ 2 _ [mkS [97], mkS [98]] [mkS [97], mkS [98]] _ HR3.out HN.out rfl rfl (by decide) (by decide)).mono ?_
       rintro e w3 ⟨rfl, hb3⟩
       rw [eqP_yes ⟨rfl, rfl⟩]
       have B4 := B3.out.below hb3 B3.out.lt
       have HR4 := Hd.mk (HR3.out.below hb3)
       have HB3 := Hd.mk (below_then ((HB2.out.alloc HB2.out.size (.cells #[.bool false, .slice A2 0 c2] 25)).alloc (HB2.out.alloc HB2.out.size _).size (.cells #[.string ⟨#[97]⟩, .string ⟨#[98]⟩] 9)) ((HB2.out.alloc HB2.out.size _).alloc (HB2.out.alloc HB2.out.size _).size _).size hb3)
       have j0 := B4.cell (i := 0) rfl
       have j1 := B4.cell (i := 1) rfl
       clear hb3 B4 B3 HR3 HN HB2)
    | (go_at_call 16
       refine (print_calls true _ 2 _ [mkS [97], mkS [98]] _ HR4.out rfl (by assumption) (by decide) (by decide +kernel)).mono ?_
       rintro e w4 ⟨rfl, hb4⟩
       rw [ex_print]))
  go_ret
  have e0 : ((mkS [47, 97, 47, 98]).toList == [47, 97, 47, 98]) = true := by decide +kernel
  show RetT w (.returned (.bool ((mkS [47, 97, 47, 98]).toList == [47, 97, 47, 98]))) w4
  rw [e0]
  exact ⟨rfl, below_then HB3.out HB3.out.size hb4⟩
theorem law_parses_big (s : ByteArray) (w : World) (h : decide ((s.size : Int) > 400) = true) : Calls Tryd.prog 3 #[.string s] w (RetT w) := by
  go_enter Tryd.func3, Tryd.ntmps3
  go_wp2_with (go_at_call 10; refine (known_calls _).mono ?_; rintro e w1 ⟨rfl, hb1⟩)
  go_ret
  exact ⟨rfl, hb1⟩
/-- the texts' bytes, and one more for each -/
def totP (xs : List (List UInt8)) : Nat := (xs.map fun p => p.length + 1).sum
theorem tot_split (l : List UInt8) : totP (splitL l) = l.length + 1 := by
  induction l with
  | nil => rfl
  | cons c l ih =>
    rw [splitL]
    split
    · simp only [totP, List.map_cons, List.sum_cons, List.length_nil, List.length_cons] at ih ⊢; omega
    · rcases hs : splitL l with _ | ⟨p, r⟩
      · rw [hs] at ih; simp [totP] at ih
      · rw [hs] at ih; simp only [totP, List.map_cons, List.sum_cons, List.length_cons] at ih ⊢; omega
theorem tot_filter (f : List UInt8 → Bool) (xs : List (List UInt8)) : totP (xs.filter f) ≤ totP xs := by
  induction xs with
  | nil => exact Nat.le_refl _
  | cons x r ih =>
    rw [List.filter_cons]
    split
    · simp only [totP, List.map_cons, List.sum_cons] at ih ⊢; omega
    · simp only [totP, List.map_cons, List.sum_cons] at ih ⊢; omega
theorem tot_len (xs : List (List UInt8)) : xs.length ≤ totP xs := by
  induction xs with
  | nil => exact Nat.le_refl _
  | cons x r ih => simp only [totP, List.map_cons, List.sum_cons, List.length_cons] at ih ⊢; omega
theorem tot_join (xs : List ByteArray) : (joinL xs).length ≤ totP (xs.map (·.data.toList)) := by
  rcases xs with _ | ⟨x, r⟩
  · simp [joinL, Lib.join_nil]
  · unfold joinL
    rw [List.map_cons, Lib.join_cons]
    have : ∀ r : List ByteArray, ((Lib.joinTail [47] (r.map (·.data.toList)))).length ≤ totP (r.map (·.data.toList)) := by
      intro r
      induction r with
      | nil => exact Nat.le_refl _
      | cons y r ih => simp only [totP, Lib.joinTail, List.map_cons, List.sum_cons, List.flatten_cons, List.length_append, List.length_cons, List.length_nil] at ih ⊢; omega
    have h := this r
    simp only [totP, List.map_cons, List.sum_cons, List.length_append] at h ⊢
    omega
theorem names_tot (l : List UInt8) : totP ((namesL l).map (·.data.toList)) ≤ 201 := by
  unfold namesL
  split
  · rename_i h
    rw [List.map_map, show (fun (x : ByteArray) => x.data.toList) ∘ mkS = id from by funext m; simp [mkS], List.map_id]
    have h1 := tot_filter keepP (splitL l)
    rw [tot_split] at h1
    have h2 : l.length ≤ 200 := by
      unfold okL at h
      simp at h
      exact h.2.1
    unfold partsL
    omega
  · simp [totP]
theorem names_le (l : List UInt8) : (namesL l).length ≤ 201 := by
  have h1 := tot_len ((namesL l).map (·.data.toList))
  have h2 := names_tot l
  rw [List.length_map] at h1
  omega
theorem names_join (l : List UInt8) : (joinL (namesL l)).length ≤ 201 := by
  have h1 := tot_join (namesL l)
  have h2 := names_tot l
  omega
set_option maxHeartbeats 4000000 in
theorem law_parses_small (s : ByteArray) (w : World) (h : decide ((s.size : Int) > 400) = false) (hs : s.size ≤ 400) : Calls Tryd.prog 3 #[.string s] w (RetT w) := by
  obtain ⟨B, hB⟩ : ∃ B, absR s.data.toList = B := ⟨_, rfl⟩
  obtain ⟨E, hE⟩ : ∃ E, errR s.data.toList = E := ⟨_, rfl⟩
  obtain ⟨X, hX⟩ : ∃ X, namesL s.data.toList = X := ⟨_, rfl⟩
  have hXl : Hd (X.length ≤ 140737488351232) := ⟨by rw [← hX]; have := names_le s.data.toList; omega⟩
  have P1 := fun w => parse_calls s w (by omega)
  have P2 := fun w => rparse_calls s w (by omega)
  rw [hB, hE, hX] at P1 P2
  replace P1 := Hd.mk P1
  replace P2 := Hd.mk P2
  clear hB hE hX
  go_enter Tryd.func3, Tryd.ntmps3
  go_wp2_with (first
    | (go_at_call 11; refine (P1.out _).mono ?_; rintro e w1 ⟨A, c, rfl, hc, hr, hb⟩; have HR := Hd.mk hr; have HB := Hd.mk hb; have HC := Hd.mk hc; clear hr hb hc)
    | (go_at_call 12; refine (P2.out _).mono ?_; rintro e w2 ⟨A2, c2, rfl, hc2, hr2, hb2⟩
       have HC2 := Hd.mk hc2
       have B1 := Hd.mk (((Blk.new w1 25 [.bool B, .slice A X.length c]).below hb2 (by simp)).alloc (.cells #[.bool B, .slice A2 X.length c2] 25))
       have B2 := Hd.mk (Blk.new w2 25 [.bool B, .slice A2 X.length c2])
       have HR1 := Hd.mk ((((HR.out.below ((Below.refl _ w1).alloc (Nat.le_refl _) _)).below hb2)).below ((Below.refl _ w2).alloc (Nat.le_refl _) (.cells #[.bool B, .slice A2 X.length c2] 25)))
       have HR2 := Hd.mk (hr2.below ((Below.refl _ w2).alloc (Nat.le_refl _) (.cells #[.bool B, .slice A2 X.length c2] 25)))
       have HBa := below_then (HB.out.alloc HB.out.size (.cells #[.bool B, .slice A X.length c] 25)) (HB.out.alloc HB.out.size _).size hb2
       have HB2 := Hd.mk (HBa.alloc HBa.size (.cells #[.bool B, .slice A2 X.length c2] 25))
       have k0 := B1.out.cell (i := 0) rfl
       have k1 := B1.out.cell (i := 1) rfl
       have k2 := B2.out.cell (i := 0) rfl
       have k3 := B2.out.cell (i := 1) rfl
       clear HBa HR HB hr2 hb2 hc2)
    | (go_at_call 13; refine (rsame_calls B B _ _ _ _ _ _ X X _ HR1.out HR2.out rfl rfl hXl.out hXl.out).mono ?_; rintro e w3 ⟨rfl, hb3⟩; rw [eqP_yes ⟨rfl, rfl⟩]; have HB3 := Hd.mk (below_then HB2.out HB2.out.size hb3); clear hb3 HB2)
    | (go_at_call 10; refine (known_calls _).mono ?_; rintro e w4 ⟨rfl, hb4⟩; have HB4 := Hd.mk (below_then HB3.out HB3.out.size hb4)))
  go_ret
  exact ⟨rfl, HB4.out⟩
theorem law_parses (s : ByteArray) (w : World) (hs : s.size ≤ 140737488351232) : Calls Tryd.prog 3 #[.string s] w (RetT w) := by
  by_cases h : s.size ≤ 400
  · exact law_parses_small s w (by simp; omega) h
  · exact law_parses_big s w (by simp; omega)
end Go.Proofs.YtncagcbdgimpfaaDoor
