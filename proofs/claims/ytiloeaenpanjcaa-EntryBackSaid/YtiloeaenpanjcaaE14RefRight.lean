/- Walks: may entries be, by the document's answer? -/
import Derived.BigQuiet
import Derived.Test.YtiloeaenpanjcaaE14Right
namespace Go.Proofs.Ytiloeaenpanjcaa
open Go.RowKit Go.Sac
set_option linter.unusedVariables false
set_option linter.unusedSimpArgs false

theorem named_gt0 (x : ByteArray) (h : namedL x.data.toList = true) : gtN x ⟨#[]⟩ = true := by
  unfold gtN
  rw [str_list, str_list]
  cases hx : x.data.toList with
  | nil => rw [hx] at h; cases h
  | cons a r => simp [Op.bytesLess]
theorem rnamed_q (s : ByteArray) (r : Bool) (w : World) (hs : s.size ≤ 140737488351232) (h : namedL s.data.toList = r) :
    Calls Try.prog 21 #[.string s] w fun e w' => e = .returned (.bool r) ∧ ∃ n, w' = w.drewN n :=
  (rnamed_calls s w hs).mono fun e w' ⟨h1, h2⟩ => ⟨by rw [h1, h], 0, h2⟩
set_option maxHeartbeats 4000000 in
theorem rright_calls (A : Option Addr) (n c : Nat) (l : List Ent) (w : World) (hl : Rc w A (ens l)) (e1 : n = l.length) (hn : l.length ≤ 5864062014634) (hs : ∀ y ∈ l, y.1.size ≤ 140737488351232) :
    Calls Try.prog 22 #[.slice A n c] w fun e w' => e = .returned (.bool (rightE l)) ∧ Below w.heap.size w w' := by
  have HL := Hd.mk hl
  have HE := Hd.mk e1
  have HS := Hd.mk hs
  rw [← e1] at hn
  clear hl e1 hs
  go_enter Try.func22, Try.ntmps22
  go_wp2
  go_loopw [3] (fun iv wr => ∃ i : Nat, iv = .int .i64 (i : Int) ∧ i ≤ n ∧ Hd (∀ j, j < i → okAt l j = true) ∧ Hd (Below w.heap.size w wr)) (fun iv _ => n - (intOf iv).toNat)
  case atStart => exact ⟨0, rfl, Nat.zero_le _, ⟨fun j hj => by omega⟩, ⟨Below.refl _ _⟩⟩
  case round =>
    obtain ⟨i, rfl, hi, HO, HB⟩ := hrel
    by_cases hlt : i < n
    · have hil : i < l.length := by rw [← HE.out]; exact hlt
      have hil2 : (i : Int) < (n : Int) := by omega
      obtain ⟨b, off, rfl, hc⟩ := node_cell HL.out i hil
      obtain ⟨hcx, hcy⟩ := hc wr HB.out
      have hsz := HS.out _ (List.getElem_mem hil)
      have hok := okAt_eq hil
      have hno := right_no hil
      have HLST : Hd (∀ j, i = j + 1 → ∃ q, prevN l i = q ∧ wr.cell? ⟨b, off + j * 2, none⟩ = some (.string q)) := ⟨fun j hj => by
        have hjl : j < l.length := by omega
        refine ⟨l[j].1, by rw [hj]; exact prevN_succ l j hjl, ?_⟩
        obtain ⟨b', off', e, hc'⟩ := node_cell HL.out j hjl
        injection e with e
        injection e with e1 e2
        subst e1; subst e2
        exact (hc' wr HB.out).1⟩
      obtain ⟨⟨xn, xk⟩, hx0⟩ : ∃ x, l[i] = x := ⟨_, rfl⟩
      rw [hx0] at hcx hcy hsz hok
      dsimp only at hsz hcx hcy
      have HOK := Hd.mk hok
      have HNO := Hd.mk hno
      have HSZ := Hd.mk hsz
      have HB := Hd.mk (below_drewN HB.out 0)
      clear hsz hok hno hx0 hc hil
      have step : ∀ r : Bool, okAt l i = r → True := fun _ _ => trivial
      clear step
      by_cases h0 : i = 0
      · have hp0 : prevN l i = ⟨#[]⟩ := by rw [h0]; rfl
        rw [hp0] at HOK
        have d0 : decide (0 < i) = false := by simp; omega
        clear HLST hp0 h0
        rcases ok_ways (xn, xk) ⟨#[]⟩ with ⟨h1, h5⟩ | ⟨h1, h2, h5⟩ | ⟨h1, h2, h3, h5⟩ | ⟨h1, h2, h3, h4, h5⟩ | ⟨h1, h2, h3, h4, h5⟩
        · have HR : Hd (rightE l = false) := ⟨HNO.out (by rw [HOK.out]; exact decide_eq_false h5)⟩
          have HNM : Hd (namedL xn.data.toList = false) := ⟨h1⟩
          clear h1 h5
          go_wp2
          go_quiet ((go_at_call 21; refine Calls.quiet_of (rnamed_q _ false _ HSZ.out HNM.out)))
          have HB := Hd.mk (below_drewN HB.out nq)
          go_wp2
          go_ret
          exact ⟨by rw [HR.out]; rfl, HB.out⟩
        · rw [named_gt0 xn h1] at h2; cases h2
        · have HR : Hd (rightE l = false) := ⟨HNO.out (by rw [HOK.out]; exact decide_eq_false h5)⟩
          have d3 : decide (xk < 1) = true := by simpa using h3
          have HNM : Hd (namedL xn.data.toList = true) := ⟨h1⟩
          clear h1 h2 h3 h5
          go_wp2
          go_quiet ((go_at_call 21; refine Calls.quiet_of (rnamed_q _ true _ HSZ.out HNM.out)))
          have HB := Hd.mk (below_drewN HB.out nq)
          go_wp2
          go_ret
          exact ⟨by rw [HR.out]; rfl, HB.out⟩
        · have HR : Hd (rightE l = false) := ⟨HNO.out (by rw [HOK.out]; exact decide_eq_false h5)⟩
          have d3 : decide (xk < 1) = false := by simpa using h3
          have d4 : decide (xk > 65535) = true := by simpa using h4
          have HNM : Hd (namedL xn.data.toList = true) := ⟨h1⟩
          clear h1 h2 h3 h4 h5
          go_wp2
          go_quiet ((go_at_call 21; refine Calls.quiet_of (rnamed_q _ true _ HSZ.out HNM.out)))
          have HB := Hd.mk (below_drewN HB.out nq)
          go_wp2
          go_ret
          exact ⟨by rw [HR.out]; rfl, HB.out⟩
        · have HK : Hd (okAt l i = true) := ⟨by rw [HOK.out]; exact decide_eq_true h5⟩
          have d3 : decide (xk < 1) = false := by simpa using h3
          have d4 : decide (xk > 65535) = false := by simpa using h4
          have HNM : Hd (namedL xn.data.toList = true) := ⟨h1⟩
          clear h1 h2 h3 h4 h5
          go_wp2
          go_quiet ((go_at_call 21; refine Calls.quiet_of (rnamed_q _ true _ HSZ.out HNM.out)))
          have HB := Hd.mk (below_drewN HB.out nq)
          go_wp2
          go_roundw
          case rel =>
            refine ⟨i + 1, by go_num, by omega, ⟨fun j hj => ?_⟩, HB⟩
            rcases (show j < i ∨ j = i by omega) with h | rfl
            · exact HO.out j h
            · exact HK.out
          case measure => simp [intOf]; omega
      · obtain ⟨j, hj⟩ : ∃ j, i = j + 1 := ⟨i - 1, by omega⟩
        obtain ⟨p, hp, hcp⟩ := HLST.out j hj
        rw [hp] at HOK
        have d0 : decide (0 < i) = true := by simp; omega
        have hjm : (i : Int) - 1 = (j : Int) := by omega
        have hjn : (j : Int) < (n : Int) := by omega
        have hwj : IntKind.i64.wrap (j : Int) = (j : Int) := by rw [IntKind.wrap_i64]; omega
        clear HLST hp h0
        have HJ := Hd.mk hj
        clear hj
        rcases ok_ways (xn, xk) p with ⟨h1, h5⟩ | ⟨h1, h2, h5⟩ | ⟨h1, h2, h3, h5⟩ | ⟨h1, h2, h3, h4, h5⟩ | ⟨h1, h2, h3, h4, h5⟩
        · have HR : Hd (rightE l = false) := ⟨HNO.out (by rw [HOK.out]; exact decide_eq_false h5)⟩
          have HNM : Hd (namedL xn.data.toList = false) := ⟨h1⟩
          clear h1 h5
          go_wp2
          go_quiet ((go_at_call 21; refine Calls.quiet_of (rnamed_q _ false _ HSZ.out HNM.out)))
          have HB := Hd.mk (below_drewN HB.out nq)
          go_wp2
          go_ret
          exact ⟨by rw [HR.out]; rfl, HB.out⟩
        · rcases gt_ways xn p with ⟨_, g1⟩ | ⟨_, g1, g2⟩ | ⟨g0, _⟩
          rotate_right 1
          · rw [h2] at g0; cases g0
          all_goals
            have HR : Hd (rightE l = false) := ⟨HNO.out (by rw [HOK.out]; exact decide_eq_false h5)⟩
            have HNM : Hd (namedL xn.data.toList = true) := ⟨h1⟩
            clear h1 h2 h5
            go_wp2
            go_quiet ((go_at_call 21; refine Calls.quiet_of (rnamed_q _ true _ HSZ.out HNM.out)))
            have HB := Hd.mk (below_drewN HB.out nq)
            go_wp2
            go_ret
            exact ⟨by rw [HR.out]; rfl, HB.out⟩
        all_goals
          rcases gt_ways xn p with ⟨g0, _⟩ | ⟨g0, _, _⟩ | ⟨_, g1, g2⟩
          · rw [h2] at g0; cases g0
          · rw [h2] at g0; cases g0
        · have HR : Hd (rightE l = false) := ⟨HNO.out (by rw [HOK.out]; exact decide_eq_false h5)⟩
          have d3 : decide (xk < 1) = true := by simpa using h3
          have HNM : Hd (namedL xn.data.toList = true) := ⟨h1⟩
          clear h1 h2 h3 h5
          go_wp2
          go_quiet ((go_at_call 21; refine Calls.quiet_of (rnamed_q _ true _ HSZ.out HNM.out)))
          have HB := Hd.mk (below_drewN HB.out nq)
          go_wp2
          go_ret
          exact ⟨by rw [HR.out]; rfl, HB.out⟩
        · have HR : Hd (rightE l = false) := ⟨HNO.out (by rw [HOK.out]; exact decide_eq_false h5)⟩
          have d3 : decide (xk < 1) = false := by simpa using h3
          have d4 : decide (xk > 65535) = true := by simpa using h4
          have HNM : Hd (namedL xn.data.toList = true) := ⟨h1⟩
          clear h1 h2 h3 h4 h5
          go_wp2
          go_quiet ((go_at_call 21; refine Calls.quiet_of (rnamed_q _ true _ HSZ.out HNM.out)))
          have HB := Hd.mk (below_drewN HB.out nq)
          go_wp2
          go_ret
          exact ⟨by rw [HR.out]; rfl, HB.out⟩
        · have HK : Hd (okAt l i = true) := ⟨by rw [HOK.out]; exact decide_eq_true h5⟩
          have d3 : decide (xk < 1) = false := by simpa using h3
          have d4 : decide (xk > 65535) = false := by simpa using h4
          have HNM : Hd (namedL xn.data.toList = true) := ⟨h1⟩
          clear h1 h2 h3 h4 h5
          go_wp2
          go_quiet ((go_at_call 21; refine Calls.quiet_of (rnamed_q _ true _ HSZ.out HNM.out)))
          have HB := Hd.mk (below_drewN HB.out nq)
          go_wp2
          go_roundw
          case rel =>
            refine ⟨i + 1, by go_num, by omega, ⟨fun j hj => ?_⟩, HB⟩
            rcases (show j < i ∨ j = i by omega) with h | rfl
            · exact HO.out j h
            · exact HK.out
          case measure => simp [intOf]; omega
    · obtain rfl : i = n := by omega
      by_cases hbig : i > 560
      · have HR : Hd (rightE l = false) := ⟨by unfold rightE; apply decide_eq_false; rintro ⟨h1, _⟩; have := HE.out; omega⟩
        have d1 : decide ((i : Int) ≤ 560) = false := by simp; omega
        go_wp2
        go_ret
        exact ⟨by rw [HR.out]; rfl, HB.out⟩
      · have d1 : decide ((i : Int) ≤ 560) = true := by simp; omega
        have HR : Hd (rightE l = true) := ⟨right_all (by rw [← HE.out]; omega) (fun j hj => HO.out j (by rw [HE.out]; exact hj))⟩
        go_wp2
        go_ret
        exact ⟨by rw [HR.out]; rfl, HB.out⟩
end Go.Proofs.Ytiloeaenpanjcaa
