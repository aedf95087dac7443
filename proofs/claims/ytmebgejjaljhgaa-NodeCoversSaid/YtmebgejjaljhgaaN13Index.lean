/- Walks: pointers as bytes, by the program and by the reference. -/
import Derived.Test.YtmebgejjaljhgaaN13RefDecode
namespace Go.Proofs.Ytmebgejjaljhgaa
open Go.RowKit Go.Sac
set_option linter.unusedVariables false
set_option linter.unusedSimpArgs false

def ptrP (n : Int) : Prop := 0 ≤ n ∧ n ≤ 4095
instance (n : Int) : Decidable (ptrP n) := by unfold ptrP; exact inferInstance
def idxP (l : List Int) : Bool := decide (l.length ≤ 64) && l.all fun n => decide (ptrP n)
def pflat (l : List Int) (k : Nat) : List UInt8 := ((l.take k).map fun n => putB n.toNat 4).flatten
def idxB (l : List Int) : List UInt8 := if idxP l = true then padB (pflat l l.length) 256 else []
def idxE (l : List Int) : Int := if idxP l = true then 0 else 2
theorem idx_no {l : List Int} (h : idxP l = false) : idxB l = [] ∧ idxE l = 2 := by unfold idxB idxE; rw [h]; exact ⟨rfl, rfl⟩
theorem idx_yes {l : List Int} (h : idxP l = true) : idxB l = padB (pflat l l.length) 256 ∧ idxE l = 0 := by unfold idxB idxE; rw [h]; exact ⟨rfl, rfl⟩
theorem pflat_step (l : List Int) (k : Nat) (h : k < l.length) : pflat l (k + 1) = pflat l k ++ putB l[k].toNat 4 := by
  unfold pflat
  rw [List.take_succ_eq_append_getElem h, List.map_append, List.flatten_append]
  simp
theorem pflat_len (l : List Int) (k : Nat) : (pflat l k).length ≤ 4 * k := by
  unfold pflat
  have key : ∀ m : List Int, ((m.map fun n => putB n.toNat 4).flatten).length = 4 * m.length := by
    intro m
    induction m with
    | nil => rfl
    | cons x r ih => rw [List.map_cons, List.flatten_cons, List.length_append, putB_len, ih, List.length_cons]; omega
  rw [key, List.length_take]
  omega
theorem idx_bad {l : List Int} {k : Nat} (h : k < l.length) (hp : ¬ ptrP l[k]) : idxP l = false := by
  unfold idxP
  have : (l.all fun n => decide (ptrP n)) = false := by
    rw [List.all_eq_false]
    exact ⟨l[k], List.getElem_mem h, by simpa using hp⟩
  rw [this]; simp
theorem idx_good {l : List Int} (h : l.length ≤ 64) (hp : ∀ j, (hj : j < l.length) → ptrP l[j]) : idxP l = true := by
  unfold idxP
  rw [Bool.and_eq_true]
  refine ⟨decide_eq_true h, ?_⟩
  rw [List.all_eq_true]
  intro x hx
  obtain ⟨j, hj, rfl⟩ := List.mem_iff_getElem.1 hx
  exact decide_eq_true (hp j hj)
set_option maxHeartbeats 4000000 in
theorem index_calls (A : Option Addr) (c : Nat) (l : List Int) (w : World) (hl : Rc w A (ns l)) (hn : l.length ≤ 1099511627776) :
    Calls Try.prog 21 #[.slice A l.length c] w (RetE 5 (idxB l) (idxE l) w) := by
  have HL := Hd.mk hl
  have HN := Hd.mk hn
  clear hl hn
  by_cases h64 : l.length ≤ 64
  · have c1 : decide ((l.length : Int) > 64) = false := by simp; omega
    have H64 := Hd.mk h64
    clear h64
    go_enter Try.func21, Try.ntmps21
    go_wp2
    go_loopw [4, 12] (fun v i wr => ∃ k : Nat, k ≤ l.length ∧ i = .int .i64 k ∧ Hd (wr.ownsRow w.heap.size 5 1 v (pflat l k).length (bs (pflat l k))) ∧ Hd (Below w.heap.size w wr) ∧ Hd (∀ j, (hj : j < l.length) → j < k → ptrP l[j])) (fun _ i _ => l.length - (intOf i).toNat)
    case atStart => exact ⟨0, by omega, rfl, ⟨World.ownsRow_nil _ _ _ _⟩, ⟨Below.refl _ _⟩, ⟨fun j _ hj => by omega⟩⟩
    case round =>
      obtain ⟨k, hk, rfl, HO, HB, HI⟩ := hrel
      obtain ⟨A1, c3, rfl, _, _, _⟩ := own_rc HO.out
      by_cases hlt : k < l.length
      · have hk64 : k < 64 := by have := H64.out; omega
        obtain ⟨bb, off, rfl, hbb, hcc⟩ := HL.out.form (by rw [ns_len]; omega)
        have h1 := (HB.out.cell (p := ⟨bb, off + k, none⟩) hbb).trans (hcc k _ (ns_at hlt))
        have hst := Hd.mk (pflat_step l k hlt)
        have hln := Hd.mk (pflat_len l k)
        have hbad := fun (h : ¬ ptrP l[k]) => idx_bad hlt h
        obtain ⟨x, hx⟩ : ∃ x, l[k] = x := ⟨_, rfl⟩
        have HXK : Hd (∀ hj : k < l.length, l[k] = x) := ⟨fun _ => hx⟩
        rw [hx] at h1 hst hbad
        clear hcc hx
        by_cases hin : ptrP x
        · have d1 : decide (x < 0) = false := by have := hin.1; simp; omega
          have d2 : decide (x ≥ 4096) = false := by have := hin.2; simp; omega
          have hwx : IntKind.u64.wrap x = x := by have := hin.1; have := hin.2; rw [IntKind.wrap_u64]; omega
          have HIN := Hd.mk hin
          have H4 : Hd (putW 4 = 4) := ⟨rfl⟩
          clear hin hbad
          go_wp2_with (first
            | (go_at_call 30; refine (put_any x 4 _ (by have := HIN.out.1; have := HIN.out.2; omega)).mono ?_; rintro e w2 ⟨v2, rfl, ho, hb⟩; rw [H4.out] at ho; obtain ⟨A2, c2, rfl, _, hr2, _⟩ := own_rc ho; have HO := Hd.mk (own_below HO.out hb); have HB := Hd.mk (below_then HB.out HB.out.size hb); have HR2 := Hd.mk hr2; clear ho hb hr2)
            | (at_builtin; refine app_rc w.heap.size 25 5 (.int .u8 0) 1 1 (.tmp 22) (.tmp 25) rfl rfl Try.underlying25 info_u8 rfl (by decide) (by decide) (.slice A1 (pflat l k).length c3) (pflat l k).length (bs (pflat l k)) (bs (putB x.toNat 4)) A2 (putB x.toNat 4).length c2 rfl rfl HO.out HR2.out (by simp) bs_one HB.out.size (by rw [putB_len]; have := hln.out; have := H64.out; omega) (pflat l (k + 1)).length (bs (pflat l (k + 1))) (by rw [hst.out, List.length_append]) (by rw [hst.out]; simp) ?_; intro v3 w3 ho hg hat; have HO3 := Hd.mk ho; have HB3 := Hd.mk (below_lift HB.out HB.out.size hg (fun b hb => (own_lt HO.out b hb).1)); clear ho hg hat))
          go_roundw
          case rel =>
            refine ⟨k + 1, by omega, by go_num, HO3, HB3, ⟨fun j hj hjk => ?_⟩⟩
            rcases (show j < k ∨ j = k by omega) with h | rfl
            · exact HI.out j hj h
            · rw [HXK.out]; exact HIN.out
          case measure => simp [intOf]; omega
        · have HNO := Hd.mk (idx_no (hbad hin))
          by_cases hneg : x < 0
          · have d1 : decide (x < 0) = true := by simpa using hneg
            clear hin hbad hneg
            go_wp2
            go_ret2
            rw [HNO.out.1, HNO.out.2]
            exact ⟨_, rfl, World.ownsRow_nil _ _ _ _, HB.out⟩
          · have d1 : decide (x < 0) = false := by simpa using hneg
            have d2 : decide (x ≥ 4096) = true := by
              simp only [decide_eq_true_eq]
              unfold ptrP at hin
              omega
            clear hin hbad hneg
            go_wp2
            go_ret2
            rw [HNO.out.1, HNO.out.2]
            exact ⟨_, rfl, World.ownsRow_nil _ _ _ _, HB.out⟩
      · obtain rfl : k = l.length := by omega
        have HYE := Hd.mk (idx_yes (idx_good H64.out fun j hj => HI.out j hj hj))
        have hln := Hd.mk (pflat_len l l.length)
        go_wp2_with (go_at_call 31; refine (pad_any A1 _ c3 (pflat l l.length) 256 _ (own_rc2 HO.out) rfl (by have := hln.out; have := H64.out; omega) (by omega) (by omega)).mono ?_; rintro e w9 ⟨v9, rfl, ho9, hb9⟩; have HO9 := Hd.mk ho9; have HB9 := Hd.mk (below_then HB.out HB.out.size hb9); have HS9 := Hd.mk HB.out.size; clear ho9 hb9)
        go_ret2
        rw [HYE.out.1, HYE.out.2]
        exact ⟨v9, rfl, own_lower HO9.out HS9.out, HB9.out⟩
  · have c1 : decide ((l.length : Int) > 64) = true := by simp; omega
    have HNO := Hd.mk (idx_no (l := l) (by unfold idxP; simp [h64]))
    clear h64
    go_enter Try.func21, Try.ntmps21
    go_wp2
    go_ret2
    rw [HNO.out.1, HNO.out.2]
    exact ⟨_, rfl, World.ownsRow_nil _ _ _ _, Below.refl _ _⟩
set_option maxHeartbeats 4000000 in
theorem rindex_calls (A : Option Addr) (c : Nat) (l : List Int) (w : World) (hl : Rc w A (ns l)) (hn : l.length ≤ 1099511627776) :
    Calls Try.prog 22 #[.slice A l.length c] w (RetE 5 (idxB l) (idxE l) w) := by
  have HL := Hd.mk hl
  have HN := Hd.mk hn
  clear hl hn
  by_cases h64 : l.length ≤ 64
  · have c1 : decide ((l.length : Int) > 64) = false := by simp; omega
    have H64 := Hd.mk h64
    clear h64
    go_enter Try.func22, Try.ntmps22
    go_wp2
    go_loopw [4, 5] (fun v i wr => ∃ (k : Nat) (A1 : Option Addr) (c3 : Nat), k ≤ l.length ∧ i = .int .i64 k ∧ v = .slice A1 (pflat l k).length c3 ∧ Hd (Rc wr A1 (bs (pflat l k))) ∧ Hd (Below w.heap.size w wr) ∧ Hd (∀ j, (hj : j < l.length) → j < k → ptrP l[j])) (fun _ i _ => l.length - (intOf i).toNat)
    case atStart => exact ⟨0, none, 0, by omega, rfl, rfl, ⟨Rc.nil _ _⟩, ⟨Below.refl _ _⟩, ⟨fun j _ hj => by omega⟩⟩
    case round =>
      obtain ⟨k, A1, c3, hk, rfl, rfl, HR1, HB, HI⟩ := hrel
      by_cases hlt : k < l.length
      · have hk64 : k < 64 := by have := H64.out; omega
        obtain ⟨bb, off, rfl, hbb, hcc⟩ := HL.out.form (by rw [ns_len]; omega)
        have h1 := (HB.out.cell (p := ⟨bb, off + k, none⟩) hbb).trans (hcc k _ (ns_at hlt))
        have hst := Hd.mk (pflat_step l k hlt)
        have hln := Hd.mk (pflat_len l k)
        have hbad := fun (h : ¬ ptrP l[k]) => idx_bad hlt h
        obtain ⟨x, hx⟩ : ∃ x, l[k] = x := ⟨_, rfl⟩
        have HXK : Hd (∀ hj : k < l.length, l[k] = x) := ⟨fun _ => hx⟩
        rw [hx] at h1 hst hbad
        clear hcc hx
        by_cases hin : ptrP x
        · have HIN := Hd.mk hin
          have HP : Hd (decide (0 ≤ x ∧ x ≤ 4095) = true) := ⟨decide_eq_true hin⟩
          clear hin hbad
          go_wp2_with (first
            | (go_at_call 35; refine (pointer_b _ true _ HP.out).mono ?_; rintro e w1 ⟨rfl, rfl⟩)
            | (go_at_call 33; refine (put13_calls A1 _ c3 (pflat l k) (pflat l (k + 1)) x 4 _ HR1.out rfl (by have := hln.out; have := H64.out; omega) (by have := HIN.out.1; have := HIN.out.2; omega) (by omega) hst.out.symm).mono ?_; rintro e w7 ⟨v7, rfl, ho7, hb7⟩; obtain ⟨A7, c7, rfl, _, hr7, _⟩ := own_rc ho7; have HR7 := Hd.mk hr7; have HB7 := Hd.mk (below_then HB.out HB.out.size hb7); clear ho7 hb7 hr7))
          go_roundw
          case rel =>
            refine ⟨k + 1, A7, c7, by omega, by go_num, rfl, HR7, HB7, ⟨fun j hj hjk => ?_⟩⟩
            rcases (show j < k ∨ j = k by omega) with h | rfl
            · exact HI.out j hj h
            · rw [HXK.out]; exact HIN.out
          case measure => simp [intOf]; omega
        · have HNO := Hd.mk (idx_no (hbad hin))
          have HP : Hd (decide (0 ≤ x ∧ x ≤ 4095) = false) := ⟨decide_eq_false hin⟩
          clear hin hbad
          go_wp2_with (go_at_call 35; refine (pointer_b _ false _ HP.out).mono ?_; rintro e w1 ⟨rfl, rfl⟩)
          go_ret2
          rw [HNO.out.1, HNO.out.2]
          exact ⟨_, rfl, World.ownsRow_nil _ _ _ _, HB.out⟩
      · obtain rfl : k = l.length := by omega
        have HYE := Hd.mk (idx_yes (idx_good H64.out fun j hj => HI.out j hj hj))
        have hln := Hd.mk (pflat_len l l.length)
        go_wp2_with (go_at_call 34; refine (rpad_calls A1 _ c3 (pflat l l.length) 256 _ HR1.out (by have := hln.out; have := H64.out; omega) (by omega) rfl).mono ?_; rintro e w9 ⟨v9, rfl, ho9, hb9⟩; have HO9 := Hd.mk ho9; have HB9 := Hd.mk (below_then HB.out HB.out.size hb9); have HS9 := Hd.mk HB.out.size; clear ho9 hb9)
        go_ret2
        rw [HYE.out.1, HYE.out.2]
        exact ⟨v9, rfl, own_lower HO9.out HS9.out, HB9.out⟩
  · have c1 : decide ((l.length : Int) > 64) = true := by simp; omega
    have HNO := Hd.mk (idx_no (l := l) (by unfold idxP; simp [h64]))
    clear h64
    go_enter Try.func22, Try.ntmps22
    go_wp2
    go_ret2
    rw [HNO.out.1, HNO.out.2]
    exact ⟨_, rfl, World.ownsRow_nil _ _ _ _, Below.refl _ _⟩
end Go.Proofs.Ytmebgejjaljhgaa
