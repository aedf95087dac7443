/- Walks: whether entries stand in order, by the library. -/
import Derived.Test.YtiloeaenpanjcaaE14Cmp
import Derived.Test.YtiloeaenpanjcaaBase12
namespace Go.Proofs.Ytiloeaenpanjcaa
open Go.RowKit Go.Sac
set_option linter.unusedVariables false
set_option linter.unusedSimpArgs false

def ecs (x : Ent) : List Value := [.string x.1, .int .i64 x.2]
theorem ecs_len (x : Ent) : (ecs x).length = 2 := rfl
def ens (l : List Ent) : List Value := rowK ecs l
theorem ent_info : (Try.prog.info? 31).map (·.size) = some 2 := by kernel_rfl
/-- from i down: no name is less than the one ahead -/
def downE (l : List Ent) : Nat → Bool
  | 0 => true
  | i + 1 => !decide (cmpN ((l[i + 1]?.getD (⟨#[]⟩, 0)).1) ((l[i]?.getD (⟨#[]⟩, 0)).1) < 0) && downE l i
def sortedE (l : List Ent) : Bool := downE l (l.length - 1)
theorem getD_ent (l : List Ent) (i : Nat) (h : i < l.length) : l[i]?.getD (⟨#[]⟩, 0) = l[i] := by rw [List.getElem?_eq_getElem h]; rfl
/-- what the loop's region yields -/
def SOV (b off n c i j : Nat) (x y : Ent) (q : Nat) (w : World) (v : Value) : Prop :=
  match q with
  | 0 => v = .func (.func 47) #[] #[]
  | 1 => v = .slice (some ⟨b, off, none⟩) n c
  | 2 => v = .int .i64 (i : Int)
  | 3 => v = .pointer (some ⟨b, off + i * 2, none⟩)
  | 4 => v = ev x
  | 5 => v = .slice (some ⟨b, off, none⟩) n c
  | 6 => v = .int .i64 (i : Int)
  | 7 => v = .int .i64 (j : Int)
  | 8 => v = .pointer (some ⟨b, off + j * 2, none⟩)
  | 9 => v = ev y
  | 10 => v = .int .i64 (cmpN x.1 y.1)
  | 11 => v = .bool (decide (cmpN x.1 y.1 < 0))
  | _ => True
theorem SOV_stab {b off n c i j : Nat} {x y : Ent} (p q : Nat) (w w' : World) (v : Value) (h : SOV b off n c i j x y q w v) : SOV b off n c i j x y q w' v := by
  rcases q with _ | _ | _ | _ | _ | _ | _ | _ | _ | _ | _ | _ | q <;> exact h
set_option maxHeartbeats 4000000 in
theorem sorted_calls (A : Option Addr) (c : Nat) (l : List Ent) (w : World) (hl : Rc w A (ens l)) (hn : l.length ≤ 5864062014634) :
    Calls Try.prog 46 #[.slice A l.length c, .func (.func 47) #[] #[]] w fun e w' => e = .returned (.bool (sortedE l)) ∧ Below w.heap.size w w' := by
  have HL := Hd.mk hl
  obtain ⟨n, hn1⟩ : ∃ n, l.length = n := ⟨_, rfl⟩
  rw [hn1] at hn ⊢
  have HN := Hd.mk hn1
  clear hl hn1
  go_enter Try.func46, Try.ntmps46
  go_wp2
  go_loopw [5] (fun iv wr => ∃ (iz : Int) (i : Nat), iv = .int .i64 iz ∧ Hd ((0 < iz → iz = i ∧ i < n) ∧ (¬ 0 < iz → i = 0)) ∧ iz ≤ 5864062014634 ∧ -1 ≤ iz ∧ Hd (sortedE l = downE l i) ∧ Hd (Below w.heap.size w wr)) (fun iv _ => (intOf iv).toNat)
  case atStart => exact ⟨(n : Int) - 1, n - 1, rfl, ⟨fun h => ⟨by omega, by omega⟩, fun h => by omega⟩, by omega, by omega, ⟨by unfold sortedE; rw [HN.out]⟩, ⟨Below.refl _ _⟩⟩
  case round =>
    obtain ⟨iz, i, rfl, HI, hi1, hi2, HD, HB⟩ := hrel
    by_cases hlt : 0 < iz
    · obtain ⟨rfl, hin⟩ := HI.out.1 hlt
      obtain ⟨j, hj⟩ : ∃ j, i = j + 1 := ⟨i - 1, by omega⟩
      have hjm : (i : Int) - 1 = (j : Int) := by omega
      have hjn : (j : Int) < (n : Int) := by omega
      have hin2 : (i : Int) < (n : Int) := by omega
      have hwj : IntKind.i64.wrap (j : Int) = (j : Int) := by rw [IntKind.wrap_i64]; omega
      have hil : i < l.length := by rw [HN.out]; exact hin
      have hjl : j < l.length := by omega
      obtain ⟨b, off, rfl, hb, hr⟩ := rcK_form ecs_len (by decide) HL.out (by omega)
      have hx := hr i hil
      have hy := hr j hjl
      have HDN : Hd (downE l i = (!decide (cmpN l[i].1 l[j].1 < 0) && downE l j)) := ⟨by
        subst hj
        rw [downE, getD_ent l (j + 1) hil, getD_ent l j hjl]⟩
      obtain ⟨x, hx0⟩ : ∃ x, l[i] = x := ⟨_, rfl⟩
      obtain ⟨y, hy0⟩ : ∃ y, l[j] = y := ⟨_, rfl⟩
      rw [hx0] at hx HDN
      rw [hy0] at hy HDN
      have HX := Hd.mk hx
      have HY := Hd.mk hy
      have HJ := Hd.mk hj
      clear hx hy hr hx0 hy0 hj hb HI
      go_wp2
      refine region_fam (fun f => #[Value.slice (some ⟨b, off, none⟩) n c, Value.func (.func 47) #[] #[], undef, undef, u4, Value.int .i64 (i : Int), Value.slice (some ⟨b, off, none⟩) n c, Value.int .i64 (n : Int), Value.int .i64 ((n : Int) - 1), Value.int .i64 (i : Int), Value.bool (decide (0 < i)), u11, u12, f 0, f 1, f 2, f 3, f 4, f 5, f 6, f 7, f 8, f 9, f 10, f 11])
        (SOV b off n c i j x y) (fun W => Below w.heap.size w W) (fun _ _ _ => True) (by kernel_rfl) (by kernel_rfl)
        (fun i => if i = 0 then u13 else if i = 1 then u14 else if i = 2 then u15 else if i = 3 then u16 else if i = 4 then u17 else if i = 5 then u18 else if i = 6 then u19 else if i = 7 then u20 else if i = 8 then u21 else if i = 9 then u22 else if i = 10 then u23 else if i = 11 then u24 else undef) rfl HB.out.drew (fun p q w w' v _ _ h => SOV_stab p q w w' v h) ?put ?step ?fin
      case put =>
        intro i o ho f v
        rcases i with _ | _ | _ | _ | _ | _ | _ | _ | _ | _ | _ | _ | i
        all_goals first | (injection ho with ho; subst ho; rfl) | (cases ho)
      case step =>
        intro q o ho f w6 hG hp
        rcases q with _ | _ | _ | _ | _ | _ | _ | _ | _ | _ | _ | _ | q
        · injection ho with ho; subst ho
          refine wpOp_go rfl rfl ?_
          go_simp
          first | exact ⟨hG, trivial, rfl⟩ | exact ⟨hG, rfl⟩ | exact rfl
        · injection ho with ho; subst ho
          refine wpOp_go rfl rfl ?_
          go_simp
          first | exact ⟨hG, trivial, rfl⟩ | exact ⟨hG, rfl⟩ | exact rfl
        · injection ho with ho; subst ho
          refine wpOp_go rfl rfl ?_
          go_simp
          first | exact ⟨hG, trivial, rfl⟩ | exact ⟨hG, rfl⟩ | exact rfl
        · injection ho with ho; subst ho
          have h1 : f 1 = _ := hp ⟨1, .data⟩ (by simp) rfl
          have h2 : f 2 = _ := hp ⟨2, .data⟩ (by simp) rfl
          simp only [h1, h2]
          refine wpOp_go rfl rfl ?_
          go_simp
          first | exact ⟨hG, trivial, rfl⟩ | exact ⟨hG, rfl⟩ | exact rfl
        · injection ho with ho; subst ho
          have h3 : f 3 = _ := hp ⟨3, .data⟩ (by simp) rfl
          simp only [h3]
          refine wpOp_go rfl rfl (wp_ldmid 31 _ rfl _ _ rfl _ _ (HX.out _ hG) Try.underlying31 rfl (ent_info.trans rfl) ?_)
          exact ⟨_, rfl, hG, trivial, rfl⟩
        · injection ho with ho; subst ho
          refine wpOp_go rfl rfl ?_
          go_simp
          first | exact ⟨hG, trivial, rfl⟩ | exact ⟨hG, rfl⟩ | exact rfl
        · injection ho with ho; subst ho
          refine wpOp_go rfl rfl ?_
          go_simp
          first | exact ⟨hG, trivial, rfl⟩ | exact ⟨hG, rfl⟩ | exact rfl
        · injection ho with ho; subst ho
          have h6 : f 6 = _ := hp ⟨6, .data⟩ (by simp) rfl
          simp only [h6]
          refine wpOp_go rfl rfl ?_
          go_simp
          first | exact ⟨hG, trivial, rfl⟩ | exact ⟨hG, rfl⟩ | exact rfl
        · injection ho with ho; subst ho
          have h5 : f 5 = _ := hp ⟨5, .data⟩ (by simp) rfl
          have h7 : f 7 = _ := hp ⟨7, .data⟩ (by simp) rfl
          simp only [h5, h7]
          refine wpOp_go rfl rfl ?_
          go_simp
          first | exact ⟨hG, trivial, rfl⟩ | exact ⟨hG, rfl⟩ | exact rfl
        · injection ho with ho; subst ho
          have h8 : f 8 = _ := hp ⟨8, .data⟩ (by simp) rfl
          simp only [h8]
          refine wpOp_go rfl rfl (wp_ldmid 31 _ rfl _ _ rfl _ _ (HY.out _ hG) Try.underlying31 rfl (ent_info.trans rfl) ?_)
          exact ⟨_, rfl, hG, trivial, rfl⟩
        · injection ho with ho; subst ho
          have h0 : f 0 = _ := hp ⟨0, .data⟩ (by simp) rfl
          have h4 : f 4 = _ := hp ⟨4, .data⟩ (by simp) rfl
          have h9 : f 9 = _ := hp ⟨9, .data⟩ (by simp) rfl
          simp only [h0, h4, h9]
          refine wpOp_go rfl rfl ?_
          go_simp
          refine (at2_calls x y _).mono ?_
          rintro e w7 ⟨rfl, hb⟩
          first | exact ⟨below_then hG hG.size hb, rfl⟩ | exact ⟨below_then hG hG.size hb, trivial, rfl⟩
        · injection ho with ho; subst ho
          have h10 : f 10 = _ := hp ⟨10, .data⟩ (by simp) rfl
          simp only [h10]
          refine wpOp_go rfl rfl ?_
          go_simp
          first | exact ⟨hG, trivial, rfl⟩ | exact ⟨hG, rfl⟩ | exact rfl
        · cases ho
      case fin =>
        intro f w6 hG hV
        have h11 : f 11 = _ := hV 11 (by simp)
        simp only [h11]
        have HB6 := Hd.mk hG
        clear hG hV h11
        cases hd : decide (cmpN x.1 y.1 < 0)
        · have HD2 : Hd (sortedE l = downE l j) := ⟨by rw [HD.out, HDN.out, hd]; simp⟩
          clear hd
          go_wp2
          go_roundw
          case rel => exact ⟨(j : Int), j, by congr 1, ⟨fun h => ⟨rfl, by have := HJ.out; omega⟩, fun h => by omega⟩, by omega, by omega, HD2, HB6⟩
          case measure => simp [intOf]; omega
        · have HNO : Hd (sortedE l = false) := ⟨by rw [HD.out, HDN.out, hd]; simp⟩
          clear hd
          go_wp2
          go_ret
          exact ⟨by rw [HNO.out]; rfl, HB6.out⟩
    · have hi0 := HI.out.2 hlt
      have hS : Hd (sortedE l = true) := ⟨by rw [HD.out, hi0]; rfl⟩
      have hneg : decide (iz > 0) = false := by simpa using hlt
      clear HI hi0
      go_wp2
      go_ret
      exact ⟨by rw [hS.out]; rfl, HB.out⟩
end Go.Proofs.Ytiloeaenpanjcaa
