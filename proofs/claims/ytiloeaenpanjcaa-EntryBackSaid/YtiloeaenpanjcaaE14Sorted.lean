/- E14Sorted: E14Cmp, E14Sorted, E14Search, P14. -/
import Derived.Lib.Strings
import Derived.Lib.Slices
import Derived.Lib.Walk
import Derived.Lib.Bytealg
import Derived.Test.YtiloeaenpanjcaaENamed
import Derived.Test.YtiloeaenpanjcaaBase12
/-! from E14Cmp -/
namespace Go.Proofs.Ytiloeaenpanjcaa
open Go.RowKit Go.Sac
set_option linter.unusedVariables false
set_option linter.unusedSimpArgs false

/-- an entry: a name, and a node -/
abbrev Ent := ByteArray × Int
def ev (x : Ent) : Value := .agg #[.string x.1, .int .i64 x.2]
def cmpN (a b : ByteArray) : Int := Lib.compareBytes a.data.toList b.data.toList
set_option maxHeartbeats 1000000 in
set_option maxRecDepth 100000 in
theorem cmpstr_calls (a b : ByteArray) (w : World) : Calls Try.prog 52 #[.string a, .string b] w fun e w' => e = .returned (.int .i64 (cmpN a b)) ∧ w' = w := by
  go_enter Try.func52, Try.ntmps52
  go_wp2
  rw [run_callFunc_extern Try.func54 (by kernel_rfl) (by kernel_rfl) (by kernel_rfl) (e := Extern.BytealgCompare.compare) (by kernel_rfl), Lib.run_compareString]
  simp only [Result.andThen]
  rw [Oper.upon_value]
  go_wp2
  go_ret
  exact ⟨rfl, rfl⟩
theorem compare_calls (a b : ByteArray) (w : World) : Calls Try.prog 45 #[.string a, .string b] w fun e w' => e = .returned (.int .i64 (cmpN a b)) ∧ w' = w := by
  go_enter Try.func45, Try.ntmps45
  go_wp2_with (go_at_call 52; refine (cmpstr_calls _ _ _).mono ?_; rintro e w' ⟨rfl, rfl⟩)
  go_ret
  exact ⟨rfl, rfl⟩
/-- two entries, by their names -/
theorem at2_calls (x y : Ent) (w : World) : Calls Try.prog 47 #[ev x, ev y] w fun e w' => e = .returned (.int .i64 (cmpN x.1 y.1)) ∧ Below w.heap.size w w' := by
  obtain ⟨a, n⟩ := x
  obtain ⟨b, m⟩ := y
  have HB : Hd (Below w.heap.size w ((w.alloc (.cells #[.string a, .int .i64 n] 31)).alloc (.cells #[.string b, .int .i64 m] 31))) := ⟨((Below.refl _ w).alloc (Nat.le_refl _) _).alloc (by simp) _⟩
  unfold ev
  go_enter Try.func47, Try.ntmps47
  go_wp2_with (go_at_call 45; refine (compare_calls a b _).mono ?_; rintro e w' ⟨rfl, rfl⟩)
  go_ret
  exact ⟨rfl, HB.out⟩
/-- an entry's name, and a name -/
theorem at1_calls (x : Ent) (b : ByteArray) (w : World) : Calls Try.prog 44 #[ev x, .string b] w fun e w' => e = .returned (.int .i64 (cmpN x.1 b)) ∧ Below w.heap.size w w' := by
  obtain ⟨a, n⟩ := x
  have HB : Hd (Below w.heap.size w (w.alloc (.cells #[.string a, .int .i64 n] 31))) := ⟨(Below.refl _ w).alloc (Nat.le_refl _) _⟩
  unfold ev
  go_enter Try.func44, Try.ntmps44
  go_wp2_with (go_at_call 45; refine (compare_calls a b _).mono ?_; rintro e w' ⟨rfl, rfl⟩)
  go_ret
  exact ⟨rfl, HB.out⟩
end Go.Proofs.Ytiloeaenpanjcaa
/-! from E14Sorted -/
namespace Go.Proofs.Ytiloeaenpanjcaa
open Go.RowKit Go.Sac
set_option linter.unusedVariables false
set_option linter.unusedSimpArgs false

def ecs (x : Ent) : List Value := [.string x.1, .int .i64 x.2]
theorem ecs_len (x : Ent) : (ecs x).length = 2 := rfl
def ens (l : List Ent) : List Value := rowK ecs l
theorem ent_info : (Try.prog.info? 31).map (·.size) = some 2 := by kernel_rfl
/-- from i down: no name is less than the one ahead -/
def downE (l : List Ent) : Nat → Bool
  | 0 => true
  | i + 1 => !decide (cmpN ((l[i + 1]?.getD (⟨#[]⟩, 0)).1) ((l[i]?.getD (⟨#[]⟩, 0)).1) < 0) && downE l i
def sortedE (l : List Ent) : Bool := downE l (l.length - 1)
theorem getD_ent (l : List Ent) (i : Nat) (h : i < l.length) : l[i]?.getD (⟨#[]⟩, 0) = l[i] := by rw [List.getElem?_eq_getElem h]; rfl
/-- what the loop's region yields -/
def SOV (b off n c i j : Nat) (x y : Ent) (q : Nat) (w : World) (v : Value) : Prop :=
  match q with
  | 0 => v = .func (.func 47) #[] #[]
  | 1 => v = .slice (some ⟨b, off, none⟩) n c
  | 2 => v = .int .i64 (i : Int)
  | 3 => v = .pointer (some ⟨b, off + i * 2, none⟩)
  | 4 => v = ev x
  | 5 => v = .slice (some ⟨b, off, none⟩) n c
  | 6 => v = .int .i64 (i : Int)
  | 7 => v = .int .i64 (j : Int)
  | 8 => v = .pointer (some ⟨b, off + j * 2, none⟩)
  | 9 => v = ev y
  | 10 => v = .int .i64 (cmpN x.1 y.1)
  | 11 => v = .bool (decide (cmpN x.1 y.1 < 0))
  | _ => True
theorem SOV_stab {b off n c i j : Nat} {x y : Ent} (p q : Nat) (w w' : World) (v : Value) (h : SOV b off n c i j x y q w v) : SOV b off n c i j x y q w' v := by
  rcases q with _ | _ | _ | _ | _ | _ | _ | _ | _ | _ | _ | _ | q <;> exact h
set_option maxHeartbeats 4000000 in
theorem sorted_calls (A : Option Addr) (c : Nat) (l : List Ent) (w : World) (hl : Rc w A (ens l)) (hn : l.length ≤ 5864062014634) :
    Calls Try.prog 46 #[.slice A l.length c, .func (.func 47) #[] #[]] w fun e w' => e = .returned (.bool (sortedE l)) ∧ Below w.heap.size w w' := by
  have HL := Hd.mk hl
  obtain ⟨n, hn1⟩ : ∃ n, l.length = n := ⟨_, rfl⟩
  rw [hn1] at hn ⊢
  have HN := Hd.mk hn1
  clear hl hn1
  go_enter Try.func46, Try.ntmps46
  go_wp2
  go_loopw [5] (fun iv wr => ∃ (iz : Int) (i : Nat), iv = .int .i64 iz ∧ Hd ((0 < iz → iz = i ∧ i < n) ∧ (¬ 0 < iz → i = 0)) ∧ iz ≤ 5864062014634 ∧ -1 ≤ iz ∧ Hd (sortedE l = downE l i) ∧ Hd (Below w.heap.size w wr)) (fun iv _ => (intOf iv).toNat)
  case atStart => exact ⟨(n : Int) - 1, n - 1, rfl, ⟨fun h => ⟨by omega, by omega⟩, fun h => by omega⟩, by omega, by omega, ⟨by unfold sortedE; rw [HN.out]⟩, ⟨Below.refl _ _⟩⟩
  case round =>
    obtain ⟨iz, i, rfl, HI, hi1, hi2, HD, HB⟩ := hrel
    by_cases hlt : 0 < iz
    · obtain ⟨rfl, hin⟩ := HI.out.1 hlt
      obtain ⟨j, hj⟩ : ∃ j, i = j + 1 := ⟨i - 1, by omega⟩
      have hjm : (i : Int) - 1 = (j : Int) := by omega
      have hjn : (j : Int) < (n : Int) := by omega
      have hin2 : (i : Int) < (n : Int) := by omega
      have hwj : IntKind.i64.wrap (j : Int) = (j : Int) := by rw [IntKind.wrap_i64]; omega
      have hil : i < l.length := by rw [HN.out]; exact hin
      have hjl : j < l.length := by omega
      obtain ⟨b, off, rfl, hb, hr⟩ := rcK_form ecs_len (by decide) HL.out (by omega)
      have hx := hr i hil
      have hy := hr j hjl
      have HDN : Hd (downE l i = (!decide (cmpN l[i].1 l[j].1 < 0) && downE l j)) := ⟨by
        subst hj
        rw [downE, getD_ent l (j + 1) hil, getD_ent l j hjl]⟩
      obtain ⟨x, hx0⟩ : ∃ x, l[i] = x := ⟨_, rfl⟩
      obtain ⟨y, hy0⟩ : ∃ y, l[j] = y := ⟨_, rfl⟩
      rw [hx0] at hx HDN
      rw [hy0] at hy HDN
      have HX := Hd.mk hx
      have HY := Hd.mk hy
      have HJ := Hd.mk hj
      clear hx hy hr hx0 hy0 hj hb HI
      go_wp2
      refine region_fam (fun f => #[Value.slice (some ⟨b, off, none⟩) n c, Value.func (.func 47) #[] #[], undef, undef, u4, Value.int .i64 (i : Int), Value.slice (some ⟨b, off, none⟩) n c, Value.int .i64 (n : Int), Value.int .i64 ((n : Int) - 1), Value.int .i64 (i : Int), Value.bool (decide (0 < i)), u11, u12, f 0, f 1, f 2, f 3, f 4, f 5, f 6, f 7, f 8, f 9, f 10, f 11])
        (SOV b off n c i j x y) (fun W => Below w.heap.size w W) (fun _ _ _ => True) (by kernel_rfl) (by kernel_rfl)
        (fun i => if i = 0 then u13 else if i = 1 then u14 else if i = 2 then u15 else if i = 3 then u16 else if i = 4 then u17 else if i = 5 then u18 else if i = 6 then u19 else if i = 7 then u20 else if i = 8 then u21 else if i = 9 then u22 else if i = 10 then u23 else if i = 11 then u24 else undef) rfl HB.out.drew (fun p q w w' v _ _ h => SOV_stab p q w w' v h) ?put ?step ?fin
      case put =>
        intro i o ho f v
        rcases i with _ | _ | _ | _ | _ | _ | _ | _ | _ | _ | _ | _ | i
        all_goals first | (injection ho with ho; subst ho; rfl) | (cases ho)
      case step =>
        intro q o ho f w6 hG hp
        rcases q with _ | _ | _ | _ | _ | _ | _ | _ | _ | _ | _ | _ | q
        · injection ho with ho; subst ho
          refine wpOp_go rfl rfl ?_
          go_simp
          first | exact ⟨hG, trivial, rfl⟩ | exact ⟨hG, rfl⟩ | exact rfl
        · injection ho with ho; subst ho
          refine wpOp_go rfl rfl ?_
          go_simp
          first | exact ⟨hG, trivial, rfl⟩ | exact ⟨hG, rfl⟩ | exact rfl
        · injection ho with ho; subst ho
          refine wpOp_go rfl rfl ?_
          go_simp
          first | exact ⟨hG, trivial, rfl⟩ | exact ⟨hG, rfl⟩ | exact rfl
        · injection ho with ho; subst ho
          have h1 : f 1 = _ := hp ⟨1, .data⟩ (by simp) rfl
          have h2 : f 2 = _ := hp ⟨2, .data⟩ (by simp) rfl
          simp only [h1, h2]
          refine wpOp_go rfl rfl ?_
          go_simp
          first | exact ⟨hG, trivial, rfl⟩ | exact ⟨hG, rfl⟩ | exact rfl
        · injection ho with ho; subst ho
          have h3 : f 3 = _ := hp ⟨3, .data⟩ (by simp) rfl
          simp only [h3]
          refine wpOp_go rfl rfl (wp_ldmid 31 _ rfl _ _ rfl _ _ (HX.out _ hG) Try.underlying31 rfl (ent_info.trans rfl) ?_)
          exact ⟨_, rfl, hG, trivial, rfl⟩
        · injection ho with ho; subst ho
          refine wpOp_go rfl rfl ?_
          go_simp
          first | exact ⟨hG, trivial, rfl⟩ | exact ⟨hG, rfl⟩ | exact rfl
        · injection ho with ho; subst ho
          refine wpOp_go rfl rfl ?_
          go_simp
          first | exact ⟨hG, trivial, rfl⟩ | exact ⟨hG, rfl⟩ | exact rfl
        · injection ho with ho; subst ho
          have h6 : f 6 = _ := hp ⟨6, .data⟩ (by simp) rfl
          simp only [h6]
          refine wpOp_go rfl rfl ?_
          go_simp
          first | exact ⟨hG, trivial, rfl⟩ | exact ⟨hG, rfl⟩ | exact rfl
        · injection ho with ho; subst ho
          have h5 : f 5 = _ := hp ⟨5, .data⟩ (by simp) rfl
          have h7 : f 7 = _ := hp ⟨7, .data⟩ (by simp) rfl
          simp only [h5, h7]
          refine wpOp_go rfl rfl ?_
          go_simp
          first | exact ⟨hG, trivial, rfl⟩ | exact ⟨hG, rfl⟩ | exact rfl
        · injection ho with ho; subst ho
          have h8 : f 8 = _ := hp ⟨8, .data⟩ (by simp) rfl
          simp only [h8]
          refine wpOp_go rfl rfl (wp_ldmid 31 _ rfl _ _ rfl _ _ (HY.out _ hG) Try.underlying31 rfl (ent_info.trans rfl) ?_)
          exact ⟨_, rfl, hG, trivial, rfl⟩
        · injection ho with ho; subst ho
          have h0 : f 0 = _ := hp ⟨0, .data⟩ (by simp) rfl
          have h4 : f 4 = _ := hp ⟨4, .data⟩ (by simp) rfl
          have h9 : f 9 = _ := hp ⟨9, .data⟩ (by simp) rfl
          simp only [h0, h4, h9]
          refine wpOp_go rfl rfl ?_
          go_simp
          refine (at2_calls x y _).mono ?_
          rintro e w7 ⟨rfl, hb⟩
          first | exact ⟨below_then hG hG.size hb, rfl⟩ | exact ⟨below_then hG hG.size hb, trivial, rfl⟩
        · injection ho with ho; subst ho
          have h10 : f 10 = _ := hp ⟨10, .data⟩ (by simp) rfl
          simp only [h10]
          refine wpOp_go rfl rfl ?_
          go_simp
          first | exact ⟨hG, trivial, rfl⟩ | exact ⟨hG, rfl⟩ | exact rfl
        · cases ho
      case fin =>
        intro f w6 hG hV
        have h11 : f 11 = _ := hV 11 (by simp)
        simp only [h11]
        have HB6 := Hd.mk hG
        clear hG hV h11
        cases hd : decide (cmpN x.1 y.1 < 0)
        · have HD2 : Hd (sortedE l = downE l j) := ⟨by rw [HD.out, HDN.out, hd]; simp⟩
          clear hd
          go_wp2
          go_roundw
          case rel => exact ⟨(j : Int), j, by congr 1, ⟨fun h => ⟨rfl, by have := HJ.out; omega⟩, fun h => by omega⟩, by omega, by omega, HD2, HB6⟩
          case measure => simp [intOf]; omega
        · have HNO : Hd (sortedE l = false) := ⟨by rw [HD.out, HDN.out, hd]; simp⟩
          clear hd
          go_wp2
          go_ret
          exact ⟨by rw [HNO.out]; rfl, HB6.out⟩
    · have hi0 := HI.out.2 hlt
      have hS : Hd (sortedE l = true) := ⟨by rw [HD.out, hi0]; rfl⟩
      have hneg : decide (iz > 0) = false := by simpa using hlt
      clear HI hi0
      go_wp2
      go_ret
      exact ⟨by rw [hS.out]; rfl, HB.out⟩
end Go.Proofs.Ytiloeaenpanjcaa
/-! from E14Search -/
namespace Go.Proofs.Ytiloeaenpanjcaa
open Go.RowKit Go.Sac
set_option linter.unusedVariables false
set_option linter.unusedSimpArgs false

set_option maxHeartbeats 4000000 in
theorem search_calls (A : Option Addr) (n c : Nat) (l : List Ent) (t : ByteArray) (w : World) (hl : Rc w A (ens l)) (e1 : n = l.length) (hn : l.length ≤ 5864062014634)
    (hmono : ∀ (a b : Nat) (ha : a < l.length) (hb : b < l.length), a ≤ b → cmpN l[b].1 t < 0 → cmpN l[a].1 t < 0) :
    Calls Try.prog 48 #[.slice A n c, .string t, .func (.func 44) #[] #[]] w fun e w' =>
      ∃ i : Nat, i ≤ l.length ∧ (∀ k, (hk : k < l.length) → k < i → cmpN l[k].1 t < 0) ∧ (∀ k, (hk : k < l.length) → i ≤ k → 0 ≤ cmpN l[k].1 t) ∧
        e = .returned (.tuple #[.int .i64 (i : Int), .bool (decide (∃ h : i < l.length, cmpN l[i].1 t = 0))]) ∧ Below w.heap.size w w' := by
  have HL := Hd.mk hl
  have HM := Hd.mk hmono
  rw [← e1] at hn
  have HN := Hd.mk e1.symm
  clear hl hmono e1
  go_enter Try.func48, Try.ntmps48
  go_wp2
  go_loopw [9, 10] (fun iv jv wr => ∃ i j : Nat, iv = .int .i64 (i : Int) ∧ jv = .int .i64 (j : Int) ∧ i ≤ j ∧ j ≤ n ∧ Hd (∀ k, (hk : k < l.length) → k < i → cmpN l[k].1 t < 0) ∧ Hd (∀ k, (hk : k < l.length) → j ≤ k → 0 ≤ cmpN l[k].1 t) ∧ Hd (Below w.heap.size w wr)) (fun iv jv _ => (intOf jv - intOf iv).toNat)
  case atStart => exact ⟨0, n, rfl, rfl, Nat.zero_le _, Nat.le_refl _, ⟨fun k hk h => by omega⟩, ⟨fun k hk h => by have := HN.out; omega⟩, ⟨Below.refl _ _⟩⟩
  case round =>
    obtain ⟨i, j, rfl, rfl, hij, hjn, HI, HJ, HB⟩ := hrel
    by_cases hlt : i < j
    · obtain ⟨h, hh⟩ : ∃ h, (i + j) / 2 = h := ⟨_, rfl⟩
      have hhj : h < n := by omega
      have hhl : h < l.length := by rw [HN.out]; exact hhj
      obtain ⟨b, off, rfl, hb, hr⟩ := rcK_form ecs_len (by decide) HL.out (by omega)
      have hx := hr h hhl wr HB.out
      obtain ⟨x, hx0⟩ : ∃ x, l[h] = x := ⟨_, rfl⟩
      have HLX : Hd (∀ hk : h < l.length, l[h] = x) := ⟨fun _ => hx0⟩
      rw [hx0] at hx
      have HX := Hd.mk hx
      have HH := Hd.mk hh
      have w1 : IntKind.u64.wrap ((i : Int) + (j : Int)) = (i : Int) + (j : Int) := by rw [IntKind.wrap_u64]; omega
      have w2' : ((i : Int) + (j : Int)) / 2 = (h : Int) := by omega
      have w3 : IntKind.i64.wrap (h : Int) = (h : Int) := by rw [IntKind.wrap_i64]; omega
      have w4 : IntKind.u64.wrap (h : Int) = (h : Int) := by rw [IntKind.wrap_u64]; omega
      have hhn : (h : Int) < (n : Int) := by omega
      have HIH : Hd (i ≤ h ∧ h < j) := ⟨by omega⟩
      clear hx hr hx0 hh hb
      by_cases hc : cmpN x.1 t < 0
      · have d1 : decide (cmpN x.1 t < 0) = true := by simpa using hc
        have HCN := Hd.mk hc
        go_wp2_with (first
          | (refine wpList_ldmid rfl 31 (.tmp 27) rfl b (off + h * 2) rfl _ _ HX.out Try.underlying31 rfl (ent_info.trans rfl) ?_)
          | (go_at_call 44; refine (at1_calls x t _).mono ?_; rintro e w2 ⟨rfl, hb⟩; have HB2 := Hd.mk (below_then HB.out HB.out.size hb); clear hb))
        go_roundw
        case rel =>
          refine ⟨h + 1, j, by go_num, rfl, by have := HIH.out; omega, hjn, ⟨fun k hk hkh => ?_⟩, HJ, HB2⟩
          have hhl2 : h < l.length := by rw [HN.out]; omega
          exact HM.out k h hk hhl2 (by omega) (by rw [HLX.out hhl2]; exact HCN.out)
        case measure => simp [intOf]; have := HIH.out; omega
      · have d1 : decide (cmpN x.1 t < 0) = false := by simpa using hc
        have HCN : Hd (0 ≤ cmpN x.1 t) := ⟨by omega⟩
        go_wp2_with (first
          | (refine wpList_ldmid rfl 31 (.tmp 27) rfl b (off + h * 2) rfl _ _ HX.out Try.underlying31 rfl (ent_info.trans rfl) ?_)
          | (go_at_call 44; refine (at1_calls x t _).mono ?_; rintro e w2 ⟨rfl, hb⟩; have HB2 := Hd.mk (below_then HB.out HB.out.size hb); clear hb))
        go_roundw
        case rel =>
          refine ⟨i, h, rfl, rfl, HIH.out.1, by have := HIH.out; omega, HI, ⟨fun k hk hkh => ?_⟩, HB2⟩
          have hhl2 : h < l.length := by rw [HN.out]; omega
          by_cases hcc : cmpN l[k].1 t < 0
          · have h5 := HM.out h k hhl2 hk hkh hcc
            rw [HLX.out hhl2] at h5
            have h6 := HCN.out
            omega
          · omega
        case measure => simp [intOf]; have := HIH.out; omega
    · obtain rfl : i = j := by omega
      by_cases hin : i < n
      · have hil : i < l.length := by rw [HN.out]; exact hin
        obtain ⟨b, off, rfl, hb, hr⟩ := rcK_form ecs_len (by decide) HL.out (by omega)
        have hx := hr i hil wr HB.out
        obtain ⟨x, hx0⟩ : ∃ x, l[i] = x := ⟨_, rfl⟩
        have HEX : Hd (decide (∃ hk : i < l.length, cmpN l[i].1 t = 0) = (cmpN x.1 t == 0)) := ⟨by
          rw [Bool.eq_iff_iff, decide_eq_true_eq, beq_iff_eq]
          exact ⟨fun ⟨h1, h2⟩ => by rw [← hx0]; exact h2, fun h2 => ⟨hil, by rw [hx0]; exact h2⟩⟩⟩
        rw [hx0] at hx
        have HX := Hd.mk hx
        have hin2 : (i : Int) < (n : Int) := by omega
        have HHJ := Hd.mk HJ
        clear hx hr hx0 hb hil HJ
        go_wp2_with (first
          | (refine wpList_ldmid rfl 31 (.tmp 43) rfl b (off + i * 2) rfl _ _ HX.out Try.underlying31 rfl (ent_info.trans rfl) ?_)
          | (go_at_call 44; refine (at1_calls x t _).mono ?_; rintro e w2 ⟨rfl, hb⟩; have HB2 := Hd.mk (below_then HB.out HB.out.size hb); clear hb))
        go_ret2
        refine ⟨i, by rw [HN.out]; exact hjn, HI.out, HHJ.out.out, ?_, HB2.out⟩
        rw [HEX.out]
        rfl
      · have hno : Hd (decide (∃ hk : i < l.length, cmpN l[i].1 t = 0) = false) := ⟨decide_eq_false (fun ⟨h1, _⟩ => hin (by rw [← HN.out]; exact h1))⟩
        have hin2 : decide ((i : Int) < (n : Int)) = false := by simpa using hin
        have HHJ := Hd.mk HJ
        clear HJ
        go_wp2
        go_ret2
        refine ⟨i, by rw [HN.out]; exact hjn, HI.out, HHJ.out.out, ?_, HB.out⟩
        rw [hno.out]
        rfl
end Go.Proofs.Ytiloeaenpanjcaa
/-! from P14 -/
namespace Go.Proofs.Ytiloeaenpanjcaa
open Go.RowKit Go.Sac
set_option linter.unusedVariables false
set_option linter.unusedSimpArgs false

theorem cb_le_lt : ∀ (a b c : List UInt8), ¬ Lib.compareBytes b a < 0 → Lib.compareBytes b c < 0 → Lib.compareBytes a c < 0
  | [], b, [], h1, h2 => by
    cases b with
    | nil => simp [Lib.compareBytes] at h2
    | cons y b => simp [Lib.compareBytes] at h2
  | [], b, z :: c, h1, h2 => by simp [Lib.compareBytes]
  | x :: a, [], c, h1, h2 => by simp [Lib.compareBytes] at h1
  | x :: a, y :: b, [], h1, h2 => by simp [Lib.compareBytes] at h2
  | x :: a, y :: b, z :: c, h1, h2 => by
    have ih := cb_le_lt a b c
    simp only [Lib.compareBytes, UInt8.lt_iff_toNat_lt] at h1 h2 ⊢
    by_cases p1 : y.toNat < x.toNat
    · rw [if_pos p1] at h1; exact absurd h1 (by decide)
    · rw [if_neg p1] at h1
      by_cases q1 : y.toNat < z.toNat
      · have : x.toNat < z.toNat := by omega
        rw [if_pos this]; decide
      · rw [if_neg q1] at h2
        by_cases q2 : z.toNat < y.toNat
        · rw [if_pos q2] at h2; exact absurd h2 (by decide)
        · rw [if_neg q2] at h2
          by_cases p2 : x.toNat < y.toNat
          · have : x.toNat < z.toNat := by omega
            rw [if_pos this]; decide
          · rw [if_neg p2] at h1
            rw [if_neg (by omega), if_neg (by omega)]
            exact ih h1 h2
theorem cb_eq : ∀ (a b : List UInt8), Lib.compareBytes a b = 0 ↔ a = b
  | [], [] => by simp [Lib.compareBytes]
  | [], y :: b => by simp [Lib.compareBytes]
  | x :: a, [] => by simp [Lib.compareBytes]
  | x :: a, y :: b => by
    have ih := cb_eq a b
    simp only [Lib.compareBytes, UInt8.lt_iff_toNat_lt]
    by_cases p1 : x.toNat < y.toNat
    · rw [if_pos p1]
      constructor
      · intro h; cases h
      · intro h; injection h with h _; subst h; omega
    · rw [if_neg p1]
      by_cases p2 : y.toNat < x.toNat
      · rw [if_pos p2]
        constructor
        · intro h; cases h
        · intro h; injection h with h _; subst h; omega
      · rw [if_neg p2, ih]
        have : x = y := UInt8.toNat_inj.1 (by omega)
        subst this
        simp
theorem cmpN_eq (a b : ByteArray) : cmpN a b = 0 ↔ a = b := by
  unfold cmpN
  rw [cb_eq]
  constructor
  · intro h
    cases a; cases b
    congr 1
    exact Array.toList_inj.1 h
  · intro h; rw [h]
theorem down_at (l : List Ent) : ∀ (m : Nat), downE l m = true → ∀ i, i < m → (h : i + 1 < l.length) → ¬ cmpN l[i + 1].1 (l[i]'(by omega)).1 < 0
  | 0, _, i, hi, _ => by omega
  | m + 1, hd, i, hi, h => by
    rw [downE, Bool.and_eq_true] at hd
    rcases (show i < m ∨ i = m by omega) with hlt | rfl
    · exact down_at l m hd.2 i hlt h
    · have h1 := hd.1
      rw [getD_ent l (i + 1) h, getD_ent l i (by omega)] at h1
      simpa using h1
theorem sorted_mono (l : List Ent) (t : ByteArray) (hs : sortedE l = true) : ∀ (a b : Nat) (ha : a < l.length) (hb : b < l.length), a ≤ b → cmpN l[b].1 t < 0 → cmpN l[a].1 t < 0 := by
  intro a b ha hb hab
  induction b with
  | zero =>
    intro h
    obtain rfl : a = 0 := by omega
    exact h
  | succ b ih =>
    intro h
    rcases (show a ≤ b ∨ a = b + 1 by omega) with h1 | rfl
    · refine ih (by omega) h1 ?_
      have h2 := down_at l (l.length - 1) hs b (by omega) hb
      exact cb_le_lt _ _ _ h2 h
    · exact h
end Go.Proofs.Ytiloeaenpanjcaa
