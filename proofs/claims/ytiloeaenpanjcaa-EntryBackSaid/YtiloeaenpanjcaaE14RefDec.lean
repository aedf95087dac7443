/- Walks: bytes as entries, by the document's answer. -/
import Derived.Test.YtiloeaenpanjcaaCGetRef
import Derived.Test.YtiloeaenpanjcaaE14Dec
import Derived.Test.YtiloeaenpanjcaaE14RefRight
namespace Go.Proofs.Ytiloeaenpanjcaa
open Go.RowKit Go.Sac
set_option linter.unusedVariables false
set_option linter.unusedSimpArgs false

theorem rget_small (A : Option Addr) (n c : Nat) (l : List UInt8) (w : World) (hl : Rc w A (bs l)) (hc : n ≤ c) (e1 : n = l.length) (hn : l.length ≤ 1000) :
    Calls Try.prog 43 #[.slice A n c] w fun e w' => e = .returned (.int .u64 (getB l : Int)) ∧ w' = w := by
  subst e1
  rw [get_m64]
  exact rget_calls A c l w hl hc (by omega)
theorem getD_at {l : List UInt8} {i : Nat} (h : i < l.length) : l.getD i 0 = l[i] := by
  rw [List.getD_eq_getElem?_getD, List.getElem?_eq_getElem h]; rfl
theorem chunk_at {b : List UInt8} {k j : Nat} (h : 32 * k + 32 ≤ b.length) (hj : j < 32) : (chunk b k).getD j 0 = b[32 * k + j]'(by omega) := by
  rw [getD_at (by rw [chunk_len h]; exact hj)]
  unfold chunk
  rw [List.getElem_take, List.getElem_drop]
/-- what the region yields that lays an entry -/
def RDEV (A A1 A2 : Option Addr) (n c p mm ln c1 c2 gv k : Nat) (x : Ent) (B : Nat) (X : List Ent) (ov : Value) (q : Nat) (w : World) (v : Value) : Prop :=
  match q with
  | 0 => v = ov
  | 1 => v = .slice A n c
  | 2 => v = .int .i64 (p : Int)
  | 3 => v = .int .i64 ((p : Int) + 1)
  | 4 => v = .int .i64 (p : Int)
  | 5 => v = .int .i64 ((p : Int) + 1)
  | 6 => v = .int .i64 (mm : Int)
  | 7 => v = .int .i64 ((p : Int) + 1 + (mm : Int))
  | 8 => v = .slice A1 ln c1
  | 9 => v = .string x.1
  | 10 => v = .slice A n c
  | 11 => v = .int .i64 (p : Int)
  | 12 => v = .int .i64 ((p : Int) + 28)
  | 13 => v = .int .i64 (p : Int)
  | 14 => v = .int .i64 ((p : Int) + 32)
  | 15 => v = .slice A2 4 c2
  | 16 => v = .int .u64 (gv : Int)
  | 17 => v = .int .i64 (gv : Int)
  | 18 => v = ev x
  | 19 => True
  | 20 => w.ownsRow B 31 2 v (k + 1) (ens (X ++ [x]))
  | 21 => w.ownsRow B 31 2 v (k + 1) (ens (X ++ [x]))
  | _ => True
theorem RDEV_stab {A A1 A2 : Option Addr} {n c p mm ln c1 c2 gv k : Nat} {x : Ent} {B : Nat} {X : List Ent} {ov : Value} (i j : Nat) (w w' : World) (v : Value) (hb : j = 20 ∨ j = 21 → Below w.heap.size w w') (h : RDEV A A1 A2 n c p mm ln c1 c2 gv k x B X ov j w v) : RDEV A A1 A2 n c p mm ln c1 c2 gv k x B X ov j w' v := by
  rcases j with _ | _ | _ | _ | _ | _ | _ | _ | _ | _ | _ | _ | _ | _ | _ | _ | _ | _ | _ | _ | _ | _ | j
  · exact h
  · exact h
  · exact h
  · exact h
  · exact h
  · exact h
  · exact h
  · exact h
  · exact h
  · exact h
  · exact h
  · exact h
  · exact h
  · exact h
  · exact h
  · exact h
  · exact h
  · exact h
  · exact h
  · exact h
  · exact own_below h (hb (Or.inl rfl))
  · exact own_below h (hb (Or.inr rfl))
  · exact h
set_option maxHeartbeats 16000000 in
set_option maxRecDepth 100000 in
theorem rdecode_calls (A : Option Addr) (n c : Nat) (b : List UInt8) (w : World) (hl : Rc w A (bs b)) (e1 : n = b.length) (hn : b.length ≤ 1000000) (hc : n ≤ c) :
    Calls Try.prog 26 #[.slice A n c] w (RetLE (decL b) (decR b) w) := by
  have HL := Hd.mk hl
  have HE := Hd.mk e1
  rw [← e1] at hn
  clear hl e1
  go_enter Try.func26, Try.ntmps26
  go_wp2
  go_loopw [4, 5] (fun ov iv wr => ∃ (k p : Nat), iv = .int .i64 (p : Int) ∧ p ≤ n ∧ Hd (p = 32 * k) ∧ Hd (∀ j, j < k → okC (chunk b j)) ∧ Hd (wr.ownsRow w.heap.size 31 2 ov k (ens (decRows b k))) ∧ Hd (Below w.heap.size w wr)) (fun _ iv _ => n - (intOf iv).toNat)
  case atStart => exact ⟨0, 0, rfl, Nat.zero_le _, ⟨rfl⟩, ⟨fun j hj => by omega⟩, ⟨World.ownsRow_nil _ _ _ _⟩, ⟨Below.refl _ _⟩⟩
  case round =>
    obtain ⟨k, p, rfl, hp, HP, HOK, HO, HB⟩ := hrel
    by_cases hlt : p < n
    · have hpi : (p : Int) < (n : Int) := by omega
      by_cases h32 : p + 32 > n
      · have hno : ¬ decOk b := fun ⟨h, _, _⟩ => by have := HP.out; have := HE.out; omega
        obtain ⟨e1, e2⟩ := dec_no hno
        have HD1 := Hd.mk e1
        have HD2 := Hd.mk e2
        have d1 : decide ((p : Int) + 32 > (n : Int)) = true := by simp; omega
        clear hno e1 e2
        go_wp2
        go_ret2
        show RetLE (decL b) (decR b) w _ _
        rw [HD1.out, HD2.out]
        exact retle_nil _ _ _ HB.out
      have hp32 : p + 32 ≤ n := by omega
      have d1 : decide ((p : Int) + 32 > (n : Int)) = false := by simp; omega
      have hkb : k ≤ 1000000 := by have := HP.out; omega
      have hk24 : (k + 1) * 24 ≤ 140737488355328 := by omega
      have hpb : p < b.length := by rw [← HE.out]; exact hlt
      have h32k : 32 * k + 32 ≤ b.length := by have := HP.out; have := HE.out; omega
      obtain ⟨bb, off, rfl, hbb, hcell⟩ := (HL.out.below HB.out).form (by rw [bs_len]; omega)
      obtain ⟨qn, hq⟩ : ∃ qn, (b[p]).toNat = qn := ⟨_, rfl⟩
      have hqn : qn < 256 := by rw [← hq]; exact b[p].toNat_lt
      have hc0 : wr.cell? ⟨bb, off + p, none⟩ = some (.int .u8 (qn : Int)) := by rw [← hq]; exact hcell p _ (bs_at hpb)
      have HCELL : Hd (∀ j, (hj : j < b.length) → wr.cell? ⟨bb, off + j, none⟩ = some (.int .u8 (b[j].toNat : Int))) := ⟨fun j hj => hcell j _ (bs_at hj)⟩
      have hhd : (headC (chunk b k)).toNat = qn := by
        unfold headC
        rw [chunk_at h32k (by omega), ← hq]
        simp only [Nat.add_zero, HP.out]
      have HHD := Hd.mk hhd
      by_cases hq27 : qn > 27
      · have hno : ¬ decOk b := dec_bad h32k (fun ⟨h, _⟩ => by omega)
        obtain ⟨e1, e2⟩ := dec_no hno
        have HD1 := Hd.mk e1
        have HD2 := Hd.mk e2
        have d2 : decide ((qn : Int) > 27) = true := by simp; omega
        clear hno e1 e2 hhd hcell hbb hpb hq h32k
        go_wp2
        go_ret2
        show RetLE (decL b) (decR b) w _ _
        rw [HD1.out, HD2.out]
        exact retle_nil _ _ _ HB.out
      have d2 : decide ((qn : Int) > 27) = false := by simp; omega
      have hm27 : qn ≤ 27 := by omega
      have hwq : wrap64 (qn : Int) = (qn : Int) := w64_small qn (by omega)
      obtain ⟨OA, oc, rfl, _, _, _⟩ := own_rc HO.out
      clear hcell hbb hhd
      -- the cuts, the name, the number
      have hck : chunk b k = (b.drop p).take 32 := by unfold chunk; rw [HP.out]
      have hcl : ((b.drop p).take 32).length = 32 := by rw [List.length_take, List.length_drop, ← HE.out]; omega
      have hlc : lenC (chunk b k) = qn := by
        unfold lenC
        rw [HHD.out]; omega
      obtain ⟨A1, h1, r1, _⟩ := cut_mid 42 5 Try.underlying42 info_u8 (some ⟨bb, off, none⟩) n c (p + 1) (p + 1 + qn) (by omega) (by omega) hc
      obtain ⟨A2, h2, r2, _⟩ := cut_mid 42 5 Try.underlying42 info_u8 (some ⟨bb, off, none⟩) n c (p + 28) (p + 32) (by omega) (by omega) hc
      rw [show p + 1 + qn - (p + 1) = qn by omega] at h1
      rw [show p + 32 - (p + 28) = 4 by omega] at h2
      have i1 : ((p + 1 : Nat) : Int) = (p : Int) + 1 := by omega
      have i2 : ((p + 1 + qn : Nat) : Int) = (p : Int) + 1 + (qn : Int) := by omega
      have i3 : ((p + 28 : Nat) : Int) = (p : Int) + 28 := by omega
      have i4 : ((p + 32 : Nat) : Int) = (p : Int) + 32 := by omega
      rw [i1, i2] at h1
      rw [i3, i4] at h2
      obtain ⟨nm, hnm⟩ : ∃ nm, ((chunk b k).drop 1).take qn = nm := ⟨_, rfl⟩
      obtain ⟨ml, hml⟩ : ∃ ml, (chunk b k).drop 28 = ml := ⟨_, rfl⟩
      obtain ⟨gv, hgv⟩ : ∃ gv, getB ml = gv := ⟨_, rfl⟩
      have hnl : nm.length = qn := by rw [← hnm, hck, List.length_take, List.length_drop, hcl]; omega
      have hll : ml.length = 4 := by rw [← hml, hck, List.length_drop, hcl]
      have hgb : gv < 4294967296 := by rw [← hgv, ← hml, hck]; exact getB_chunk b p (by rw [← HE.out]; exact hp32)
      have HC1 : Hd (∀ W, (Instr.sliceAt 42 (.slice (some ⟨bb, off, none⟩) n c) (some (.int .i64 ((p : Int) + 1))) (some (.int .i64 ((p : Int) + 1 + (qn : Int)))) none).run Try.prog W = .ok (.slice A1 qn (c - (p + 1))) W) := ⟨fun W => by rw [slice_u8]; exact h1 W⟩
      have HC2 : Hd (∀ W, (Instr.sliceAt 42 (.slice (some ⟨bb, off, none⟩) n c) (some (.int .i64 ((p : Int) + 28))) (some (.int .i64 ((p : Int) + 32))) none).run Try.prog W = .ok (.slice A2 4 (c - (p + 28))) W) := ⟨fun W => by rw [slice_u8]; exact h2 W⟩
      have HR1 : Hd (∀ W, Below w.heap.size w W → Rc W A1 (bs nm)) := ⟨fun W hW => by
        have h := r1 W (bs b) (by rw [bs_len, HE.out]) (HL.out.below hW)
        have e : ((bs b).take (p + 1 + qn)).drop (p + 1) = bs nm := by
          rw [← hnm, hck, ← cut_name b p qn (by omega)]
          simp [bs, List.map_take, List.map_drop]
        rwa [e] at h⟩
      have HR2 : Hd (∀ W, Below w.heap.size w W → Rc W A2 (bs ml)) := ⟨fun W hW => by
        have h := r2 W (bs b) (by rw [bs_len, HE.out]) (HL.out.below hW)
        have e : ((bs b).take (p + 32)).drop (p + 28) = bs ml := by
          rw [← hml, hck, ← cut_node b p]
          simp [bs, List.map_take, List.map_drop]
        rwa [e] at h⟩
      have HST : Hd (∀ W, Below w.heap.size w W → (convert 42 9 (.slice A1 qn (c - (p + 1)))).run Try.prog W = .ok (.string ⟨nm.toArray⟩) W) := ⟨fun W hW => by
        have h := run_str (P := Try.prog) W 42 5 9 Try.underlying42 Try.underlying5 Try.underlying9 A1 (c - (p + 1)) nm (HR1.out W hW)
        rwa [hnl] at h⟩
      have HGT : Hd (∀ W, Below w.heap.size w W → Calls Try.prog 43 #[.slice A2 4 (c - (p + 28))] W fun e w' => e = .returned (.int .u64 (gv : Int)) ∧ w' = W) := ⟨fun W hW => by
        rw [← hgv]
        exact rget_small A2 4 (c - (p + 28)) ml W (HR2.out W hW) (by omega) hll.symm (by omega)⟩
      have HDR : Hd (decRow b k = (⟨nm.toArray⟩, (gv : Int))) := ⟨by unfold decRow rowC; rw [hlc, hnm, hml, hgv]⟩
      obtain ⟨x, hx⟩ : ∃ x : Ent, ((⟨nm.toArray⟩, (gv : Int)) : Ent) = x := ⟨_, rfl⟩
      have hwg : wrap64 (gv : Int) = (gv : Int) := w64_small gv hgb
      clear hck hcl hlc h1 h2 r1 r2 i1 i2 i3 i4 hnm hml hgv hnl hll hq hpb
      obtain ⟨xs, hxs⟩ : ∃ xs : ByteArray, (⟨nm.toArray⟩ : ByteArray) = xs := ⟨_, rfl⟩
      rw [hxs] at HST HDR hx
      subst hx
      clear hxs
      have HP32 := Hd.mk h32k
      clear h32k
      go_wp2
      go_loop [7] (fun kv => ∃ j : Nat, kv = .int .i64 (j : Int) ∧ p + 1 + qn ≤ j ∧ j ≤ p + 28 ∧ Hd (∀ t, p + 1 + qn ≤ t → t < j → b.getD t 0 = 0)) (fun kv => p + 28 - (intOf kv).toNat)
      case atStart => exact ⟨p + 1 + qn, by go_num, Nat.le_refl _, by omega, ⟨fun t h1 h2 => by omega⟩⟩
      case round =>
        obtain ⟨j, rfl, hj1, hj2, HJ⟩ := hrel
        by_cases hjl : j < p + 28
        · have hjb : j < b.length := by have := HE.out; omega
          have hcj := HCELL.out j hjb
          have hji : (j : Int) < (p : Int) + 28 := by omega
          have hjn : (j : Int) < (n : Int) := by omega
          by_cases hz : b[j] = 0
          · have HZ : Hd (b.getD j 0 = 0) := ⟨by rw [getD_at hjb]; exact hz⟩
            rw [hz] at hcj
            clear hz hjb
            go_wp2
            go_round
            case rel =>
              refine ⟨j + 1, by go_num, by omega, by omega, ⟨fun t h1 h2 => ?_⟩⟩
              rcases (show t < j ∨ t = j by omega) with h | rfl
              · exact HJ.out t h1 h
              · exact HZ.out
            case measure => simp [intOf]; omega
          · have hno : ¬ decOk b := dec_bad HP32.out (fun ⟨_, h⟩ => hz (by
              have h2 := h (j - p) (by have := HHD.out; omega) (by omega)
              rw [chunk_at HP32.out (by omega)] at h2
              have e : 32 * k + (j - p) = j := by have := HP.out; omega
              simp only [e] at h2
              exact h2))
            obtain ⟨e1, e2⟩ := dec_no hno
            have HD1 := Hd.mk e1
            have HD2 := Hd.mk e2
            obtain ⟨tn, htn⟩ : ∃ tn, (b[j]).toNat = tn := ⟨_, rfl⟩
            have hnz : ((tn : Int) != 0) = true := by
              simp only [bne_iff_ne, ne_eq]
              intro h
              apply hz
              apply UInt8.toNat_inj.1
              rw [htn]
              show tn = 0
              omega
            rw [htn] at hcj
            clear hno e1 e2 hz htn hjb
            go_wp2
            go_ret2
            show RetLE (decL b) (decR b) w _ _
            rw [HD1.out, HD2.out]
            exact retle_nil _ _ _ HB.out
        · have hji : ¬ ((j : Int) < (p : Int) + 28) := by omega
          have HOC : Hd (okC (chunk b k)) := ⟨⟨by rw [HHD.out]; exact hm27, fun t h1 h2 => by
            rw [chunk_at HP32.out (by omega), ← getD_at]
            rw [HHD.out] at h1
            have e : 32 * k + t = p + t := by have := HP.out; omega
            rw [e]
            exact HJ.out (p + t) (by omega) (by omega)⟩⟩
          clear HJ HCELL
          go_wp2
          refine region_famH (fun f => #[Value.slice (some ⟨bb, off, none⟩) n c, undef, u2, u3, f 21, Value.int .i64 (p : Int), Value.int .i64 (qn : Int), Value.int .i64 (j : Int), Value.int .i64 (p : Int), Value.slice (some ⟨bb, off, none⟩) n c, Value.int .i64 (n : Int), Value.bool true, u12, u13, Value.int .i64 (p : Int), Value.int .i64 ((p : Int) + 32), Value.slice (some ⟨bb, off, none⟩) n c, Value.int .i64 (n : Int), Value.bool false, Value.bool false, Value.slice (some ⟨bb, off, none⟩) n c, Value.int .i64 (p : Int), Value.pointer (some ⟨bb, off + p, none⟩), Value.int .u8 (qn : Int), Value.bool false, Value.bool false, Value.slice (some ⟨bb, off, none⟩) n c, Value.int .i64 (p : Int), Value.pointer (some ⟨bb, off + p, none⟩), Value.int .u8 (qn : Int), Value.int .i64 (qn : Int), Value.int .i64 (p : Int), Value.int .i64 ((p : Int) + 1), Value.int .i64 (qn : Int), Value.int .i64 ((p : Int) + 1 + (qn : Int)), Value.int .i64 (j : Int), Value.int .i64 (p : Int), Value.int .i64 ((p : Int) + 28), Value.bool false, u39, u40, u41, u42, u43, u44, u45, f 0, f 1, f 2, f 3, f 4, f 5, f 6, f 7, f 8, f 9, f 10, f 11, f 12, f 13, f 14, f 15, f 16, f 17, f 18, f 19, f 20, undef, undef, undef, undef])
            (RDEV (some ⟨bb, off, none⟩) A1 A2 n c p qn qn (c - (p + 1)) (c - (p + 28)) gv k (xs, (gv : Int)) w.heap.size (decRows b k) (.slice OA k oc)) (AppG w w.heap.size 31 2 k (ens (decRows b k)) (.slice OA k oc) (ecs (xs, (gv : Int))) 19 20) (DR 20) (by kernel_rfl) (by kernel_rfl)
            (fun i => if i = 21 then .slice OA k oc else if i = 0 then u46 else if i = 1 then u47 else if i = 2 then u48 else if i = 3 then u49 else if i = 4 then u50 else if i = 5 then u51 else if i = 6 then u52 else if i = 7 then u53 else if i = 8 then u54 else if i = 9 then u55 else if i = 10 then u56 else if i = 11 then u57 else if i = 12 then u58 else if i = 13 then u59 else if i = 14 then u60 else if i = 15 then u61 else if i = 16 then u62 else if i = 17 then u63 else if i = 18 then u64 else if i = 19 then u65 else if i = 20 then u66 else undef) rfl ⟨HB.out.drew, HB.out.size, fun _ => own_below HO.out ((Below.refl _ _).drew), nofun⟩ ?stab ?put ?step ?fin
          case stab =>
            intro i j w1 w2 v o ho hne haf hR h
            refine RDEV_stab i j w1 w2 v (fun hj => hR ?_) h
            rintro rfl
            rcases hj with rfl | rfl
            · exact hne rfl
            · injection ho with ho; subst ho; exact haf ⟨20, .data⟩ (by simp) rfl rfl
          case put =>
            intro i o ho f v
            rcases i with _ | _ | _ | _ | _ | _ | _ | _ | _ | _ | _ | _ | _ | _ | _ | _ | _ | _ | _ | _ | _ | _ | i
            all_goals first | (injection ho with ho; subst ho; rfl) | (cases ho)
          case step =>
            intro L q o ho hq f w6 hG hfr hp
            rcases q with _ | _ | _ | _ | _ | _ | _ | _ | _ | _ | _ | _ | _ | _ | _ | _ | _ | _ | _ | _ | _ | _ | q
            · injection ho with ho; subst ho
              have hx : f 21 = (.slice OA k oc) := hfr 21 _ rfl ⟨0, .phase⟩ (by simp) rfl rfl
              exact wpOp_go rfl rfl (wp_mvv _ rfl ⟨_, rfl, hG.past 0 _ (by decide) (by decide), fun _ => Below.refl _ _, hx⟩)
            · injection ho with ho; subst ho
              exact wpOp_go rfl rfl (wp_mvv _ rfl ⟨_, rfl, hG.past 1 _ (by decide) (by decide), fun _ => Below.refl _ _, rfl⟩)
            · injection ho with ho; subst ho
              exact wpOp_go rfl rfl (wp_mvv _ rfl ⟨_, rfl, hG.past 2 _ (by decide) (by decide), fun _ => Below.refl _ _, rfl⟩)
            · injection ho with ho; subst ho
              have h2 : f 2 = _ := (hp ⟨2, .data⟩ (by simp) rfl).2
              simp only [h2]
              refine wpOp_go rfl rfl ?_
              go_simp
              first | exact ⟨hG.past 3 _ (by decide) (by decide), fun _ => Below.refl _ _, rfl⟩ | exact ⟨hG.past 3 _ (by decide) (by decide), fun _ => Below.refl _ _, congrArg (Value.int .i64) (by rw [IntKind.wrap_i64]; omega)⟩
            · injection ho with ho; subst ho
              exact wpOp_go rfl rfl (wp_mvv _ rfl ⟨_, rfl, hG.past 4 _ (by decide) (by decide), fun _ => Below.refl _ _, rfl⟩)
            · injection ho with ho; subst ho
              have h4 : f 4 = _ := (hp ⟨4, .data⟩ (by simp) rfl).2
              simp only [h4]
              refine wpOp_go rfl rfl ?_
              go_simp
              first | exact ⟨hG.past 5 _ (by decide) (by decide), fun _ => Below.refl _ _, rfl⟩ | exact ⟨hG.past 5 _ (by decide) (by decide), fun _ => Below.refl _ _, congrArg (Value.int .i64) (by rw [IntKind.wrap_i64]; omega)⟩
            · injection ho with ho; subst ho
              exact wpOp_go rfl rfl (wp_mvv _ rfl ⟨_, rfl, hG.past 6 _ (by decide) (by decide), fun _ => Below.refl _ _, rfl⟩)
            · injection ho with ho; subst ho
              have h5 : f 5 = _ := (hp ⟨5, .data⟩ (by simp) rfl).2
              have h6 : f 6 = _ := (hp ⟨6, .data⟩ (by simp) rfl).2
              simp only [h5, h6]
              refine wpOp_go rfl rfl ?_
              go_simp
              first | exact ⟨hG.past 7 _ (by decide) (by decide), fun _ => Below.refl _ _, rfl⟩ | exact ⟨hG.past 7 _ (by decide) (by decide), fun _ => Below.refl _ _, congrArg (Value.int .i64) (by rw [IntKind.wrap_i64]; omega)⟩
            · injection ho with ho; subst ho
              have h1 : f 1 = _ := (hp ⟨1, .data⟩ (by simp) rfl).2
              have h3 : f 3 = _ := (hp ⟨3, .data⟩ (by simp) rfl).2
              have h7 : f 7 = _ := (hp ⟨7, .data⟩ (by simp) rfl).2
              simp only [h1, h3, h7]
              refine wpOp_go rfl rfl (wp_slc _ _ _ _ _ rfl _ (HC1.out _) ?_)
              exact ⟨_, rfl, hG.past 8 _ (by decide) (by decide), fun _ => Below.refl _ _, rfl⟩
            · injection ho with ho; subst ho
              have h8 : f 8 = _ := (hp ⟨8, .data⟩ (by simp) rfl).2
              simp only [h8]
              refine wpOp_go rfl rfl (wp_cnv _ _ _ rfl _ (HST.out _ hG.bel) ?_)
              exact ⟨_, rfl, hG.past 9 _ (by decide) (by decide), fun _ => Below.refl _ _, rfl⟩
            · injection ho with ho; subst ho
              exact wpOp_go rfl rfl (wp_mvv _ rfl ⟨_, rfl, hG.past 10 _ (by decide) (by decide), fun _ => Below.refl _ _, rfl⟩)
            · injection ho with ho; subst ho
              exact wpOp_go rfl rfl (wp_mvv _ rfl ⟨_, rfl, hG.past 11 _ (by decide) (by decide), fun _ => Below.refl _ _, rfl⟩)
            · injection ho with ho; subst ho
              have h11 : f 11 = _ := (hp ⟨11, .data⟩ (by simp) rfl).2
              simp only [h11]
              refine wpOp_go rfl rfl ?_
              go_simp
              first | exact ⟨hG.past 12 _ (by decide) (by decide), fun _ => Below.refl _ _, rfl⟩ | exact ⟨hG.past 12 _ (by decide) (by decide), fun _ => Below.refl _ _, congrArg (Value.int .i64) (by rw [IntKind.wrap_i64]; omega)⟩
            · injection ho with ho; subst ho
              exact wpOp_go rfl rfl (wp_mvv _ rfl ⟨_, rfl, hG.past 13 _ (by decide) (by decide), fun _ => Below.refl _ _, rfl⟩)
            · injection ho with ho; subst ho
              have h13 : f 13 = _ := (hp ⟨13, .data⟩ (by simp) rfl).2
              simp only [h13]
              refine wpOp_go rfl rfl ?_
              go_simp
              first | exact ⟨hG.past 14 _ (by decide) (by decide), fun _ => Below.refl _ _, rfl⟩ | exact ⟨hG.past 14 _ (by decide) (by decide), fun _ => Below.refl _ _, congrArg (Value.int .i64) (by rw [IntKind.wrap_i64]; omega)⟩
            · injection ho with ho; subst ho
              have h10 : f 10 = _ := (hp ⟨10, .data⟩ (by simp) rfl).2
              have h12 : f 12 = _ := (hp ⟨12, .data⟩ (by simp) rfl).2
              have h14 : f 14 = _ := (hp ⟨14, .data⟩ (by simp) rfl).2
              simp only [h10, h12, h14]
              refine wpOp_go rfl rfl (wp_slc _ _ _ _ _ rfl _ (HC2.out _) ?_)
              exact ⟨_, rfl, hG.past 15 _ (by decide) (by decide), fun _ => Below.refl _ _, rfl⟩
            · injection ho with ho; subst ho
              have h15 : f 15 = _ := (hp ⟨15, .data⟩ (by simp) rfl).2
              simp only [h15]
              refine wpOp_go rfl rfl ?_
              go_simp
              refine (HGT.out _ hG.bel).mono ?_
              rintro e w7 ⟨rfl, hw⟩
              obtain rfl := hw
              exact ⟨hG.past 16 _ (by decide) (by decide), fun _ => Below.refl _ _, rfl⟩
            · injection ho with ho; subst ho
              have h16 : f 16 = _ := (hp ⟨16, .data⟩ (by simp) rfl).2
              simp only [h16]
              refine wpOp_go rfl rfl ?_
              go_simp
              first | exact ⟨hG.past 17 _ (by decide) (by decide), fun _ => Below.refl _ _, rfl⟩ | exact ⟨hG.past 17 _ (by decide) (by decide), fun _ => Below.refl _ _, congrArg (Value.int .i64) (wi64_small gv hgb)⟩
            · injection ho with ho; subst ho
              have h9 : f 9 = _ := (hp ⟨9, .data⟩ (by simp) rfl).2
              have h17 : f 17 = _ := (hp ⟨17, .data⟩ (by simp) rfl).2
              simp only [h9, h17]
              refine wpOp_go rfl rfl ?_
              go_simp
              exact ⟨hG.past 18 _ (by decide) (by decide), fun _ => Below.refl _ _, rfl⟩
            · injection ho with ho; subst ho
              have h18 : f 18 = _ := (hp ⟨18, .data⟩ (by simp) rfl).2
              simp only [h18, ev]
              refine wpOp_go rfl rfl ?_
              go_simp
              exact ⟨hG.built (by decide), fun _ => (Below.refl _ _).alloc (Nat.le_refl _) _, trivial⟩
            · injection ho with ho; subst ho
              have h0 : f 0 = _ := (hp ⟨0, .data⟩ (by simp) rfl).2
              obtain ⟨g, hg, hgb⟩ := hG.row (hp ⟨19, .data⟩ (by simp) rfl).1 hq
              simp only [h0, hg]
              refine wpOp_go rfl rfl (wp_app w.heap.size 25 31 _ 2 24 _ _ rfl Try.underlying25 info_ent rfl (by decide) (by decide) _ k (ens (decRows b k)) (ecs (xs, (gv : Int))) _ 1 1 rfl rfl (hG.own hq) hgb.rc rfl (ecs_one _) hG.siz hk24 (k + 1) (ens ((decRows b k) ++ [(xs, (gv : Int))])) rfl (by rw [ens_app, ens_single]) ?_)
              intro v1 w1 ho hgr hat
              exact ⟨_, rfl, hG.done hq v1 hgr, fun h => absurd rfl h, ho⟩
            · injection ho with ho; subst ho
              have h20 := (hp ⟨20, .data⟩ (by simp) rfl).2
              exact wpOp_go rfl rfl (wp_asn _ rfl ⟨_, rfl, hG.past 21 _ (by decide) (by decide), fun _ => Below.refl _ _, h20⟩)
            · cases ho
          case fin =>
            intro L f w6 hL hG hV
            have h21 := Hd.mk (hV 21 (by simp))
            have HB6 := Hd.mk hG.bel
            clear hG hV hL
            dsimp only [RDEV] at h21
            go_wp2
            go_roundw
            case rel =>
              refine ⟨k + 1, p + 32, by go_num, by omega, ⟨by have := HP.out; omega⟩, ⟨fun t ht => ?_⟩, ⟨by rw [decRows_snoc, HDR.out]; exact h21.out⟩, HB6⟩
              rcases (show t < k ∨ t = k by omega) with h | rfl
              · exact HOK.out t h
              · exact HOC.out
            case measure => simp [intOf]; omega
    · obtain rfl : p = n := by omega
      have hkn : k = b.length / 32 := by have := HP.out; have := HE.out; omega
      have h32b : b.length % 32 = 0 := by have := HP.out; have := HE.out; omega
      have hsm := dec_small (b := b) (n := k) (by have := HP.out; have := HE.out; omega)
      have hkb : k ≤ 1000000 := by have := HP.out; omega
      obtain ⟨D, hD⟩ : ∃ D, decRows b k = D := ⟨_, rfl⟩
      rw [hD] at HO hsm
      have HSM : Hd (∀ y ∈ D, y.1.size ≤ 140737488351232) := ⟨fun y hy => by have := hsm y hy; omega⟩
      have HDL : Hd (D.length = k) := ⟨by rw [← hD, decRows_len]⟩
      obtain ⟨OA, oc, rfl, _, hro, _⟩ := own_rc HO.out
      have RO := Hd.mk hro
      clear hro hsm
      cases hr : rightE D
      · have hno : ¬ decOk b := fun ⟨_, h, _⟩ => by rw [← hkn, hD, hr] at h; cases h
        obtain ⟨e1, e2⟩ := dec_no hno
        have HD1 := Hd.mk e1
        have HD2 := Hd.mk e2
        have HR := Hd.mk hr
        clear hno e1 e2 hr hD hkn h32b
        go_wp2_with (go_at_call 22; refine (rright_calls OA k oc D _ RO.out HDL.out.symm (by rw [HDL.out]; omega) HSM.out).mono ?_; rw [HR.out]; rintro e w5 ⟨rfl, hb⟩; have HB := Hd.mk (below_then HB.out HB.out.size hb); clear hb)
        go_ret2
        show RetLE (decL b) (decR b) w _ _
        rw [HD1.out, HD2.out]
        exact retle_nil _ _ _ HB.out
      · have hyes : decOk b := dec_all h32b (by rw [← hkn, hD]; exact hr) (fun j hj => HOK.out j (by omega))
        obtain ⟨e1, e2⟩ := dec_yes hyes
        rw [← hkn, hD] at e1
        have HD1 := Hd.mk e1
        have HD2 := Hd.mk e2
        have HR := Hd.mk hr
        clear hyes e1 e2 hr hD hkn h32b
        go_wp2_with (go_at_call 22; refine (rright_calls OA k oc D _ RO.out HDL.out.symm (by rw [HDL.out]; omega) HSM.out).mono ?_; rw [HR.out]; rintro e w5 ⟨rfl, hb⟩; have HO := Hd.mk (own_below HO.out hb); have HB := Hd.mk (below_then HB.out HB.out.size hb); clear hb)
        go_ret2
        show RetLE (decL b) (decR b) w _ _
        rw [HD1.out, HD2.out]
        refine ⟨_, rfl, ?_, HB.out⟩
        rw [HDL.out]
        exact HO.out
end Go.Proofs.Ytiloeaenpanjcaa
