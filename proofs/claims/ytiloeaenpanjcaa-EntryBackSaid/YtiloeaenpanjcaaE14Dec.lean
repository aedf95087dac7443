/- Walks: bytes as entries, by the program. -/
import Derived.Test.YtiloeaenpanjcaaCEqual
import Derived.Test.YtiloeaenpanjcaaP14d
import Derived.Test.YtiloeaenpanjcaaBase15
namespace Go.Proofs.Ytiloeaenpanjcaa
open Go.RowKit Go.Sac
set_option linter.unusedVariables false
set_option linter.unusedSimpArgs false

theorem min_cast {a b : Nat} (h : min a 27 = b) : min (a : Int) 27 = (b : Int) := by omega
theorem w64_small (n : Nat) (h : n < 4294967296) : wrap64 (n : Int) = (n : Int) := by unfold wrap64; omega
theorem wi64_small (n : Nat) (h : n < 4294967296) : IntKind.i64.wrap (n : Int) = (n : Int) := by rw [IntKind.wrap_i64]; omega
def DR (ap q : Nat) (w w' : World) : Prop := q ≠ ap → Below w.heap.size w w'
theorem equal_b (A B : Option Addr) (n k c d : Nat) (l m : List UInt8) (w : World) (hl : Rc w A (bs l)) (hm : Rc w B (bs m)) (hn : l.length ≤ 1099511627776) (e1 : n = l.length) (e2 : k = m.length) :
    Calls Try.prog 42 #[.slice A n c, .slice B k d] w fun e w' => e = .returned (.bool (l == m)) ∧ Below w.heap.size w w' := by
  subst e1; subst e2
  by_cases h : l.length = m.length
  · exact (equal_long A B c d l m w hl hm h.symm (by omega)).mono fun e w' ⟨h1, h2⟩ => ⟨h1, by rw [h2]; exact (Below.refl _ _).alloc (Nat.le_refl _) _⟩
  · refine (equal_short A B c d l m w h).mono fun e w' ⟨h1, h2⟩ => ⟨?_, by rw [h2]; exact Below.refl _ _⟩
    have : (l == m) = false := by rw [beq_eq_false_iff_ne]; rintro rfl; exact h rfl
    rw [this]; exact h1
theorem slice_u8 (x : Value) (lo hi mx : Option Value) (w : World) : (Instr.sliceAt 42 x lo hi mx).run Try.prog w = (Instr.slice 42 x lo hi mx).run Try.prog w := by
  unfold Instr.sliceAt
  simp [Sem.run_bind, run_underlying Try.underlying42, Result.andThen]
theorem getB_chunk (b : List UInt8) (p : Nat) (h : p + 32 ≤ b.length) : getB (((b.drop p).take 32).drop 28) < 4294967296 := by
  have hl : (((b.drop p).take 32).drop 28).length = 4 := by rw [List.length_drop, List.length_take, List.length_drop]; omega
  rw [getB_small _ (by omega)]
  have := num_lt (((b.drop p).take 32).drop 28)
  rw [hl] at this
  exact this
/-- what the region yields that lays an entry -/
def DEV (A A1 A2 : Option Addr) (n c p mm ln c1 c2 gv k : Nat) (x : Ent) (B : Nat) (X : List Ent) (ov : Value) (q : Nat) (w : World) (v : Value) : Prop :=
  match q with
  | 0 => v = ov
  | 1 => v = .slice A n c
  | 2 => v = .int .i64 (p : Int)
  | 3 => v = .int .i64 ((p : Int) + 1)
  | 4 => v = .int .i64 (p : Int)
  | 5 => v = .int .i64 ((p : Int) + 1)
  | 6 => v = .int .i64 (mm : Int)
  | 7 => v = .int .i64 ((p : Int) + 1 + (mm : Int))
  | 8 => v = .slice A1 ln c1
  | 9 => v = .string x.1
  | 10 => v = .slice A n c
  | 11 => v = .int .i64 (p : Int)
  | 12 => v = .int .i64 ((p : Int) + 32)
  | 13 => v = .int .i64 ((p : Int) + 28)
  | 14 => v = .int .i64 (p : Int)
  | 15 => v = .int .i64 ((p : Int) + 32)
  | 16 => v = .slice A2 4 c2
  | 17 => v = .int .u64 (gv : Int)
  | 18 => v = .int .i64 (gv : Int)
  | 19 => v = ev x
  | 20 => True
  | 21 => w.ownsRow B 31 2 v (k + 1) (ens (X ++ [x]))
  | 22 => w.ownsRow B 31 2 v (k + 1) (ens (X ++ [x]))
  | _ => True
theorem DEV_stab {A A1 A2 : Option Addr} {n c p mm ln c1 c2 gv k : Nat} {x : Ent} {B : Nat} {X : List Ent} {ov : Value} (i j : Nat) (w w' : World) (v : Value) (hb : j = 21 ∨ j = 22 → Below w.heap.size w w') (h : DEV A A1 A2 n c p mm ln c1 c2 gv k x B X ov j w v) : DEV A A1 A2 n c p mm ln c1 c2 gv k x B X ov j w' v := by
  rcases j with _ | _ | _ | _ | _ | _ | _ | _ | _ | _ | _ | _ | _ | _ | _ | _ | _ | _ | _ | _ | _ | _ | _ | j
  · exact h
  · exact h
  · exact h
  · exact h
  · exact h
  · exact h
  · exact h
  · exact h
  · exact h
  · exact h
  · exact h
  · exact h
  · exact h
  · exact h
  · exact h
  · exact h
  · exact h
  · exact h
  · exact h
  · exact h
  · exact h
  · exact own_below h (hb (Or.inl rfl))
  · exact own_below h (hb (Or.inr rfl))
  · exact h
set_option maxHeartbeats 16000000 in
set_option maxRecDepth 100000 in
theorem decode_walk (A : Option Addr) (n c : Nat) (b : List UInt8) (w : World) (hl : Rc w A (bs b)) (e1 : n = b.length) (hn : b.length ≤ 1000000) (hc : n ≤ c) (h32 : n % 32 = 0) :
    Calls Try.prog 25 #[.slice A n c] w (RetLE (decL b) (decR b) w) := by
  have HL := Hd.mk hl
  have HE := Hd.mk e1
  have h0 : ((n : Int) % 32 != 0) = false := by simp; omega
  rw [← e1] at hn
  clear hl e1
  go_enter Try.func25, Try.ntmps25
  go_wp2
  go_loopw [4, 5] (fun ov iv wr => ∃ (k p : Nat), iv = .int .i64 (p : Int) ∧ p ≤ n ∧ Hd (p = 32 * k) ∧ Hd (wr.ownsRow w.heap.size 31 2 ov k (ens (decRows b k))) ∧ Hd (Below w.heap.size w wr)) (fun _ iv _ => n - (intOf iv).toNat)
  case atStart => exact ⟨0, 0, rfl, Nat.zero_le _, ⟨rfl⟩, ⟨World.ownsRow_nil _ _ _ _⟩, ⟨Below.refl _ _⟩⟩
  case round =>
    obtain ⟨k, p, rfl, hp, HP, HO, HB⟩ := hrel
    by_cases hlt : p < n
    · have hp32 : p + 32 ≤ n := by have := HP.out; omega
      have hkb : k ≤ 1000000 := by have := HP.out; omega
      have hk24 : (k + 1) * 24 ≤ 140737488355328 := by omega
      have hpi : (p : Int) < (n : Int) := by omega
      have hpb : p < b.length := by rw [← HE.out]; exact hlt
      obtain ⟨bb, off, rfl, hbb, hcell⟩ := (HL.out.below HB.out).form (by rw [bs_len]; omega)
      obtain ⟨qn, hq⟩ : ∃ qn, (b[p]).toNat = qn := ⟨_, rfl⟩
      have hqn : qn < 256 := by rw [← hq]; exact b[p].toNat_lt
      have hc0 : wr.cell? ⟨bb, off + p, none⟩ = some (.int .u8 (qn : Int)) := by rw [← hq]; exact hcell p _ (bs_at hpb)
      obtain ⟨mm, hmm2⟩ : ∃ mm : Nat, min qn 27 = mm := ⟨_, rfl⟩
      have hmm : min (qn : Int) 27 = (mm : Int) := min_cast hmm2
      have hm27 : mm ≤ 27 := by rw [← hmm2]; exact Nat.min_le_right _ _
      have hwq : wrap64 (qn : Int) = (qn : Int) := w64_small qn (by omega)
      obtain ⟨OA, oc, rfl, _, _, _⟩ := own_rc HO.out
      clear hcell hbb
      -- the cuts, the name, the number
      have hck : chunk b k = (b.drop p).take 32 := by unfold chunk; rw [HP.out]
      have hcl : ((b.drop p).take 32).length = 32 := by rw [List.length_take, List.length_drop, ← HE.out]; omega
      have hlc : lenC (chunk b k) = mm := by
        unfold lenC
        rw [hck, head_at hcl, List.getElem_take, List.getElem_drop]
        simp only [Nat.add_zero]
        rw [hq]; exact hmm2
      obtain ⟨A1, h1, r1, _⟩ := cut_mid 42 5 Try.underlying42 info_u8 (some ⟨bb, off, none⟩) n c (p + 1) (p + 1 + mm) (by omega) (by omega) hc
      obtain ⟨A2, h2, r2, _⟩ := cut_mid 42 5 Try.underlying42 info_u8 (some ⟨bb, off, none⟩) n c (p + 28) (p + 32) (by omega) (by omega) hc
      rw [show p + 1 + mm - (p + 1) = mm by omega] at h1
      rw [show p + 32 - (p + 28) = 4 by omega] at h2
      have i1 : ((p + 1 : Nat) : Int) = (p : Int) + 1 := by omega
      have i2 : ((p + 1 + mm : Nat) : Int) = (p : Int) + 1 + (mm : Int) := by omega
      have i3 : ((p + 28 : Nat) : Int) = (p : Int) + 28 := by omega
      have i4 : ((p + 32 : Nat) : Int) = (p : Int) + 32 := by omega
      rw [i1, i2] at h1
      rw [i3, i4] at h2
      obtain ⟨nm, hnm⟩ : ∃ nm, ((chunk b k).drop 1).take mm = nm := ⟨_, rfl⟩
      obtain ⟨ml, hml⟩ : ∃ ml, (chunk b k).drop 28 = ml := ⟨_, rfl⟩
      obtain ⟨gv, hgv⟩ : ∃ gv, getB ml = gv := ⟨_, rfl⟩
      have hnl : nm.length = mm := by rw [← hnm, hck, List.length_take, List.length_drop, hcl]; omega
      have hll : ml.length = 4 := by rw [← hml, hck, List.length_drop, hcl]
      have hgb : gv < 4294967296 := by rw [← hgv, ← hml, hck]; exact getB_chunk b p (by rw [← HE.out]; exact hp32)
      have HC1 : Hd (∀ W, (Instr.sliceAt 42 (.slice (some ⟨bb, off, none⟩) n c) (some (.int .i64 ((p : Int) + 1))) (some (.int .i64 ((p : Int) + 1 + (mm : Int)))) none).run Try.prog W = .ok (.slice A1 mm (c - (p + 1))) W) := ⟨fun W => by rw [slice_u8]; exact h1 W⟩
      have HC2 : Hd (∀ W, (Instr.sliceAt 42 (.slice (some ⟨bb, off, none⟩) n c) (some (.int .i64 ((p : Int) + 28))) (some (.int .i64 ((p : Int) + 32))) none).run Try.prog W = .ok (.slice A2 4 (c - (p + 28))) W) := ⟨fun W => by rw [slice_u8]; exact h2 W⟩
      have HR1 : Hd (∀ W, Below w.heap.size w W → Rc W A1 (bs nm)) := ⟨fun W hW => by
        have h := r1 W (bs b) (by rw [bs_len, HE.out]) (HL.out.below hW)
        have e : ((bs b).take (p + 1 + mm)).drop (p + 1) = bs nm := by
          rw [← hnm, hck, ← cut_name b p mm (by omega)]
          simp [bs, List.map_take, List.map_drop]
        rwa [e] at h⟩
      have HR2 : Hd (∀ W, Below w.heap.size w W → Rc W A2 (bs ml)) := ⟨fun W hW => by
        have h := r2 W (bs b) (by rw [bs_len, HE.out]) (HL.out.below hW)
        have e : ((bs b).take (p + 32)).drop (p + 28) = bs ml := by
          rw [← hml, hck, ← cut_node b p]
          simp [bs, List.map_take, List.map_drop]
        rwa [e] at h⟩
      have HST : Hd (∀ W, Below w.heap.size w W → (convert 42 9 (.slice A1 mm (c - (p + 1)))).run Try.prog W = .ok (.string ⟨nm.toArray⟩) W) := ⟨fun W hW => by
        have h := run_str (P := Try.prog) W 42 5 9 Try.underlying42 Try.underlying5 Try.underlying9 A1 (c - (p + 1)) nm (HR1.out W hW)
        rwa [hnl] at h⟩
      have HGT : Hd (∀ W, Below w.heap.size w W → Calls Try.prog 41 #[.slice A2 4 (c - (p + 28))] W fun e w' => e = .returned (.int .u64 (gv : Int)) ∧ w' = W) := ⟨fun W hW => by
        rw [← hgv]
        exact get_any A2 4 (c - (p + 28)) ml W (HR2.out W hW) (by omega) (by omega) hll.symm⟩
      have HDR : Hd (decRow b k = (⟨nm.toArray⟩, (gv : Int))) := ⟨by unfold decRow rowC; rw [hlc, hnm, hml, hgv]⟩
      obtain ⟨x, hx⟩ : ∃ x : Ent, ((⟨nm.toArray⟩, (gv : Int)) : Ent) = x := ⟨_, rfl⟩
      have hwg : wrap64 (gv : Int) = (gv : Int) := w64_small gv hgb
      clear hck hcl hlc h1 h2 r1 r2 i1 i2 i3 i4 hnm hml hgv hnl hll hq hmm2 hpb
      obtain ⟨xs, hxs⟩ : ∃ xs : ByteArray, (⟨nm.toArray⟩ : ByteArray) = xs := ⟨_, rfl⟩
      rw [hxs] at HST HDR hx
      subst hx
      clear hxs
      go_wp2
      refine region_famH (fun f => #[Value.slice (some ⟨bb, off, none⟩) n c, undef, Value.slice none 0 0, Value.int .i64 0, f 22, Value.int .i64 (p : Int), Value.int .i64 (mm : Int), undef, undef, Value.slice (some ⟨bb, off, none⟩) n c, Value.int .i64 (n : Int), Value.int .i64 ((n : Int) % 32), Value.bool false, Value.int .i64 (p : Int), Value.slice (some ⟨bb, off, none⟩) n c, Value.int .i64 (n : Int), Value.bool true, u17, u18, Value.slice (some ⟨bb, off, none⟩) n c, Value.int .i64 (p : Int), Value.pointer (some ⟨bb, off + p, none⟩), Value.int .u8 (qn : Int), Value.int .i64 (qn : Int), Value.int .i64 (mm : Int), f 0, f 1, f 2, f 3, f 4, f 5, f 6, f 7, f 8, f 9, f 10, f 11, f 12, f 13, f 14, f 15, f 16, f 17, f 18, f 19, f 20, f 21, undef, undef, undef, undef, undef, undef, undef, undef, undef, undef, undef, undef, undef, undef])
        (DEV (some ⟨bb, off, none⟩) A1 A2 n c p mm mm (c - (p + 1)) (c - (p + 28)) gv k (xs, (gv : Int)) w.heap.size (decRows b k) (.slice OA k oc)) (AppG w w.heap.size 31 2 k (ens (decRows b k)) (.slice OA k oc) (ecs (xs, (gv : Int))) 20 21) (DR 21) (by kernel_rfl) (by kernel_rfl)
        (fun i => if i = 22 then .slice OA k oc else if i = 0 then u25 else if i = 1 then u26 else if i = 2 then u27 else if i = 3 then u28 else if i = 4 then u29 else if i = 5 then u30 else if i = 6 then u31 else if i = 7 then u32 else if i = 8 then u33 else if i = 9 then u34 else if i = 10 then u35 else if i = 11 then u36 else if i = 12 then u37 else if i = 13 then u38 else if i = 14 then u39 else if i = 15 then u40 else if i = 16 then u41 else if i = 17 then u42 else if i = 18 then u43 else if i = 19 then u44 else if i = 20 then u45 else if i = 21 then u46 else undef) rfl ⟨HB.out.drew, HB.out.size, fun _ => own_below HO.out ((Below.refl _ _).drew), nofun⟩ ?stab ?put ?step ?fin
      case stab =>
        intro i j w1 w2 v o ho hne haf hR h
        refine DEV_stab i j w1 w2 v (fun hj => hR ?_) h
        rintro rfl
        rcases hj with rfl | rfl
        · exact hne rfl
        · injection ho with ho; subst ho; exact haf ⟨21, .data⟩ (by simp) rfl rfl
      case put =>
        intro i o ho f v
        rcases i with _ | _ | _ | _ | _ | _ | _ | _ | _ | _ | _ | _ | _ | _ | _ | _ | _ | _ | _ | _ | _ | _ | _ | i
        all_goals first | (injection ho with ho; subst ho; rfl) | (cases ho)
      case step =>
        intro L q o ho hq f w6 hG hfr hp
        rcases q with _ | _ | _ | _ | _ | _ | _ | _ | _ | _ | _ | _ | _ | _ | _ | _ | _ | _ | _ | _ | _ | _ | _ | q
        · injection ho with ho; subst ho
          have hx : f 22 = (.slice OA k oc) := hfr 22 _ rfl ⟨0, .phase⟩ (by simp) rfl rfl
          exact wpOp_go rfl rfl (wp_mvv _ rfl ⟨_, rfl, hG.past 0 _ (by decide) (by decide), fun _ => Below.refl _ _, hx⟩)
        · injection ho with ho; subst ho
          exact wpOp_go rfl rfl (wp_mvv _ rfl ⟨_, rfl, hG.past 1 _ (by decide) (by decide), fun _ => Below.refl _ _, rfl⟩)
        · injection ho with ho; subst ho
          exact wpOp_go rfl rfl (wp_mvv _ rfl ⟨_, rfl, hG.past 2 _ (by decide) (by decide), fun _ => Below.refl _ _, rfl⟩)
        · injection ho with ho; subst ho
          have h2 : f 2 = _ := (hp ⟨2, .data⟩ (by simp) rfl).2
          simp only [h2]
          refine wpOp_go rfl rfl ?_
          go_simp
          first | exact ⟨hG.past 3 _ (by decide) (by decide), fun _ => Below.refl _ _, rfl⟩ | exact ⟨hG.past 3 _ (by decide) (by decide), fun _ => Below.refl _ _, congrArg (Value.int .i64) (by rw [IntKind.wrap_i64]; omega)⟩
        · injection ho with ho; subst ho
          exact wpOp_go rfl rfl (wp_mvv _ rfl ⟨_, rfl, hG.past 4 _ (by decide) (by decide), fun _ => Below.refl _ _, rfl⟩)
        · injection ho with ho; subst ho
          have h4 : f 4 = _ := (hp ⟨4, .data⟩ (by simp) rfl).2
          simp only [h4]
          refine wpOp_go rfl rfl ?_
          go_simp
          first | exact ⟨hG.past 5 _ (by decide) (by decide), fun _ => Below.refl _ _, rfl⟩ | exact ⟨hG.past 5 _ (by decide) (by decide), fun _ => Below.refl _ _, congrArg (Value.int .i64) (by rw [IntKind.wrap_i64]; omega)⟩
        · injection ho with ho; subst ho
          exact wpOp_go rfl rfl (wp_mvv _ rfl ⟨_, rfl, hG.past 6 _ (by decide) (by decide), fun _ => Below.refl _ _, rfl⟩)
        · injection ho with ho; subst ho
          have h5 : f 5 = _ := (hp ⟨5, .data⟩ (by simp) rfl).2
          have h6 : f 6 = _ := (hp ⟨6, .data⟩ (by simp) rfl).2
          simp only [h5, h6]
          refine wpOp_go rfl rfl ?_
          go_simp
          first | exact ⟨hG.past 7 _ (by decide) (by decide), fun _ => Below.refl _ _, rfl⟩ | exact ⟨hG.past 7 _ (by decide) (by decide), fun _ => Below.refl _ _, congrArg (Value.int .i64) (by rw [IntKind.wrap_i64]; omega)⟩
        · injection ho with ho; subst ho
          have h1 : f 1 = _ := (hp ⟨1, .data⟩ (by simp) rfl).2
          have h3 : f 3 = _ := (hp ⟨3, .data⟩ (by simp) rfl).2
          have h7 : f 7 = _ := (hp ⟨7, .data⟩ (by simp) rfl).2
          simp only [h1, h3, h7]
          refine wpOp_go rfl rfl (wp_slc _ _ _ _ _ rfl _ (HC1.out _) ?_)
          exact ⟨_, rfl, hG.past 8 _ (by decide) (by decide), fun _ => Below.refl _ _, rfl⟩
        · injection ho with ho; subst ho
          have h8 : f 8 = _ := (hp ⟨8, .data⟩ (by simp) rfl).2
          simp only [h8]
          refine wpOp_go rfl rfl (wp_cnv _ _ _ rfl _ (HST.out _ hG.bel) ?_)
          exact ⟨_, rfl, hG.past 9 _ (by decide) (by decide), fun _ => Below.refl _ _, rfl⟩
        · injection ho with ho; subst ho
          exact wpOp_go rfl rfl (wp_mvv _ rfl ⟨_, rfl, hG.past 10 _ (by decide) (by decide), fun _ => Below.refl _ _, rfl⟩)
        · injection ho with ho; subst ho
          exact wpOp_go rfl rfl (wp_mvv _ rfl ⟨_, rfl, hG.past 11 _ (by decide) (by decide), fun _ => Below.refl _ _, rfl⟩)
        · injection ho with ho; subst ho
          have h11 : f 11 = _ := (hp ⟨11, .data⟩ (by simp) rfl).2
          simp only [h11]
          refine wpOp_go rfl rfl ?_
          go_simp
          first | exact ⟨hG.past 12 _ (by decide) (by decide), fun _ => Below.refl _ _, rfl⟩ | exact ⟨hG.past 12 _ (by decide) (by decide), fun _ => Below.refl _ _, congrArg (Value.int .i64) (by rw [IntKind.wrap_i64]; omega)⟩
        · injection ho with ho; subst ho
          have h12 : f 12 = _ := (hp ⟨12, .data⟩ (by simp) rfl).2
          simp only [h12]
          refine wpOp_go rfl rfl ?_
          go_simp
          first | exact ⟨hG.past 13 _ (by decide) (by decide), fun _ => Below.refl _ _, rfl⟩ | exact ⟨hG.past 13 _ (by decide) (by decide), fun _ => Below.refl _ _, congrArg (Value.int .i64) (by rw [IntKind.wrap_i64]; omega)⟩
        · injection ho with ho; subst ho
          exact wpOp_go rfl rfl (wp_mvv _ rfl ⟨_, rfl, hG.past 14 _ (by decide) (by decide), fun _ => Below.refl _ _, rfl⟩)
        · injection ho with ho; subst ho
          have h14 : f 14 = _ := (hp ⟨14, .data⟩ (by simp) rfl).2
          simp only [h14]
          refine wpOp_go rfl rfl ?_
          go_simp
          first | exact ⟨hG.past 15 _ (by decide) (by decide), fun _ => Below.refl _ _, rfl⟩ | exact ⟨hG.past 15 _ (by decide) (by decide), fun _ => Below.refl _ _, congrArg (Value.int .i64) (by rw [IntKind.wrap_i64]; omega)⟩
        · injection ho with ho; subst ho
          have h10 : f 10 = _ := (hp ⟨10, .data⟩ (by simp) rfl).2
          have h13 : f 13 = _ := (hp ⟨13, .data⟩ (by simp) rfl).2
          have h15 : f 15 = _ := (hp ⟨15, .data⟩ (by simp) rfl).2
          simp only [h10, h13, h15]
          refine wpOp_go rfl rfl (wp_slc _ _ _ _ _ rfl _ (HC2.out _) ?_)
          exact ⟨_, rfl, hG.past 16 _ (by decide) (by decide), fun _ => Below.refl _ _, rfl⟩
        · injection ho with ho; subst ho
          have h16 : f 16 = _ := (hp ⟨16, .data⟩ (by simp) rfl).2
          simp only [h16]
          refine wpOp_go rfl rfl ?_
          go_simp
          refine (HGT.out _ hG.bel).mono ?_
          rintro e w7 ⟨rfl, hw⟩
          obtain rfl := hw
          exact ⟨hG.past 17 _ (by decide) (by decide), fun _ => Below.refl _ _, rfl⟩
        · injection ho with ho; subst ho
          have h17 : f 17 = _ := (hp ⟨17, .data⟩ (by simp) rfl).2
          simp only [h17]
          refine wpOp_go rfl rfl ?_
          go_simp
          first | exact ⟨hG.past 18 _ (by decide) (by decide), fun _ => Below.refl _ _, rfl⟩ | exact ⟨hG.past 18 _ (by decide) (by decide), fun _ => Below.refl _ _, congrArg (Value.int .i64) (wi64_small gv hgb)⟩
        · injection ho with ho; subst ho
          have h9 : f 9 = _ := (hp ⟨9, .data⟩ (by simp) rfl).2
          have h18 : f 18 = _ := (hp ⟨18, .data⟩ (by simp) rfl).2
          simp only [h9, h18]
          refine wpOp_go rfl rfl ?_
          go_simp
          exact ⟨hG.past 19 _ (by decide) (by decide), fun _ => Below.refl _ _, rfl⟩
        · injection ho with ho; subst ho
          have h19 : f 19 = _ := (hp ⟨19, .data⟩ (by simp) rfl).2
          simp only [h19, ev]
          refine wpOp_go rfl rfl ?_
          go_simp
          exact ⟨hG.built (by decide), fun _ => (Below.refl _ _).alloc (Nat.le_refl _) _, trivial⟩
        · injection ho with ho; subst ho
          have h0 : f 0 = _ := (hp ⟨0, .data⟩ (by simp) rfl).2
          obtain ⟨g, hg, hgb⟩ := hG.row (hp ⟨20, .data⟩ (by simp) rfl).1 hq
          simp only [h0, hg]
          refine wpOp_go rfl rfl (wp_app w.heap.size 25 31 _ 2 24 _ _ rfl Try.underlying25 info_ent rfl (by decide) (by decide) _ k (ens (decRows b k)) (ecs (xs, (gv : Int))) _ 1 1 rfl rfl (hG.own hq) hgb.rc rfl (ecs_one _) hG.siz hk24 (k + 1) (ens ((decRows b k) ++ [(xs, (gv : Int))])) rfl (by rw [ens_app, ens_single]) ?_)
          intro v1 w1 ho hgr hat
          exact ⟨_, rfl, hG.done hq v1 hgr, fun h => absurd rfl h, ho⟩
        · injection ho with ho; subst ho
          have h21 := (hp ⟨21, .data⟩ (by simp) rfl).2
          exact wpOp_go rfl rfl (wp_asn _ rfl ⟨_, rfl, hG.past 22 _ (by decide) (by decide), fun _ => Below.refl _ _, h21⟩)
        · cases ho
      case fin =>
        intro L f w6 hL hG hV
        have h22 := Hd.mk (hV 22 (by simp))
        have HB6 := Hd.mk hG.bel
        clear hG hV hL
        dsimp only [DEV] at h22
        go_wp2
        go_roundw
        case rel => exact ⟨k + 1, p + 32, by go_num, by omega, ⟨by have := HP.out; omega⟩, ⟨by rw [decRows_snoc, HDR.out]; exact h22.out⟩, HB6⟩
        case measure => simp [intOf]; omega
    · obtain rfl : p = n := by omega
      have hkn : k = b.length / 32 := by have := HP.out; have := HE.out; omega
      have h32b : b.length % 32 = 0 := by rw [← HE.out]; exact h32
      have hsm := dec_small (b := b) (n := k) (by have := HP.out; have := HE.out; omega)
      have hkb : k ≤ 1000000 := by have := HP.out; omega
      obtain ⟨D, hD⟩ : ∃ D, decRows b k = D := ⟨_, rfl⟩
      rw [hD] at HO hsm
      have HSM : Hd (∀ y ∈ D, y.1.size ≤ 140737488351232) := ⟨fun y hy => by have := hsm y hy; omega⟩
      have HDL : Hd (D.length = k) := ⟨by rw [← hD, decRows_len]⟩
      obtain ⟨OA, oc, rfl, _, hro, _⟩ := own_rc HO.out
      have RO := Hd.mk hro
      clear hro hsm
      cases hr : rightE D
      · have hno : ¬ decOk b := fun ⟨_, h, _⟩ => by rw [← hkn, hD, hr] at h; cases h
        obtain ⟨e1, e2⟩ := dec_no hno
        have HD1 := Hd.mk e1
        have HD2 := Hd.mk e2
        have HER : Hd (encR D = 2) := ⟨by unfold encR; rw [hr]; rfl⟩
        clear hno e1 e2 hr hD hkn h32b
        go_wp2_with (go_at_call 23; refine (encode_calls OA k oc D _ RO.out HDL.out.symm (by rw [HDL.out]; omega) HSM.out).mono ?_; rw [HER.out]; rintro e w5 ⟨v5, rfl, ho, hb⟩; have HB := Hd.mk (below_then HB.out HB.out.size hb); clear ho hb)
        go_ret2
        show RetLE (decL b) (decR b) w _ _
        rw [HD1.out, HD2.out]
        exact retle_nil _ _ _ HB.out
      · have HER : Hd (encR D = 0) := ⟨by unfold encR; rw [hr]; rfl⟩
        have HEB : Hd (encB D = encRows D) := ⟨by unfold encB; rw [hr]; rfl⟩
        cases he : (b == encRows D)
        · have hno : ¬ decOk b := fun ⟨_, _, h⟩ => by
            rw [← hkn, hD] at h
            rw [h] at he
            simp at he
          obtain ⟨e1, e2⟩ := dec_no hno
          have HD1 := Hd.mk e1
          have HD2 := Hd.mk e2
          have HEQ := Hd.mk he
          clear hno e1 e2 hr hD hkn h32b he
          go_wp2_with (first
            | (go_at_call 23; refine (encode_calls OA k oc D _ RO.out HDL.out.symm (by rw [HDL.out]; omega) HSM.out).mono ?_; rw [HER.out, HEB.out]; rintro e w5 ⟨v5, rfl, ho, hb⟩; obtain ⟨A5, c5, rfl, _, hr5, _⟩ := own_rc ho; have R5 := Hd.mk hr5; have HB := Hd.mk (below_then HB.out HB.out.size hb); clear ho hb hr5)
            | (go_at_call 42; refine (equal_b _ _ _ _ _ _ b (encRows D) _ (HL.out.below HB.out) R5.out (by have := HE.out; omega) HE.out rfl).mono ?_; rw [HEQ.out]; rintro e w6 ⟨rfl, hb⟩; have HB := Hd.mk (below_then HB.out HB.out.size hb); clear hb))
          go_ret2
          show RetLE (decL b) (decR b) w _ _
          rw [HD1.out, HD2.out]
          exact retle_nil _ _ _ HB.out
        · have hyes : decOk b := ⟨h32b, by rw [← hkn, hD]; exact hr, by rw [← hkn, hD]; exact (eq_of_beq he).symm⟩
          obtain ⟨e1, e2⟩ := dec_yes hyes
          rw [← hkn, hD] at e1
          have HD1 := Hd.mk e1
          have HD2 := Hd.mk e2
          have HEQ := Hd.mk he
          clear hyes e1 e2 hr hD hkn h32b he
          go_wp2_with (first
            | (go_at_call 23; refine (encode_calls OA k oc D _ RO.out HDL.out.symm (by rw [HDL.out]; omega) HSM.out).mono ?_; rw [HER.out, HEB.out]; rintro e w5 ⟨v5, rfl, ho, hb⟩; obtain ⟨A5, c5, rfl, _, hr5, _⟩ := own_rc ho; have R5 := Hd.mk hr5; have HO := Hd.mk (own_below HO.out hb); have HB := Hd.mk (below_then HB.out HB.out.size hb); clear ho hb hr5)
            | (go_at_call 42; refine (equal_b _ _ _ _ _ _ b (encRows D) _ (HL.out.below HB.out) R5.out (by have := HE.out; omega) HE.out rfl).mono ?_; rw [HEQ.out]; rintro e w6 ⟨rfl, hb⟩; have HO := Hd.mk (own_below HO.out hb); have HB := Hd.mk (below_then HB.out HB.out.size hb); clear hb))
          go_ret2
          show RetLE (decL b) (decR b) w _ _
          rw [HD1.out, HD2.out]
          refine ⟨_, rfl, ?_, HB.out⟩
          rw [HDL.out]
          exact HO.out
theorem decode_calls (A : Option Addr) (n c : Nat) (b : List UInt8) (w : World) (hl : Rc w A (bs b)) (e1 : n = b.length) (hn : b.length ≤ 1000000) (hc : n ≤ c) :
    Calls Try.prog 25 #[.slice A n c] w (RetLE (decL b) (decR b) w) := by
  by_cases h32 : n % 32 = 0
  · exact decode_walk A n c b w hl e1 hn hc h32
  · obtain ⟨e2, e3⟩ := dec_no (b := b) (fun ⟨h, _, _⟩ => h32 (by rw [e1]; exact h))
    rw [e2, e3]
    have h0 : ((n : Int) % 32 != 0) = true := by simp; omega
    clear e1 e2 e3 hl
    go_enter Try.func25, Try.ntmps25
    go_wp2
    go_ret2
    exact retle_nil _ _ _ (Below.refl _ _)
end Go.Proofs.Ytiloeaenpanjcaa
