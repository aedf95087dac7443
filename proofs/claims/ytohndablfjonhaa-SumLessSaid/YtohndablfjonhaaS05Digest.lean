/- Walks: words as a digest. -/
import Derived.Laws.CopyOwn
import Derived.Deep.RegionLaw
import Derived.Test.YtohndablfjonhaaS05RefLess
namespace Go.Proofs.Ytohndablfjonhaa
open Go.RowKit Go.Sac
set_option linter.unusedVariables false
set_option linter.unusedSimpArgs false

def digT (ws : List Nat) (k : Nat) : List UInt8 := List.replicate (32 - 8 * k) 0 ++ ((ws.take k).reverse.map (fun x => putB x 8)).flatten
theorem slice_dig (g k : Nat) (hk : k < 4) (w : World) : (Instr.sliceAt 23 (.pointer (some ⟨g, 0, none⟩)) (some (.int .i64 (24 - 8 * (k : Int)))) none none).run Try.prog w = .ok (.slice (some ⟨g, 24 - 8 * k, none⟩) (8 + 8 * k) (8 + 8 * k)) w := by
  have har : Try.prog.arrayLen 23 = 32 := by kernel_rfl
  have hel : Try.prog.elem 23 = 5 := by kernel_rfl
  rw [run_sliceAt_array_l w 23 ⟨g, 0, none⟩ (by rw [har, hel]; exact Try.underlying23) .i64 _ (by omega) (by rw [har]; omega), hel, Try.sizeOf5, har]
  have e1 : (24 - 8 * (k : Int)).toNat = 24 - 8 * k := by omega
  rw [e1]
  show Result.ok (slicedAt ⟨g, 0, none⟩ (24 - 8 * k) 32 32 1) w = _
  unfold slicedAt
  rw [if_neg (by omega), addr_add, show 32 - (24 - 8 * k) = 8 + 8 * k by omega, Nat.mul_one, Nat.zero_add]
theorem index_w4 (cs : Array Value) (k : Nat) (v : Value) (hk : k < 4) (hv : cs[k]? = some v) (w : World) : (Instr.index 29 (.agg cs) (.int .i64 (k : Int))).run Try.prog w = .ok v w := by
  have h2 : ((k : Int) < 4) := by omega
  simp [Instr.index, asIntOf, run_underlying Try.underlying29, part, Try.isAgg28, Try.sizeOf28, Sem.run_bind, h2, hv, Result.andThen]
  intro h; omega
theorem splice_mid (A B C R : List Value) (n : Nat) (hA : A.length = n) (hB : B.length = C.length) : splice (A ++ (B ++ R)) n C = A ++ (C ++ R) := by
  unfold splice
  subst hA
  rw [List.take_left, ← List.append_assoc A B R, List.drop_left' (by rw [List.length_append, hB])]
theorem digT_step (ws : List Nat) (k : Nat) (hk : k < 4) (x : Nat) (hx : ws[k]? = some x) : splice (bs (digT ws k)) (24 - 8 * k) (bs (putB x 8)) = bs (digT ws (k + 1)) := by
  have hl : k < ws.length := (List.getElem?_eq_some_iff.1 hx).1
  have hxe : ws[k] = x := (List.getElem?_eq_some_iff.1 hx).2
  have e1 : digT ws (k + 1) = List.replicate (32 - 8 * (k + 1)) 0 ++ (putB x 8 ++ ((ws.take k).reverse.map (fun x => putB x 8)).flatten) := by
    unfold digT
    rw [List.take_succ_eq_append_getElem hl, hxe]; simp
  have e2 : digT ws k = List.replicate (24 - 8 * k) 0 ++ (List.replicate 8 0 ++ ((ws.take k).reverse.map (fun x => putB x 8)).flatten) := by
    unfold digT
    rw [← List.append_assoc, List.replicate_append_replicate]; congr 2; omega
  rw [e1, e2, show 32 - 8 * (k + 1) = 24 - 8 * k by omega]
  simp only [bs, List.map_append]
  exact splice_mid _ _ _ _ _ (by simp) (by simp [putB_len])
theorem digT_len (ws : List Nat) (k : Nat) (hk : k ≤ 4) (hw : ws.length = 4) : (digT ws k).length = 32 := by
  unfold digT
  have : ∀ l : List Nat, ((l.map (fun x => putB x 8)).flatten).length = 8 * l.length := by
    intro l
    induction l with
    | nil => rfl
    | cons x l ih => rw [List.map_cons, List.flatten_cons, List.length_append, putB_len, ih, List.length_cons]; omega
  rw [List.length_append, List.length_replicate, this, List.length_reverse, List.length_take]
  omega

set_option maxHeartbeats 4000000 in
theorem digest_calls (ws : List Nat) (w : World) (hw : ws.length = 4) (hx : ∀ x ∈ ws, x ≤ 18446744073709551615) :
    Calls Try.prog 15 #[wd ws] w fun e w' => e = .returned (dg (digT ws 4)) ∧ Below w.heap.size w w' := by
  unfold wd
  have B0 := Hd.mk (Blk.new w 29 (ws.map u64v))
  go_enter Try.func15, Try.ntmps15
  go_wp2_with (refine wpList_load_row rfl 29 (.tmp 1) rfl w.heap.size rfl 29 (ws.map u64v).toArray (0, 0) (.array 4 28) (((B0.out).alloc _).alloc _) Try.underlying29 rfl (info_w4.trans (by simp [hw])) ?_)
  have B1 : Hd (Blk (((w.alloc (.cells (ws.map u64v).toArray 29)).alloc (.cells (bs (digT ws 0)).toArray 23)).alloc (.cells (bs (digT ws 0)).toArray 23)) (w.heap.size + 1) 23 (bs (digT ws 0))) := ⟨by
    have := (Blk.new (w.alloc (.cells (ws.map u64v).toArray 29)) 23 (bs (digT ws 0))).alloc (.cells (bs (digT ws 0)).toArray 23)
    rw [World.size_alloc] at this; exact this⟩
  have B2 : Hd (Blk (((w.alloc (.cells (ws.map u64v).toArray 29)).alloc (.cells (bs (digT ws 0)).toArray 23)).alloc (.cells (bs (digT ws 0)).toArray 23)) (w.heap.size + 1 + 1) 23 (bs (digT ws 0))) := ⟨by
    have := (Blk.new ((w.alloc (.cells (ws.map u64v).toArray 29)).alloc (.cells (bs (digT ws 0)).toArray 23)) 23 (bs (digT ws 0)))
    rw [World.size_alloc, World.size_alloc] at this; exact this⟩
  have HB : Hd (Below w.heap.size w (((w.alloc (.cells (ws.map u64v).toArray 29)).alloc (.cells (bs (digT ws 0)).toArray 23)).alloc (.cells (bs (digT ws 0)).toArray 23))) := ⟨(((Below.refl _ w).alloc (Nat.le_refl _) _).alloc (by simp) _).alloc (by simp; omega) _⟩
  go_loopw [4, 5, 7] (fun _ _ i wr => ∃ k : Nat, k ≤ 4 ∧ i = .int .i64 k ∧ Hd (Blk wr (w.heap.size + 1) 23 (bs (digT ws 0))) ∧ Hd (Blk wr (w.heap.size + 1 + 1) 23 (bs (digT ws k))) ∧ Hd (Below w.heap.size w wr)) (fun _ _ i _ => 4 - (intOf i).toNat)
  case atStart => exact ⟨0, by omega, rfl, B1, B2, HB⟩
  case round =>
    clear B0 B1 B2 HB
    obtain ⟨k, hk, rfl, B1, B2, HB⟩ := hrel
    by_cases hlt : k < 4
    · have hkl : k < ws.length := by omega
      obtain ⟨x, hxk⟩ : ∃ x, ws[k]? = some x := ⟨_, List.getElem?_eq_getElem hkl⟩
      have hx8 : x ≤ 18446744073709551615 := hx x (List.mem_of_getElem? hxk)
      have hix := index_w4 (ws.map u64v).toArray k (.int .u64 (x : Int)) hlt (by simp [hxk, u64v]) wr
      have hsl := slice_dig (w.heap.size + 1 + 1) k hlt wr.drew
      have e8 : IntKind.i64.wrap (8 * (k : Int)) = 8 * (k : Int) := by simp [IntKind.wrap, IntKind.bits, IntKind.signed]; omega
      have e24 : IntKind.i64.wrap (24 - 8 * (k : Int)) = 24 - 8 * (k : Int) := by simp [IntKind.wrap, IntKind.bits, IntKind.signed]; omega
      have HS := Hd.mk (digT_step ws k hlt x hxk)
      clear hxk hx
      have hput : putW 8 = 8 := by decide
      have HN : Hd ((x : Int).toNat = x) := ⟨Int.toNat_natCast x⟩
      have hdl := digT_len ws k hk hw
      have HDL := Hd.mk hdl
      have info1 : (Try.prog.info? 5).map (·.size) = some 1 := by kernel_rfl
      have INF := Hd.mk info1
      clear hdl info1
      go_wp2_with (fail)
      go_region_law (first
        | (go_simp; go_at_call 18; refine (put_any _ _ _ (by omega)).mono ?_; rintro e w2 ⟨v2, rfl, ho2, hb2⟩; rw [hput, HN.out] at ho2; obtain ⟨A2, c2, rfl, hc2, hr2, hn2⟩ := own_rc ho2; obtain ⟨g2, off2, rfl, _, hr2⟩ := hr2.form (by rw [bs_len, putB_len]; omega); rw [putB_len]; have hsl2 := slice_dig (w.heap.size + 1 + 1) k hlt w2; have HP := Hd.mk hr2; have HP2 := Hd.mk hb2; clear ho2 hb2 hc2 hr2 hn2)
        | (refine step_copy_splice rfl (.tmp 14) (.tmp 16) 35 35 rfl 5 Try.underlying35 INF.out _ _ _ _ _ _ rfl rfl (w.heap.size + 1 + 1) (24 - 8 * k) (bs (digT ws k)) 23 (B2.out.drew.below HP2.out B2.out.lt) (bs (putB x 8)) (by rw [bs_len, putB_len]; show 8 = min 8 (8 + 8 * k); omega) (fun _ => ⟨rfl, _, rfl, fun j v hv => by rw [addr_add]; exact HP.out j v hv⟩) (by rw [bs_len, bs_len, putB_len, HDL.out]; omega) bs_one (w.heap.size + 1 + 1) w2 (Below.refl _ w2) (Nat.le_refl _) ?_; intro w4 hg4 hb4; have HG4 := Hd.mk hg4; have HB4 := Hd.mk hb4; clear hg4 hb4))
      all_goals
        have C1 : Hd (Blk w4 (w.heap.size + 1) 23 (bs (digT ws 0))) := ⟨(B1.out.drew.below HP2.out B1.out.lt).below HB4.out (by omega)⟩
        have C2 : Hd (Blk w4 (w.heap.size + 1 + 1) 23 (bs (digT ws (k + 1)))) := ⟨by have h := HG4.out; unfold Go.RowKit.Hid at h; rw [HS.out] at h; exact h⟩
        have C3 : Hd (Below w.heap.size w w4) := ⟨(below_then HB.out.drew HB.out.size HP2.out).trans (HB4.out.mono (by omega))⟩
        clear B1 B2 HB HP HP2 HG4 HB4 hsl hsl2 hix
        go_wp2_with (fail)
        go_roundw
        case rel => exact ⟨k + 1, by omega, by go_num, C1, C2, C3⟩
        case measure => simp [intOf]; omega
    · obtain rfl : k = 4 := by omega
      go_wp2_with (first
        | (refine wpList_load_row rfl 23 (.tmp 3) rfl (w.heap.size + 1 + 1) rfl 23 (bs (digT ws 4)).toArray (0, 0) (.array 32 5) B2.out Try.underlying23 rfl (info_dg.trans (by simp [digT_len ws 4 (Nat.le_refl _) hw])) ?_)
        | (refine wpList_store_row rfl 23 (.tmp 2) (.tmp 19) rfl (w.heap.size + 1) (bs (digT ws 4)).toArray rfl rfl 23 (bs (digT ws 0)).toArray B1.out (info_dg.trans (by simp [digT_len ws 4 (Nat.le_refl _) hw])) (by simp [digT_len ws 4 (Nat.le_refl _) hw, digT_len ws 0 (Nat.zero_le _) hw]) (by simp [u8v, Value.oneCell']) ?_))
      refine bodyPost_ret (results_cell_row rfl _ _ (w.heap.size + 1) 23 (bs (digT ws 4)).toArray (0, 0) (.array 32 5) rfl (B1.out.putRow _) Try.underlying23 rfl (info_dg.trans (by simp [digT_len ws 4 (Nat.le_refl _) hw]))) rfl ?_
      exact ⟨rfl, below_row HB.out (by omega) _⟩
end Go.Proofs.Ytohndablfjonhaa
