/- Walks: the reference: a number behind others. -/
import Derived.Test.YtmebgejjaljhgaaN13Encode
namespace Go.Proofs.Ytmebgejjaljhgaa
open Go.RowKit Go.Sac
set_option linter.unusedVariables false
set_option linter.unusedSimpArgs false

theorem rput_any (x : Int) (wide : Int) (w : World) (h0 : 0 ≤ x ∧ x ≤ 1000000) (hw : 1 ≤ wide ∧ wide ≤ 8) :
    Calls Try.prog 40 #[.int .u64 x, .int .i64 wide] w fun e w' => RetB 5 (putB x.toNat (putW wide)) w e w' := by
  obtain ⟨n, rfl⟩ := Int.eq_ofNat_of_zero_le h0.1
  exact rput_some n wide w (by omega) (by omega)
set_option maxHeartbeats 1000000 in
theorem put13_calls (A : Option Addr) (m c : Nat) (l zs : List UInt8) (x : Int) (wd : Int) (w : World) (hl : Rc w A (bs l)) (e1 : m = l.length) (hn : l.length ≤ 1099511627776) (h0 : 0 ≤ x ∧ x ≤ 1000000) (hw : 1 ≤ wd ∧ wd ≤ 8) (hz : l ++ putB x.toNat (putW wd) = zs) :
    Calls Try.prog 33 #[.slice A m c, .int .i64 x, .int .i64 wd] w fun e w' => RetB 5 zs w e w' := by
  subst e1
  have HL := Hd.mk hl
  have HX := Hd.mk h0
  have HW := Hd.mk hw
  have HZ := Hd.mk hz
  have hwx : IntKind.u64.wrap x = x := by rw [IntKind.wrap_u64]; omega
  have hpl : (putB x.toNat (putW wd)).length ≤ 8 := by rw [putB_len]; unfold putW; omega
  have HP := Hd.mk hpl
  clear hl hz h0 hw hpl
  go_enter Try.func33, Try.ntmps33
  go_wp2_with (first
    | (at_builtin; refine app_rc w.heap.size 25 5 (.int .u8 0) 1 1 (.tmp 8) (.tmp 9) rfl rfl Try.underlying25 info_u8 rfl (by decide) (by decide) (.slice none 0 0) 0 [] (bs l) A l.length c rfl rfl (World.ownsRow_nil _ _ _ _) HL.out (by simp) bs_one (Nat.le_refl _) (by omega) l.length (bs l) (by omega) (by simp) ?_; intro v1 w1 ho hg hat; obtain ⟨A1, c1, rfl, _, _, _⟩ := own_rc ho; have HO := Hd.mk ho; have HG := Hd.mk (below_nil hg); clear ho hg hat)
    | (go_at_call 40; refine (rput_any x wd _ HX.out HW.out).mono ?_; rintro e w2 ⟨v2, rfl, ho, hb⟩; obtain ⟨A2, c2, rfl, _, hr2, _⟩ := own_rc ho; have HO := Hd.mk (own_below HO.out hb); have HG := Hd.mk (below_then HG.out HG.out.size hb); have HR2 := Hd.mk hr2; clear ho hb hr2)
    | (at_builtin; refine app_rc w.heap.size 25 5 (.int .u8 0) 1 1 (.tmp 11) (.tmp 15) rfl rfl Try.underlying25 info_u8 rfl (by decide) (by decide) (.slice A1 l.length c1) l.length (bs l) (bs (putB x.toNat (putW wd))) A2 (putB x.toNat (putW wd)).length c2 rfl rfl HO.out HR2.out (by simp) bs_one HG.out.size (by have := HP.out; omega) zs.length (bs zs) (by rw [← HZ.out, List.length_append]) (by rw [← HZ.out]; simp) ?_; intro v3 w3 ho hg hat; have HO3 := Hd.mk ho; have HG3 := Hd.mk (below_lift HG.out HG.out.size hg (fun b hb => (own_lt HO.out b hb).1)); clear ho hg hat))
  go_ret
  exact ⟨_, rfl, HO3.out, HG3.out⟩
end Go.Proofs.Ytmebgejjaljhgaa
