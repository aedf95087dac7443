/- Padding, in a program that may lack codec.Put. -/
import Derived.Test.YtffhncpgknkkaaaProg
import Derived.Test.YtffhncpgknkkaaaBase
import Derived.Test.YtffhncpgknkkaaaWZeros
namespace Go.Proofs.Ytffhncpgknkkaaa
open Go.RowKit Go.Sac
set_option linter.unusedVariables false
set_option linter.unusedSimpArgs false

theorem info_u8 : (Try.prog.info? 5).map (fun i => (i.zero, i.size, i.bytes)) = some (some (.int .u8 0), 1, 1) := by kernel_rfl
theorem zc_u8 (m : Nat) : (Builtin.zeroCells (Value.int .u8 0).cells m).toList = bs (List.replicate m 0) := by
  apply List.ext_getElem
  · simp [Builtin.zeroCells, bs, Value.cells]
  · intro i h1 h2
    simp [Builtin.zeroCells, bs, u8v, Value.cells, Nat.mod_one]

section
variable {P : Program} {ops : Array Oper} {rest : List Oper} {o : Oper} {a : Act} {Q : Exit → Act → World → Prop}
theorem app0_u8 {W : World} (base : Nat) (t ti e : TypeId) (s x : Operand) (hgd : o.guard = none)
    (ho : o.op = .call { callee := .builtin .append, args := #[s, x], argTypes := #[t, ti] })
    (ht : P.underlying t = some (.slice e)) (hti : P.underlying ti = some (.int .i64)) (hinfo : (P.info? e).map (fun i => (i.zero, i.size, i.bytes)) = some (some (.int .u8 0), 1, 1))
    (v : Value) (n : Nat) (xs : List Value) (m : Nat) (hs : a.eval s = v) (hx : a.eval x = .int .i64 (m : Int))
    (HO : W.ownsRow base e 1 v n xs) (hbase : base ≤ W.heap.size) (hl : n + m ≤ 140737488355328) (n' : Nat) (cs' : List Value) (en : n + m = n') (ec : xs ++ bs (List.replicate m 0) = cs')
    (h : ∀ v1 w1, w1.ownsRow base e 1 v1 n' cs' → W.grownBy w1 v.ownBlock → (v1.ownBlock = v.ownBlock ∨ v1.ownBlock = some W.heap.size) → wpList P ops Q rest (a.put o.dst v1) w1) :
    wpList P ops Q (o :: rest) a W := by
  subst en; subst ec
  obtain ⟨i0, hi, hzz⟩ := Option.map_eq_some_iff.1 hinfo
  simp only [Prod.mk.injEq] at hzz
  obtain ⟨hz0, hz1, hz2⟩ := hzz
  obtain ⟨v1, w1, hr, hown, hg, hat⟩ := YtffhncpgknkkaaaW.PrintWords.run_append_zeros (P := P) W base t ti o.type e i0 (.int .u8 0) 1 1 ht hti hi hz0 hz1 hz2 rfl (by decide) (by decide) v n xs HO .i64 m (by rw [zc_u8]; exact bs_one) (by omega) hbase
  rw [zc_u8] at hown
  refine wpList_plain hgd fun K hK => ?_
  unfold Oper.wp execOp
  simp only [ho, resolve, invoke, builtin, Sem.run_bind, Sem.run_pure, Result.andThen_ok, List.map_toArray, List.map_cons, List.map_nil, hs, hx, hr]
  exact hK _ _ (h v1 w1 hown hg hat)
end

/-- Padded with noughts. -/
def padB (l : List UInt8) (wide : Int) : List UInt8 := l ++ List.replicate (wide.toNat - l.length) 0

set_option maxHeartbeats 400000 in
theorem pad_calls (A : Option Addr) (c : Nat) (l : List UInt8) (wide : Int) (w : World) (hl : Rc w A (bs l)) (hn : l.length ≤ 1099511627776) (h0 : -1099511627776 ≤ wide) (h1 : wide ≤ 1099511627776) :
    Calls Try.prog 35 #[.slice A l.length c, .int .i64 wide] w fun e w' => RetB 5 (padB l wide) w e w' := by
  have HL := Hd.mk hl
  clear hl
  obtain ⟨m, hm⟩ : ∃ m : Nat, max 0 (wide - l.length) = (m : Int) := ⟨(max 0 (wide - l.length)).toNat, by omega⟩
  have hm2 : wide.toNat - l.length = m := by omega
  unfold padB
  rw [hm2]
  have HM := Hd.mk hm
  clear hm2 hm
  go_enter Try.func35, Try.ntmps35
  have hmax : max 0 (wide - l.length) = (m : Int) := HM.out
  go_wp2_with (first
    | (at_builtin; refine app_rc w.heap.size 22 5 (.int .u8 0) 1 1 (.const (.slice none 0 0)) (.tmp 6) rfl rfl Try.underlying22 info_u8 rfl (by decide) (by decide) (.slice none 0 0) 0 [] (bs l) A l.length c rfl rfl (World.ownsRow_nil _ _ _ _) HL.out (by simp) bs_one (Nat.le_refl _) (by omega) l.length (bs l) (by omega) (by simp) ?_; intro v1 w1 ho hg hat; obtain ⟨A1, c1, rfl, _, _, _⟩ := own_rc ho; have HO := Hd.mk ho; have HG := Hd.mk hg; clear ho hg hat)
    | (at_builtin; refine app0_u8 w.heap.size 22 3 5 (.tmp 8) (.tmp 13) rfl rfl Try.underlying22 Try.underlying3 info_u8 (.slice A1 l.length c1) l.length (bs l) m rfl rfl HO.out (HG.out.size) (by omega) (l ++ List.replicate m 0).length (bs (l ++ List.replicate m 0)) (by simp) (by simp) ?_; intro v2 w2 ho hg hat; have HO2 := Hd.mk ho; have HG2 := Hd.mk hg; clear ho hg hat))
  go_ret
  refine ⟨_, rfl, ?_, ?_⟩
  · exact HO2.out
  · exact below_lift (below_lift (Below.refl _ _) (Nat.le_refl _) HG.out (by simp [Value.ownBlock])) HG.out.size HG2.out (fun b hb => (own_lt HO.out b hb).1)
end Go.Proofs.Ytffhncpgknkkaaa
