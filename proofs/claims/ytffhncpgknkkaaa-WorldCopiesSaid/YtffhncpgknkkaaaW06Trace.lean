/- W06Trace: what was traced, told anew. -/
import Derived.Test.YtffhncpgknkkaaaW06SameTrace
import Derived.Test.YtffhncpgknkkaaaW06Read
namespace Go.Proofs.Ytffhncpgknkkaaa
open Go.RowKit Go.Sac
set_option linter.unusedVariables false
set_option linter.unusedSimpArgs false
def Tr.at (x : Tr) (p : Option Addr × Nat) : Tr := { x with A := p.1, c := p.2 }
def tcell (T : List Tr) (F : Nat → Option Addr × Nat) (i j : Nat) (hj : j < T.length) : List Value := if j < i then (T[j].at (F j)).cells else T[j].cells
structure TrI (w wr : World) (g9 : Nat) (T : List Tr) (F : Nat → Option Addr × Nat) (i : Nat) (S : Nat) : Prop where
  blk : ∃ cur, (wr.heap[g9]? = some (.cells cur 52 (0, 0)) ∧ cur.size = S) ∧ ∀ j (hj : j < T.length) k v, (tcell T F i j hj)[k]? = some v → cur[j * 4 + k]? = some v
  new : ∀ j (hj : j < T.length), j < i → Rc wr (F j).1 (bs T[j].b) ∧ T[j].b.length ≤ (F j).2 ∧ ∀ a, (F j).1 = some a → w.heap.size ≤ a.block ∧ a.block ≠ g9 ∧ a.block < wr.heap.size
  low : w.heap.size ≤ g9
  bel : Below w.heap.size w wr
theorem tcell_len (T : List Tr) (F : Nat → Option Addr × Nat) (i j : Nat) (hj : j < T.length) : (tcell T F i j hj).length = 4 := by unfold tcell; split <;> rfl
theorem TrI.range {w wr : World} {g9 : Nat} {T : List Tr} {F : Nat → Option Addr × Nat} {i S : Nat} (h : TrI w wr g9 T F i S) (j : Nat) (hj : j < T.length) : wr.rangeAt g9 (j * 4) (tcell T F i j hj) := by
  obtain ⟨cur, ⟨h1, hS⟩, h2⟩ := h.blk
  intro k v hk
  rw [cell_of_row _ _ _ _ _ _ h1]
  exact h2 j hj k v hk
theorem TrI.frz {w wr : World} {g9 : Nat} {T : List Tr} {F : Nat → Option Addr × Nat} {i S : Nat} (h : TrI w wr g9 T F i S) (j : Nat) : wr.frozen? ⟨g9, j, none⟩ = false := by
  obtain ⟨cur, ⟨h1, hS⟩, h2⟩ := h.blk
  simp [World.frozen?, h1]
theorem TrI.step {w wr w1 : World} {g9 : Nat} {T : List Tr} {F : Nat → Option Addr × Nat} {i S : Nat} (h : TrI w wr g9 T F i S) (hi : i < T.length) (hb : Below wr.heap.size wr w1) {A : Option Addr} {c : Nat} (hr : Rc w1 A (bs T[i].b)) (hc : T[i].b.length ≤ c) (hA : ∀ a, A = some a → wr.heap.size ≤ a.block ∧ a.block < w1.heap.size) :
    TrI w (w1.setCell ⟨g9, i * 4 + 3, none⟩ (.slice A T[i].b.length c)) g9 T (fun j => if j = i then (A, c) else F j) (i + 1) S := by
  obtain ⟨cur, ⟨h1, hS⟩, h2⟩ := h.blk
  have hlt : g9 < wr.heap.size := (Array.getElem?_eq_some_iff.1 h1).1
  have h3 : w1.heap[g9]? = some (.cells cur 52 (0, 0)) := (hb.block g9 hlt).trans h1
  have oth : ∀ k, k ≠ g9 → (w1.setCell ⟨g9, i * 4 + 3, none⟩ (.slice A T[i].b.length c)).heap[k]? = w1.heap[k]? := fun k hk => Below.heap_setCell w1 ⟨g9, i * 4 + 3, none⟩ _ k hk
  have hbel : Below w.heap.size w w1 := below_then h.bel h.bel.size hb
  refine ⟨⟨cur.setIfInBounds (i * 4 + 3) (.slice A T[i].b.length c), ⟨?_, by simpa using hS⟩, ?_⟩, ?_, h.low, ⟨hbel.os, hbel.tape, hbel.output, by simpa using hbel.size, fun k hk => (oth k (by have := h.low; omega)).trans (hbel.block k hk)⟩⟩
  · rw [setCell_eq_setRow w1 g9 (i * 4 + 3) cur 52 _ _ h3]
    exact setRow_heap w1 g9 _ _ _ _ h3
  · intro j hj k v hk
    have hk4 : k < 4 := by have := (List.getElem?_eq_some_iff.1 hk).1; rwa [tcell_len] at this
    rw [Array.getElem?_setIfInBounds]
    have hold : j ≠ i → (tcell T F i j hj)[k]? = some v := fun hne => by
      unfold tcell at hk ⊢
      by_cases hji : j < i
      · rw [if_pos (by omega)] at hk; dsimp only at hk; rw [if_neg hne] at hk; rw [if_pos hji]; exact hk
      · rw [if_neg (by omega)] at hk; rw [if_neg hji]; exact hk
    have hin : ∀ j (hj : j < T.length) k, k < 4 → j * 4 + k < cur.size := fun j hj k hk => by
      have e := h2 j hj k _ (List.getElem?_eq_getElem (by rw [tcell_len]; exact hk))
      exact (Array.getElem?_eq_some_iff.1 e).1
    by_cases hji : j = i
    · subst hji
      unfold tcell at hk
      rw [if_pos (Nat.lt_succ_self _)] at hk; dsimp only at hk; rw [if_pos rfl] at hk
      by_cases hk3 : k = 3
      · subst hk3
        rw [if_pos rfl, if_pos (hin j hj 3 (by decide))]
        exact hk
      · rw [if_neg (by omega)]
        refine h2 j hj k v ?_
        unfold tcell
        rw [if_neg (by omega), ← hk]
        match k, hk4, hk3 with
        | 0, _, _ => rfl
        | 1, _, _ => rfl
        | 2, _, _ => rfl
        | 3, _, h => exact absurd rfl h
    · rw [if_neg (by omega)]
      exact h2 j hj k v (hold hji)
  · intro j hj hji
    by_cases hjj : j = i
    · subst hjj
      rw [if_pos rfl]
      refine ⟨hr.keep fun q off e hq => oth q (fun e2 => ?_), hc, fun a e => ⟨Nat.le_trans h.bel.size (hA a e).1, fun e2 => ?_, by simpa using (hA a e).2⟩⟩
      · have h5 := (hA _ e).1; have h5 : wr.heap.size ≤ q := h5; omega
      · have h5 := (hA a e).1; omega
    · rw [if_neg hjj]
      obtain ⟨n1, n2, n3⟩ := h.new j hj (by omega)
      refine ⟨(n1.below hb).keep fun q off e hq => oth q (fun e2 => (n3 _ e).2.1 e2), n2, fun a e => ⟨(n3 a e).1, (n3 a e).2.1, by simpa using Nat.lt_of_lt_of_le (n3 a e).2.2 hb.size⟩⟩
theorem TrI.below {w wr w1 : World} {g9 : Nat} {T : List Tr} {F : Nat → Option Addr × Nat} {i S : Nat} (h : TrI w wr g9 T F i S) (hb : Below wr.heap.size wr w1)   : TrI w w1 g9 T F i S := by
  obtain ⟨cur, ⟨h1, hS⟩, h2⟩ := h.blk
  exact ⟨⟨cur, ⟨(hb.block g9 (Array.getElem?_eq_some_iff.1 h1).1).trans h1, hS⟩, h2⟩, fun j hj hi => ⟨(h.new j hj hi).1.below hb, (h.new j hj hi).2.1, fun a e => ⟨((h.new j hj hi).2.2 a e).1, ((h.new j hj hi).2.2 a e).2.1, Nat.lt_of_lt_of_le ((h.new j hj hi).2.2 a e).2.2 hb.size⟩⟩, h.low, below_then h.bel h.bel.size hb⟩
theorem trs_one (l : List Tr) : ∀ u ∈ trs l, u.oneCell' = true := by
  intro u hu
  unfold trs rowK at hu
  obtain ⟨cs, hc, hu⟩ := List.mem_flatten.1 hu
  obtain ⟨x, _, rfl⟩ := List.mem_map.1 hc
  exact tr_one x u hu
def outT (T : List Tr) (F : Nat → Option Addr × Nat) : List Tr := T.mapIdx fun j x => x.at (F j)
theorem outT_val (T : List Tr) (F : Nat → Option Addr × Nat) : (outT T F).map Tr.val = T.map Tr.val := by
  unfold outT
  refine List.ext_getElem (by simp) fun j h1 h2 => ?_
  simp [Tr.at, Tr.val]
/-- what Trace tells: a row of its own -/
def RetTr (t : List TV) (w : World) (e : Ending) (w' : World) : Prop :=
  ∃ A cap T, e = .returned (.slice A T.length cap) ∧ T.map Tr.val = t ∧ T.length ≤ cap ∧ Rc w' A (trs T) ∧ HeldR w' T ∧ Below w.heap.size w w' ∧ (∀ a, A = some a → w.heap.size ≤ a.block) ∧ ∀ x ∈ T, ∀ a, x.A = some a → w.heap.size ≤ a.block
/-- the same; and the row is one's own -/
def RetTrO (t : List TV) (w : World) (e : Ending) (w' : World) : Prop :=
  ∃ A cap T, e = .returned (.slice A T.length cap) ∧ T.map Tr.val = t ∧ T.length ≤ cap ∧ Rc w' A (trs T) ∧ HeldR w' T ∧ Below w.heap.size w w' ∧ (∀ a, A = some a → w.heap.size ≤ a.block) ∧ (∀ x ∈ T, ∀ a, x.A = some a → w.heap.size ≤ a.block ∧ a.block < w'.heap.size ∧ ∀ b, A = some b → a.block ≠ b.block) ∧ w'.ownsRow w.heap.size 52 4 (.slice A T.length cap) T.length (trs T)
theorem RetTrO.plain {t : List TV} {w w' : World} {e : Ending} (h : RetTrO t w e w') : RetTr t w e w' := by
  obtain ⟨A, cap, T, h1, h2, h3, h4, h5, h6, h7, h8, _⟩ := h
  exact ⟨A, cap, T, h1, h2, h3, h4, h5, h6, h7, fun x hx a e => (h8 x hx a e).1⟩
theorem TrI.done {w wr : World} {g9 : Nat} {T : List Tr} {F : Nat → Option Addr × Nat} {n cap S : Nat} (h : TrI w wr g9 T F n S) (hn : n = T.length) (hc : n ≤ cap) (hS : S = cap * 4) (hm : cap ≤ maxLen) : RetTrO (T.map Tr.val) w (.returned (.slice (some ⟨g9, 0, none⟩) n cap)) wr := by
  have hl : (outT T F).length = n := by unfold outT; simp [hn]
  have hat : ∀ j (hj : j < (outT T F).length), (outT T F)[j] = (T[j]'(by omega)).at (F j) := fun j hj => by unfold outT; exact List.getElem_mapIdx
  refine ⟨some ⟨g9, 0, none⟩, cap, outT T F, by rw [hl], outT_val T F, by omega, ?_, ?_, h.bel, fun a e => by injection e with e; subst e; exact h.low, ?_, ?_⟩
  · refine Rc.mk (b := g9) (off := 0) fun i u hu => ?_
    have hi : i < (outT T F).length * 4 := by have := (List.getElem?_eq_some_iff.1 hu).1; unfold trs at this; rwa [rowK_len trs_four] at this
    have hj : i / 4 < (outT T F).length := by omega
    have e := rowK_at trs_four (outT T F) (i / 4) hj (i % 4) (Nat.mod_lt _ (by decide))
    rw [show i / 4 * 4 + i % 4 = i by omega] at e
    unfold trs at hu
    rw [e, hat _ hj] at hu
    have hr := h.range (i / 4) (by omega) (i % 4) u (by unfold tcell; rw [if_pos (by omega)]; exact hu)
    rw [Nat.zero_add]
    rwa [show i / 4 * 4 + i % 4 = i by omega] at hr
  · intro x hx
    obtain ⟨j, hj, rfl⟩ := List.getElem_of_mem hx
    rw [hat j hj]
    obtain ⟨n1, n2, n3⟩ := h.new j (by omega) (by omega)
    exact ⟨n1, n2⟩
  · intro x hx a e
    obtain ⟨j, hj, rfl⟩ := List.getElem_of_mem hx
    rw [hat j hj] at e
    obtain ⟨n1, n2, n3⟩ := h.new j (by omega) (by omega)
    refine ⟨(n3 a e).1, (n3 a e).2.2, fun b eb => ?_⟩
    injection eb with eb
    rw [← eb]
    exact (n3 a e).2.1
  · obtain ⟨cur, ⟨h1, hcs⟩, h2⟩ := h.blk
    refine ⟨by unfold trs; rw [rowK_len trs_four], .inr ⟨g9, cap, cur, by rw [hl], h.low, h1, by omega, hm, by rw [hcs, hS], ?_⟩⟩
    refine List.ext_getElem? fun i => ?_
    have hlen : (trs (outT T F)).length = n * 4 := by unfold trs; rw [rowK_len trs_four, hl]
    rw [List.getElem?_take]
    by_cases hi : i < (outT T F).length * 4
    · rw [if_pos hi]
      have hj : i / 4 < (outT T F).length := by omega
      have e := rowK_at trs_four (outT T F) (i / 4) hj (i % 4) (Nat.mod_lt _ (by decide))
      rw [show i / 4 * 4 + i % 4 = i by omega] at e
      unfold trs
      rw [e, hat _ hj]
      have hk : i % 4 < (tcell T F n (i / 4) (by omega)).length := by rw [tcell_len]; exact Nat.mod_lt _ (by decide)
      have h3 := h2 (i / 4) (by omega) (i % 4) _ (List.getElem?_eq_getElem hk)
      rw [show i / 4 * 4 + i % 4 = i by omega] at h3
      rw [Array.getElem?_toList, h3, ← List.getElem?_eq_getElem hk]
      unfold tcell
      rw [if_pos (by omega)]
    · rw [if_neg hi, List.getElem?_eq_none (by rw [hlen]; omega)]
theorem TrI.start {w w1 : World} {v : Value} {T : List Tr} {n : Nat} (ho : w1.ownsRow w.heap.size 52 4 v n (trs T)) (hn : n = T.length) (h0 : 0 < n) (hb : Below w.heap.size w w1) :
    ∃ g9 cap, v = .slice (some ⟨g9, 0, none⟩) n cap ∧ n ≤ cap ∧ cap ≤ maxLen ∧ TrI w w1 g9 T (fun _ => (none, 0)) 0 (cap * 4) := by
  rcases ho.2 with ⟨_, e⟩ | ⟨g9, cap, cur, rfl, h1, h2, h3, h4, h5, h6⟩
  · omega
  · refine ⟨g9, cap, rfl, h3, h4, ⟨⟨cur, ⟨h2, h5⟩, fun j hj k v hk => ?_⟩, fun j hj h => by omega, h1, hb⟩⟩
    have hk4 : k < 4 := by have := (List.getElem?_eq_some_iff.1 hk).1; rwa [tcell_len] at this
    unfold tcell at hk
    rw [if_neg (by omega)] at hk
    have e := rowK_at trs_four T j hj k hk4
    have e2 : (trs T)[j * 4 + k]? = some v := e.trans hk
    rw [← h6, List.getElem?_take, if_pos (by omega)] at e2
    simpa using e2
section
variable {w : World} {g : Nat} {K : Nat → Nat} {c : Wc} {s : Wd}
set_option maxRecDepth 100000 in
set_option maxHeartbeats 4000000 in
theorem trace_own (h : WdAt w g K c s) (hT : s.trace.length ≤ 1000000) (hl : ∀ x ∈ s.trace, x.2.2.2.length ≤ 1099511627776) : Calls Try.prog 26 #[.pointer (some ⟨g, 0, none⟩)] w (RetTrO s.trace w) := by
  have cA := h.obj.cell (i := 10) rfl
  have hv : c.T.map Tr.val = s.trace := h.tv
  have hn : c.T.length ≤ 1000000 := by rw [T_len h]; exact hT
  obtain ⟨A0, c0, ev, hc0, hr0, _⟩ := own_rc h.tr
  rw [ev] at cA
  have HR := Hd.mk hr0
  have HTH : Hd (∀ x ∈ c.T, Rc w x.A (bs x.b) ∧ x.b.length ≤ 1099511627776) := ⟨fun x hx => ⟨(h.th x hx).rc, hl (Tr.val x) (by rw [← hv]; exact List.mem_map_of_mem hx)⟩⟩
  rw [← hv]
  clear hv ev hr0 h hT hl
  obtain ⟨T, hT⟩ : ∃ T, c.T = T := ⟨_, rfl⟩
  rw [hT] at cA hn hc0 HR HTH ⊢
  clear hT
  obtain ⟨n, hnn⟩ : ∃ n, T.length = n := ⟨_, rfl⟩
  rw [hnn] at cA hn hc0
  have HN := Hd.mk hnn
  clear hnn
  go_enter Try.func26, Try.ntmps26
  go_wp2_with (at_builtin
               refine app_rc w.heap.size 48 52 (.agg #[.int .i64 0, .int .i64 0, .int .i64 0, .slice none 0 0]) 4 48 (.const (.slice none 0 0)) (.tmp 11) rfl rfl Try.underlying48 trace_info3 rfl (by decide) (by decide) (.slice none 0 0) 0 [] (trs T) A0 n c0 rfl rfl (World.ownsRow_nil _ _ _ _) HR.out (by unfold trs; rw [rowK_len trs_four, HN.out]) (trs_one T) (Nat.le_refl _) (by omega) n (trs T) (by omega) (by simp) ?_
               intro v1 w1 ho hg hat
               obtain ⟨A1, c1, rfl, hc1, _, _⟩ := own_rc ho
               have HO := Hd.mk ho
               have HB := Hd.mk (below_nil hg)
               clear ho hg hat)
  by_cases h0 : 0 < n
  · obtain ⟨g9, cap, e, hcap, hcm, hI⟩ := TrI.start HO.out HN.out.symm h0 HB.out
    injection e with e1 e2 e3
    subst e1; subst e3
    have HI := Hd.mk hI
    have HCM := Hd.mk hcm
    clear hI hcm HO HB
    go_loopw [15, 4, 5] (fun iv _ _ wr => ∃ i : Nat, iv = .int .i64 (i : Int) ∧ i ≤ n ∧ ∃ F, Hd (TrI w wr g9 T F i (c1 * 4))) (fun iv _ _ _ => n - (intOf iv).toNat)
    case atStart => exact ⟨0, rfl, Nat.zero_le _, _, HI⟩
    case round =>
      clear HI
      obtain ⟨i, rfl, hi, F, HI⟩ := hrel
      by_cases hlt : i < n
      · have hii : (i : Int) < (n : Int) := by omega
        have hil : i < T.length := by rw [HN.out]; exact hlt
        have hrg := HI.out.range i hil
        unfold tcell at hrg
        rw [if_neg (Nat.lt_irrefl i)] at hrg
        have hth := HTH.out _ (List.getElem_mem hil)
        have hst := fun (w1 : World) (A : Option Addr) (c : Nat) => HI.out.step (w1 := w1) (A := A) (c := c) hil
        have hbl := fun (w1 : World) (hb : Below wr.heap.size wr w1) => (HI.out.below hb).range i hil
        obtain ⟨x, hx⟩ : ∃ x, T[i] = x := ⟨_, rfl⟩
        unfold tcell at hbl
        rw [hx] at hrg hth hst hbl
        have HX : Hd (wr.rangeAt g9 (i * 4) [.int .i64 x.kind, .int .i64 x.at_, .int .i64 x.slot, .slice x.A x.b.length x.c]) := ⟨hrg⟩
        have HST := Hd.mk hst
        have HBL : Hd (∀ w1, Below wr.heap.size wr w1 → w1.rangeAt g9 (i * 4) x.cells) := ⟨fun w1 hb => by have := hbl w1 hb; rwa [if_neg (Nat.lt_irrefl i)] at this⟩
        have HTX := Hd.mk hth
        have HF := Hd.mk (fun j => HI.out.frz j)
        clear hrg hth hst hbl hx
        go_wp2_with (first
          | (refine wpList_ldmid rfl 52 (.tmp 18) rfl g9 (i * 4) rfl [.int .i64 x.kind, .int .i64 x.at_, .int .i64 x.slot, .slice x.A x.b.length x.c] _ HX.out Try.underlying52 rfl (trace_info.trans rfl) ?_)
          | (at_builtin
             refine app_rc (wr.heap.size + 1) 22 5 (.int .u8 0) 1 1 (.const (.slice none 0 0)) (.tmp 23) rfl rfl Try.underlying22 info_u8 rfl (by decide) (by decide) (.slice none 0 0) 0 [] (bs x.b) x.A x.b.length x.c rfl rfl (World.ownsRow_nil _ _ _ _) (HTX.out.1.below ((HI.out.bel.alloc HI.out.bel.size _))) (by rw [bs_len]; omega) bs_one (by simp) (by have := HTX.out.2; omega) x.b.length (bs x.b) (by omega) (by simp) ?_
             intro v2 w2 ho hg hat
             have hb2 : Below wr.heap.size wr w2 := ((Below.refl wr.heap.size wr).alloc (Nat.le_refl _) _).trans ((below_nil hg).mono (by simp))
             obtain ⟨A2, c2, rfl, hc2, hr2, ha2⟩ := own_rc ho
             have hce : w2.cell? ⟨g9, i * 4 + 3, none⟩ = some (.slice x.A x.b.length x.c) := HBL.out w2 hb2 3 _ rfl
             have hfz : w2.frozen? ⟨g9, i * 4 + 3, none⟩ = false := (HI.out.below hb2).frz _
             have HN2 := Hd.mk (HST.out w2 A2 c2 hb2 hr2 hc2 (fun a e => ⟨Nat.le_trans (Nat.le_succ _) (ha2 a e).1, (ha2 a e).2⟩))
             clear ho hg hat hr2 ha2 hb2))
        go_roundw
        case rel => exact ⟨i + 1, by go_num, by omega, _, HN2⟩
        case measure => simp [intOf]; omega
      · obtain rfl : i = n := by omega
        go_wp2_with fail
        go_ret
        exact HI.out.done HN.out.symm hcap rfl HCM.out
  · obtain rfl : n = 0 := by omega
    go_loopw [15, 4, 5] (fun iv _ _ wr => iv = .int .i64 0 ∧ wr = w1) (fun _ _ _ _ => 0)
    case atStart => exact ⟨rfl, rfl⟩
    case round =>
      obtain ⟨rfl, rfl⟩ := hrel
      go_wp2_with fail
      go_ret
      have hT0 : T = [] := List.length_eq_zero_iff.1 HN.out
      subst hT0
      obtain ⟨A2, c2, e2, _, hr2, ha2⟩ := own_rc HO.out
      injection e2 with e3 e4 e5
      subst e3
      exact ⟨A1, c1, [], rfl, rfl, Nat.zero_le _, Rc.nil _ _, fun _ h => (nomatch h), HB.out, fun a e => (ha2 a e).1, fun _ h => (nomatch h), HO.out⟩
theorem trace_calls (h : WdAt w g K c s) (hT : s.trace.length ≤ 1000000) (hl : ∀ x ∈ s.trace, x.2.2.2.length ≤ 1099511627776) : Calls Try.prog 26 #[.pointer (some ⟨g, 0, none⟩)] w (RetTr s.trace w) :=
  (trace_own h hT hl).mono fun _ _ h => h.plain
end
end Go.Proofs.Ytffhncpgknkkaaa
