/-
  ROWBASE: how a law's arguments are opened into what the walks of BASE speak of. No program in it.
-/
import Derived.Test.YtffhncpgknkkaaaBase
import Derived.ProofKit
import Derived.OpenShut
import Derived.ShutString
import Derived.ChangeOld
import Derived.SizedLaws
import Derived.Deep.Slices
namespace Go.Sac
open Go.ChangeShapes Go.WideShapes Go.ChangeAt Go.RowKit Go.Deep
set_option linter.unusedVariables false
set_option linter.unusedSimpArgs false
section
variable {H : Type} {enc : TypeId × Value → H} {P : Program} {w : World} {base : Nat} {held : Bool}

theorem addr_of_cell {w : World} {x : Addr} {v : Value} (h : w.cell? x = some v) : x = ⟨x.block, x.off, none⟩ := by
  unfold World.cell? at h
  split at h
  · split at h
    · cases h
    · rename_i hs
      cases x with | mk b o s => cases s <;> simp_all
  · cases h
theorem rc_of_cells {x : Addr} {cs : List Value} (h : ∀ i u, cs[i]? = some u → w.cell? (x.add i) = some u) : Rc w (some x) cs := by
  intro i u hu
  have h0 : 0 < cs.length := by have := (List.getElem?_eq_some_iff.1 hu).1; omega
  have hx := addr_of_cell (h 0 _ (List.getElem?_eq_getElem h0))
  have e : x.add 0 = x := by simp [Addr.add]
  rw [e] at hx
  refine ⟨x.block, x.off, by rw [← hx], ?_⟩
  have := h i u hu
  rw [hx, addr_add] at this
  exact this
theorem bs_of_nums (zs : List Int) (h : ∀ n ∈ zs, (Lit.int .u8 n).wf = true) : zs.map (fun n => Value.int .u8 n) = bs (zs.map fun n => UInt8.ofNat n.toNat) := by
  rw [bs, List.map_map]
  apply List.map_congr_left
  intro n hn
  have := bounds_u8 (h n hn)
  have e : (UInt8.ofNat n.toNat).toNat = n.toNat := by rw [UInt8.toNat_ofNat']; omega
  simp only [Function.comp, u8v, e]
  congr 1
  omega
theorem rc_nums {k : IntKind} {x : Addr} {zs : List Int} {n : Nat} (hn : n ≤ zs.length) (h : ∀ i, i < zs.length → w.cell? (x.add i) = some (.int k (zs.getD i 0))) : Rc w (some x) ((zs.take n).map fun z => Value.int k z) := by
  refine rc_of_cells fun i u hu => ?_
  have hi : i < n := by have := (List.getElem?_eq_some_iff.1 hu).1; simp at this; omega
  have hc := h i (by omega)
  rw [List.getElem?_map, List.getElem?_take, if_pos hi, List.getElem?_eq_getElem (by omega)] at hu
  simp at hu
  subst hu
  rw [hc]
  simp [List.getD_eq_getElem?_getD, List.getElem?_eq_getElem (show i < zs.length by omega)]
theorem weight_ints {k : IntKind} {t e : TypeId} {zs : List Int} {n B : Nat} (ht : P.underlying t = some (.slice e)) (hB : P.bytesOf e = B)
    (hw : ∀ m ∈ (DataW.slice (H := H) (lits k (zs.take n)) (lits k (zs.drop n))).weights P t, m ≤ reachBytes) : zs.length * B ≤ 140737488351232 := by
  have := hw (((lits (H := H) k (zs.take n)).length + (lits (H := H) k (zs.drop n)).length) * B) (by simp only [DataW.weights, ht, hB]; exact List.mem_cons_self ..)
  have e : (lits (H := H) k (zs.take n)).length + (lits (H := H) k (zs.drop n)).length = zs.length := by simp [lits]; omega
  rw [e] at this
  exact this
/-- a []byte that came in -/
theorem open_bytes {t e : TypeId} {fuel : Nat} {a : Option Addr} {len cap : Nat} {x : DataW H × List MemPlace} (ht : P.underlying t = some (.slice e)) (he : P.underlying e = some (.int .u8)) (hc : P.cellsOf e = 1) (hB : P.bytesOf e = 1)
    (h : DataW.trod enc P w base (fun _ => true) held fuel t [.slice a len cap] = some x) (hw : ∀ m ∈ x.1.weights P t, m ≤ reachBytes) :
    ∃ b : List UInt8, len = b.length ∧ len ≤ cap ∧ cap ≤ 140737488351232 ∧ Rc w a (bs b) := by
  rcases open_ints ht he hc h with ⟨hcs, _⟩ | ⟨y, l, c, zs, hcs, _, hl, hm, hz, rfl, hcell, hwz⟩
  · simp at hcs
    obtain ⟨rfl, rfl, rfl⟩ := hcs
    exact ⟨[], rfl, Nat.le_refl _, by omega, Rc.nil _ _⟩
  · simp at hcs
    obtain ⟨rfl, rfl, rfl⟩ := hcs
    simp only [if_true] at hz
    have hlen := weight_ints ht hB hw
    refine ⟨(zs.take len).map fun n => UInt8.ofNat n.toNat, by rw [List.length_map, List.length_take]; omega, hl, by omega, ?_⟩
    rw [← bs_of_nums (zs.take len) (fun n hn => hwz n (List.mem_of_mem_take hn))]
    exact rc_nums (by omega) hcell
theorem open_nums {k : IntKind} {t e : TypeId} {fuel B : Nat} {a : Option Addr} {len cap : Nat} {x : DataW H × List MemPlace} (ht : P.underlying t = some (.slice e)) (he : P.underlying e = some (.int k)) (hc : P.cellsOf e = 1) (hB : P.bytesOf e = B) (hB0 : 0 < B)
    (h : DataW.trod enc P w base (fun _ => true) held fuel t [.slice a len cap] = some x) (hw : ∀ m ∈ x.1.weights P t, m ≤ reachBytes) :
    ∃ zs : List Int, len = zs.length ∧ len ≤ cap ∧ cap * B ≤ 140737488351232 ∧ Rc w a (zs.map fun z => Value.int k z) ∧ ∀ n ∈ zs, (Lit.int k n).wf = true := by
  rcases open_ints ht he hc h with ⟨hcs, _⟩ | ⟨y, l, c, zs, hcs, _, hl, hm, hz, rfl, hcell, hwz⟩
  · simp at hcs
    obtain ⟨rfl, rfl, rfl⟩ := hcs
    exact ⟨[], rfl, Nat.le_refl _, by omega, Rc.nil _ _, by simp⟩
  · simp at hcs
    obtain ⟨rfl, rfl, rfl⟩ := hcs
    simp only [if_true] at hz
    have hlen := weight_ints ht hB hw
    rw [hz] at hlen
    exact ⟨zs.take len, by rw [List.length_take]; omega, hl, hlen, rc_nums (by omega) hcell, fun n hn => hwz n (List.mem_of_mem_take hn)⟩
/-- an array of bytes that came in, by value -/
theorem open_arr {t e : TypeId} {n : Nat} {v : Value} {d : DataW H} {p : List MemPlace} {spare : Nat → Bool} {base' : Nat} (ht : P.underlying t = some (.array n e)) (he : P.underlying e = some (.int .u8)) (hc : P.cellsOf t = n) (hce : P.cellsOf e = 1)
    (hv : Value.okWide P w .any base' t v) (h : DataW.Trod enc P w base spare held t v d p) : ∃ b : List UInt8, v = .agg (bs b).toArray ∧ b.length = n := by
  obtain ⟨cs, rfl, hsz, _⟩ : ∃ cs, v = .agg cs ∧ cs.size = P.cellsOf t ∧ Row.okWide P w .any base' t cs := by simpa [Value.okWide, ht] using hv
  obtain ⟨fuel, hf⟩ := h
  obtain ⟨xs, m, rfl, _, hl, hx, hall⟩ := DataW.trod_array ht hf
  have each : ∀ i, i < n → ∃ z : UInt8, cs[i]? = some (u8v z) := by
    intro i hi
    have h1 := hall i hi
    rw [List.getElem?_eq_getElem (by omega), hce, Nat.mul_one] at h1
    have hlt : i < cs.toList.length := by rw [Array.length_toList]; omega
    have e1 : (((Value.agg cs).cells.toList).drop i).take 1 = [cs.toList[i]] := by
      show (cs.toList.drop i).take 1 = _
      rw [List.drop_eq_getElem_cons hlt]; simp
    rw [e1] at h1
    obtain ⟨x0, e0, _, w0⟩ := DataW.trod_int he h1
    have hb := bounds_u8 w0
    refine ⟨UInt8.ofNat x0.toNat, ?_⟩
    have e2 : (UInt8.ofNat x0.toNat).toNat = x0.toNat := by rw [UInt8.toNat_ofNat']; omega
    have e3 : cs[i]? = some cs.toList[i] := by rw [← Array.getElem?_toList, List.getElem?_eq_getElem hlt]
    rw [e3]
    simp only [List.cons.injEq, and_true] at e0
    rw [e0, u8v, e2]
    congr 2
    omega
  obtain ⟨z, hz⟩ := choose_lt each
  refine ⟨(List.range n).map z, ?_, by simp⟩
  congr 1
  apply Array.ext_getElem?
  intro i
  by_cases hi : i < n
  · rw [hz i hi]
    simp [bs, hi]
  · rw [Array.getElem?_eq_none (by omega)]
    simp [bs, hi]
theorem weights_all {e : TypeId} : ∀ {l : List (DataW H)} {d : DataW H}, d ∈ l → ∀ m ∈ d.weights P e, m ∈ DataW.weightsAll P e l
  | x :: r, d, hd, m, hm => by
    rw [DataW.weightsAll, List.mem_append]
    rcases List.mem_cons.1 hd with rfl | hd
    · exact Or.inl hm
    · exact Or.inr (weights_all hd m hm)
  | [], d, hd, _, _ => by cases hd
/-- a [][]byte that came in -/
theorem open_rows {t e q : TypeId} {fuel : Nat} {a : Option Addr} {len cap : Nat} {x : DataW H × List MemPlace} (ht : P.underlying t = some (.slice e)) (he : P.underlying e = some (.slice q)) (hq : P.underlying q = some (.int .u8)) (ce : P.cellsOf e = 1) (cq : P.cellsOf q = 1) (hB : P.bytesOf e = 24) (hBq : P.bytesOf q = 1)
    (h : DataW.trod enc P w base (fun _ => true) held fuel t [.slice a len cap] = some x) (hw : ∀ m ∈ x.1.weights P t, m ≤ reachBytes) :
    ∃ ls : List (List UInt8), len = ls.length ∧ len ≤ cap ∧ cap * 24 ≤ 140737488351232 ∧ Rcc w a ls ∧ ∀ l ∈ ls, l.length ≤ 140737488351232 := by
  rcases open_slice1 ht ce h with ⟨hcs, _⟩ | ⟨y, len', cap', m, n, V, D, Pl, hcs, _, hl, hm, hmm, rfl, hx⟩
  · simp at hcs
    obtain ⟨rfl, rfl, rfl⟩ := hcs
    exact ⟨[], rfl, Nat.le_refl _, by omega, ⟨[], Rc.nil _ _, rfl, by intro i l hl; simp at hl⟩, by simp⟩
  · simp at hcs
    obtain ⟨rfl, rfl, rfl⟩ := hcs
    simp only [if_true] at hmm
    have hcap : cap * 24 ≤ 140737488351232 := by
      have := hw ((((List.range len).map D).length + ((List.range (m - len)).map fun j => D (len + j)).length) * 24) (by simp only [DataW.weights, ht, hB]; exact List.mem_cons_self ..)
      simp only [List.length_map, List.length_range] at this
      have h2 : reachBytes = 140737488351232 := rfl
      omega
    have hwd : ∀ r, r < len → ∀ k ∈ (D r).weights P e, k ≤ reachBytes := fun r hr k hk => hw k (by
      simp only [DataW.weights, ht]
      refine List.mem_cons_of_mem _ (List.mem_append_left _ (weights_all (d := D r) ?_ k hk))
      exact List.mem_map.2 ⟨r, List.mem_range.2 hr, rfl⟩)
    have each : ∀ r, r < len → ∃ z : Option Addr × List UInt8 × Nat, V r = .slice z.1 z.2.1.length z.2.2 ∧ z.2.1.length ≤ z.2.2 ∧ z.2.2 ≤ 140737488351232 ∧ Rc w z.1 (bs z.2.1) := by
      intro r hr
      obtain ⟨hv, hd⟩ := hx r (by omega)
      have key : ∀ a' l' c', V r = .slice a' l' c' → ∃ z : Option Addr × List UInt8 × Nat, V r = .slice z.1 z.2.1.length z.2.2 ∧ z.2.1.length ≤ z.2.2 ∧ z.2.2 ≤ 140737488351232 ∧ Rc w z.1 (bs z.2.1) := by
        intro a' l' c' hV
        rw [hV] at hd
        obtain ⟨b, hb, h1, h2, h3⟩ := open_bytes he hq cq hBq hd (hwd r hr)
        exact ⟨(a', b, c'), by rw [hV, hb], by rw [← hb]; exact h1, h2, h3⟩
      rcases open_ints he hq cq hd with ⟨hcs, _⟩ | ⟨a', l', c', zs, hcs, _⟩
      · exact key none 0 0 (by simpa using hcs)
      · exact key (some a') l' c' (by simpa using hcs)
    obtain ⟨z, hz⟩ := choose_lt each
    refine ⟨(List.range len).map fun r => (z r).2.1, by simp, hl, hcap, ⟨(List.range len).map V, ?_, by simp, ?_⟩, ?_⟩
    · refine rc_of_cells fun i u hu => ?_
      have hi : i < len := by have := (List.getElem?_eq_some_iff.1 hu).1; simpa using this
      rw [List.getElem?_map, List.getElem?_range hi] at hu
      simp at hu
      subst hu
      exact (hx i (by omega)).1
    · intro i l hl'
      have hi : i < len := by have := (List.getElem?_eq_some_iff.1 hl').1; simpa using this
      rw [List.getElem?_map, List.getElem?_range hi] at hl'
      simp at hl'
      subst hl'
      obtain ⟨h1, h2, h3, h4⟩ := hz i hi
      exact ⟨(z i).1, (z i).2.2, by rw [List.getElem?_map, List.getElem?_range hi]; simp [h1], h2, h4⟩
    · intro l hl'
      simp only [List.mem_map, List.mem_range] at hl'
      obtain ⟨i, hi, rfl⟩ := hl'
      obtain ⟨h1, h2, h3, h4⟩ := hz i hi
      omega
end
end Go.Sac
