/-
  A slice of structs among the arguments, each field of one cell: every element's cells, each field's own reading, and what its weight allows. No program in sight.
-/
import Derived.Test.YtbfbajfdlkgloaaGreatDoorG00
import Derived.Deep.Fields
import Derived.Deep.Slices
import Derived.Deep.Grids
import Derived.Deep.MidRow
import Derived.SizedLaws
namespace Go.Proofs.YtbfbajfdlkgloaaGreatDoor
open Go Go.RowKit Go.ChangeShapes Go.WideShapes
section
variable {H : Type} {enc : TypeId × Value → H} {P : Program} {W : World}
/-- Nothing in a datum is heavier than may be. -/
def Light (P : Program) (t : TypeId) (d : DataW H) : Prop := ∀ m ∈ d.weights P t, m ≤ reachBytes
/-- One cell of type t, read and light. -/
def Read1 (enc : TypeId × Value → H) (P : Program) (W : World) (t : TypeId) (c : Value) : Prop := ∃ n y, DataW.trod enc P W 0 (fun _ => true) true n t [c] = some y ∧ Light P t y.1
theorem light_of_each {ts : List TypeId} {ds : List (DataW H)} {j : Nat} {t : TypeId} {d : DataW H} (hsz : (DataW.weightsEach P ts ds).all (· ≤ reachBytes) = true) (ht : ts[j]? = some t) (hd : ds[j]? = some d) : Light P t d := by
  intro m hm
  have := List.all_eq_true.1 hsz _ (DataW.weights_mem_each ht hd m hm)
  simpa using this
theorem all_mem {e : TypeId} : ∀ {l : List (DataW H)} {d : DataW H}, d ∈ l → ∀ n ∈ d.weights P e, n ∈ DataW.weightsAll P e l
  | x :: l, d, h, n, hn => by
    simp only [DataW.weightsAll, List.mem_append]
    rcases List.mem_cons.1 h with rfl | h
    · exact .inl hn
    · exact .inr (all_mem h n hn)
theorem light_elem {t e : TypeId} {els sp : List (DataW H)} {d : DataW H} (ht : P.underlying t = some (.slice e)) (h : Light P t (.slice els sp)) (hd : d ∈ els ∨ d ∈ sp) : Light P e d := by
  intro m hm
  refine h m ?_
  simp only [DataW.weights, ht, List.mem_cons, List.mem_append]
  rcases hd with hd | hd
  · exact .inr (.inl (all_mem hd m hm))
  · exact .inr (.inr (all_mem hd m hm))
theorem light_len {t e : TypeId} {els sp : List (DataW H)} (ht : P.underlying t = some (.slice e)) (h : Light P t (.slice els sp)) : (els.length + sp.length) * P.bytesOf e ≤ reachBytes := by
  refine h _ ?_
  simp only [DataW.weights, ht, List.mem_cons, true_or]
theorem light_part {t : TypeId} {fs : Array Field} {ps : List (DataW H)} {i : Nat} {f : Field} {d : DataW H} (ht : P.underlying t = some (.struct fs)) (h : Light P t (.agg ps)) (hf : fs[i]? = some f) (hd : ps[i]? = some d) : Light P f.type d := by
  intro m hm
  refine h m ?_
  simp only [DataW.weights, ht]
  refine DataW.weights_mem_each (j := i) ?_ hd m hm
  simp [hf]
/-- The cells of a struct, each field of one cell. -/
def ReadFlds (enc : TypeId × Value → H) (P : Program) (W : World) (fs : Array Field) (cs : List Value) : Prop := cs.length = fs.size ∧ ∀ (i : Nat) (f : Field), fs[i]? = some f → ∃ c, cs[i]? = some c ∧ Read1 enc P W f.type c
theorem read_struct {t : TypeId} {fs : Array Field} {n : Nat} {cs : List Value} {x : DataW H × List MemPlace} (hs : P.underlying t = some (.struct fs)) (hone : Go.Deep.oneCellFields P fs = true) (hC : P.cellsOf t = fs.size)
    (h : DataW.trod enc P W 0 (fun _ => true) true n t cs = some x) (hl : Light P t x.1) : ReadFlds enc P W fs cs := by
  obtain ⟨xs, k, _, rfl, hlen, hxl, hi⟩ := DataW.trod_struct hs h
  refine ⟨by rw [hlen, hC], fun i f hfi => ?_⟩
  obtain ⟨h1, h2⟩ := Go.Deep.hone_of hone i f hfi
  have hlt : i < fs.size := (Array.getElem?_eq_some_iff.1 hfi).1
  have h3 := hi i f hfi
  have hlt2 : i < cs.length := by omega
  have hlt3 : i < xs.length := by omega
  refine ⟨cs[i], List.getElem?_eq_getElem hlt2, k, xs[i], ?_, ?_⟩
  · rw [h1, h2, List.drop_eq_getElem_cons hlt2] at h3
    rw [← List.getElem?_eq_getElem hlt3, ← h3]; rfl
  · exact light_part (ps := xs.map (·.1)) hs hl hfi (by simp [hlt3])
theorem read_rows {t e : TypeId} {fs : Array Field} {n : Nat} {a : Option Addr} {len cap : Nat} {x : DataW H × List MemPlace} (ht : P.underlying t = some (.slice e)) (hs : P.underlying e = some (.struct fs)) (hone : Go.Deep.oneCellFields P fs = true) (hC : P.cellsOf e = fs.size) (hpos : 0 < fs.size)
    (h : DataW.trod enc P W 0 (fun _ => true) true n t [.slice a len cap] = some x) (hl : Light P t x.1) :
    len ≤ cap ∧ cap * P.bytesOf e ≤ reachBytes ∧ ∀ j, j < len → ∃ b off cs, a = some ⟨b, off, none⟩ ∧ b < W.heap.size ∧ W.rangeAt b (off + j * fs.size) cs ∧ ReadFlds enc P W fs cs := by
  rcases Go.Deep.open_slice ht h with ⟨hcs, _⟩ | ⟨x0, l, c, m, k, D, Pl, hcs, _, hlc, _, hm, rfl, hx⟩
  · simp only [List.cons.injEq, and_true, Value.slice.injEq] at hcs
    obtain ⟨rfl, rfl, rfl⟩ := hcs
    exact ⟨Nat.le_refl _, by simp, fun j hj => absurd hj (Nat.not_lt_zero _)⟩
  · simp only [List.cons.injEq, and_true, Value.slice.injEq] at hcs
    obtain ⟨rfl, rfl, rfl⟩ := hcs
    simp only [if_true] at hm
    subst hm
    refine ⟨hlc, ?_, fun j hj => ?_⟩
    · have := light_len ht hl
      simp only [List.length_map, List.length_range] at this
      rwa [show len + (m - len) = m by omega] at this
    · obtain ⟨cs, h1, h2⟩ := hx j (by omega)
      obtain ⟨b, off, spot⟩ := x0
      rw [hC] at h1
      obtain ⟨_, hlen, hc⟩ := World.cells?_some h1
      have hfl := read_struct hs hone hC h2 (light_elem ht hl (.inl (by
        simp only [List.mem_map, List.mem_range]
        exact ⟨j, hj, rfl⟩)))
      have h0 := hc 0 hpos
      rw [Go.Deep.add_add] at h0
      have hcs0 : cs[0]? = some (cs[0]'(by omega)) := List.getElem?_eq_getElem (by omega)
      have hsp : spot = none := by
        obtain ⟨cs', g1, _⟩ := hx 0 (by omega)
        rw [hC] at g1
        obtain ⟨_, hlen', hc'⟩ := World.cells?_some g1
        have g0 := hc' 0 hpos
        rw [Go.Deep.add_add, List.getElem?_eq_getElem (show 0 < cs'.length by omega)] at g0
        simp only [Nat.zero_mul, Nat.add_zero, Addr.add, if_true] at g0
        cases spot with
        | none => rfl
        | some s => simp [World.cell?] at g0; split at g0 <;> simp at g0
      subst hsp
      have hcell : ∀ i v, cs[i]? = some v → W.cell? ⟨b, off + j * fs.size + i, none⟩ = some v := by
        intro i v hv
        have hi : i < fs.size := by rw [← hlen]; exact (List.getElem?_eq_some_iff.1 hv).1
        have := hc i hi
        rw [Go.Deep.add_add, Addr.add_mid] at this
        rw [← hv, ← this, Nat.add_assoc]
      exact ⟨b, off, cs, rfl, World.block_lt_of_cell? _ _ (hcell 0 _ hcs0), hcell, hfl⟩
/-! one cell -/
theorem Read1.int {t : TypeId} {c : Value} {k : IntKind} (hu : P.underlying t = some (.int k)) (h : Read1 enc P W t c) : ∃ a, c = .int k a ∧ (Lit.int k a).wf = true := by
  obtain ⟨n, y, h, _⟩ := h
  obtain ⟨a, ha, _, hw⟩ := DataW.trod_int hu h
  exact ⟨a, by simpa using ha, hw⟩
theorem Read1.str {t : TypeId} {c : Value} (hu : P.underlying t = some .string) (h : Read1 enc P W t c) : ∃ s : ByteArray, c = .string s ∧ s.size ≤ 140737488351232 := by
  obtain ⟨n, y, h, hl⟩ := h
  obtain ⟨s, hs, rfl, _⟩ := DataW.trod_string hu h
  refine ⟨s, by simpa using hs, ?_⟩
  have := hl s.data.toList.length (by simp [DataW.weights])
  have h2 : s.size ≤ reachBytes := by simpa using this
  exact h2
theorem Read1.bool {t : TypeId} {c : Value} (hu : P.underlying t = some .bool) (h : Read1 enc P W t c) : ∃ b, c = .bool b := by
  obtain ⟨n, y, h, _⟩ := h
  obtain ⟨b, hb, _⟩ := DataW.trod_bool hu h
  exact ⟨b, by simpa using hb⟩
/-- A slice whose elements are of one cell. -/
theorem Read1.slice1 {t e : TypeId} {c : Value} (hu : P.underlying t = some (.slice e)) (hc : P.cellsOf e = 1) (h : Read1 enc P W t c) :
    ∃ (a : Option Addr) (len cap : Nat) (vs : List Value), c = .slice a len cap ∧ len ≤ cap ∧ vs.length = len ∧ SlV W c vs ∧ cap * P.bytesOf e ≤ reachBytes ∧ ∀ v ∈ vs, Read1 enc P W e v := by
  obtain ⟨n, y, h, hl⟩ := h
  rcases Go.Deep.open_slice1 hu hc h with ⟨hcs, _⟩ | ⟨x0, l, c0, m, k, V, D, Pl, hcs, _, hlc, _, hm, rfl, hx⟩
  · simp only [List.cons.injEq, and_true] at hcs
    subst hcs
    exact ⟨none, 0, 0, [], rfl, Nat.le_refl _, rfl, .inl ⟨rfl, none, 0, rfl, fun _ => rfl⟩, by simp, by simp⟩
  · simp only [List.cons.injEq, and_true] at hcs
    subst hcs
    simp only [if_true] at hm
    subst hm
    obtain ⟨b, off, spot⟩ := x0
    refine ⟨_, l, m, (List.range l).map V, rfl, hlc, by simp, ?_, ?_, ?_⟩
    · by_cases h0 : l = 0
      · subst h0
        exact .inl ⟨by simp, _, _, rfl, by simp⟩
      · have hlt : ∀ j, j < l → W.cell? ((⟨b, off, spot⟩ : Addr).add j) = some (V j) := fun j hj => (hx j (by omega)).1
        have hsp : spot = none := by
          have := hlt 0 (by omega)
          simp only [Addr.add, if_true] at this
          cases spot with
          | none => rfl
          | some s => simp [World.cell?] at this; split at this <;> simp at this
        subst hsp
        refine .inr ⟨b, off, m, by simp, by simpa using hlc, ?_, fun j hj => ?_⟩
        · have := hlt 0 (by omega)
          rw [Addr.add_lit] at this
          exact World.block_lt_of_cell? _ _ this
        · have hj' : j < l := by simpa using hj
          have := hlt j hj'
          rw [Addr.add_lit] at this
          rw [this]
          simp [List.getD, hj']
    · have := light_len hu hl
      simp only [List.length_map, List.length_range] at this
      rwa [show l + (m - l) = m by omega] at this
    · intro v hv
      obtain ⟨j, hj, rfl⟩ := List.mem_map.1 hv
      have hj' := List.mem_range.1 hj
      exact ⟨k, _, (hx j (by omega)).2, light_elem hu hl (.inl (List.mem_map.2 ⟨j, hj, rfl⟩))⟩
theorem list_of_each {α β : Type} {p : α → β → Prop} : ∀ {l : List α}, (∀ v ∈ l, ∃ b, p v b) → ∃ bs : List β, bs.length = l.length ∧ ∀ (j : Nat) (v : α) (b : β), l[j]? = some v → bs[j]? = some b → p v b
  | [], _ => ⟨[], rfl, fun j v b h => by simp at h⟩
  | x :: l, h => by
    obtain ⟨b, hb⟩ := h x List.mem_cons_self
    obtain ⟨bs, hl, hbs⟩ := list_of_each (l := l) (fun v hv => h v (List.mem_cons_of_mem _ hv))
    refine ⟨b :: bs, by simp [hl], fun j v c h1 h2 => ?_⟩
    cases j with
    | zero =>
      simp only [List.getElem?_cons_zero, Option.some.injEq] at h1 h2
      subst h1; subst h2; exact hb
    | succ j => exact hbs j v c (by simpa using h1) (by simpa using h2)
theorem Read1.bools {t e : TypeId} {c : Value} (hu : P.underlying t = some (.slice e)) (he : P.underlying e = some .bool) (hc : P.cellsOf e = 1) (hB : P.bytesOf e = 1) (h : Read1 enc P W t c) :
    ∃ bs : List Bool, SlV W c (bs.map Value.bool) ∧ bs.length ≤ 140737488351232 := by
  obtain ⟨a, len, cap, vs, rfl, h1, h2, h3, h4, h5⟩ := h.slice1 hu hc
  obtain ⟨bs, hl, hbs⟩ := list_of_each (p := fun v b => v = Value.bool b) (fun v hv => (h5 v hv).bool he)
  have hvs : vs = bs.map Value.bool := by
    apply List.ext_getElem
    · simp [hl]
    · intro i q1 q2
      have hq : i < bs.length := by simpa using q2
      have := hbs i vs[i] bs[i] (List.getElem?_eq_getElem q1) (List.getElem?_eq_getElem hq)
      simp [this]
  refine ⟨bs, hvs ▸ h3, ?_⟩
  rw [hB, Nat.mul_one] at h4
  have : reachBytes = 140737488351232 := rfl
  omega
end
/-- For every j below n there is one: a list of them. -/
theorem list_upto {β : Type} {p : Nat → β → Prop} : ∀ (n : Nat), (∀ j, j < n → ∃ b, p j b) → ∃ bs : List β, bs.length = n ∧ ∀ (j : Nat) (b : β), bs[j]? = some b → p j b
  | 0, _ => ⟨[], rfl, fun j b h => by simp at h⟩
  | n + 1, h => by
    obtain ⟨bs, hl, hbs⟩ := list_upto n (fun j hj => h j (by omega))
    obtain ⟨b, hb⟩ := h n (by omega)
    refine ⟨bs ++ [b], by simp [hl], fun j c hc => ?_⟩
    by_cases hj : j < n
    · rw [List.getElem?_append_left (by omega)] at hc
      exact hbs j c hc
    · rw [List.getElem?_append_right (by omega)] at hc
      have hjn : j = n := by
        have := (List.getElem?_eq_some_iff.1 hc).1
        simp at this; omega
      subst hjn
      rw [hl, Nat.sub_self] at hc
      simp only [List.getElem?_cons_zero, Option.some.injEq] at hc
      subst hc; exact hb
end Go.Proofs.YtbfbajfdlkgloaaGreatDoor
