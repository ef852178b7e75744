/-
  Two stores on two disks, side by side.
-/
import Derived.Test.YtbfbajfdlkgloaaGreatDoorCFilesListW
namespace Go.Proofs.YtbfbajfdlkgloaaGreatDoor
open Go Go.RowKit Go.Maps
/-- A store with the first i items of a list, on a disk with room. -/
structure Side (w : World) (k tg : Nat) (l : List ByteArray) (i : Nat) (T : Fl.Blk) (D : Dk.Blk) : Prop where
  tg : T.g = tg
  kv : D.kv = .slice none 0 0
  store : StoreAt w T D.g (Fl.stOf k (Fl.its k 0 (l.take i)))
  disk : ∃ a, a ≤ 100 + 6 * i ∧ DiskAt w D (Fl.dOf Fl.dM k (Fl.its k 0 (l.take i)) a)
  away : Fl.Away T D
theorem Side.lt {w : World} {k tg : Nat} {l : List ByteArray} {i : Nat} {T : Fl.Blk} {D : Dk.Blk} (h : Side w k tg l i T D) {j : Nat} (hj : addS T D j) : j < w.heap.size := by
  obtain ⟨a, _, hd⟩ := h.disk
  rcases hj with e | e | e | e
  · rw [e]; exact h.store.lt
  · exact (h.store.row.lt j e).2
  · rw [e]; exact hd.glt
  · rw [e]; exact hd.map.lt
theorem Side.moved {w w' : World} {k tg : Nat} {l : List ByteArray} {i : Nat} {T : Fl.Blk} {D : Dk.Blk} {R : Nat → Prop} (h : Side w k tg l i T D) (hm : Moved R w w') (hR : ∀ j, addS T D j → ¬ R j) : Side w' k tg l i T D := by
  obtain ⟨a, ha, hd⟩ := h.disk
  refine ⟨h.tg, h.kv, h.store.stay hm (hR _ (.inl rfl)) (fun b hb => hR b (.inr (.inl hb))), ⟨a, ha, hd.stay hm ⟨hR _ (.inr (.inr (.inl rfl))), hR _ (.inr (.inr (.inr rfl))), ?_⟩⟩, h.away⟩
  intro b hb
  rw [h.kv] at hb
  cases hb
def Two (S : Nat → Prop) (w : World) (k ta tb : Nat) (la lb : List ByteArray) (i j : Nat) : Prop :=
  ∃ Ta Da Tb Db, Side w k ta la i Ta Da ∧ Side w k tb lb j Tb Db ∧ (∀ x, addS Ta Da x → ¬ addS Tb Db x) ∧ ∀ x, addS Ta Da x ∨ addS Tb Db x → S x
section
variable {S : Nat → Prop} {w : World} {k ta tb : Nat} {la lb : List ByteArray} {i j : Nat}
theorem Two.swap (h : Two S w k ta tb la lb i j) : Two S w k tb ta lb la j i := by
  obtain ⟨Ta, Da, Tb, Db, h1, h2, h3, h4⟩ := h
  exact ⟨Tb, Db, Ta, Da, h2, h1, fun x hx hy => h3 x hy hx, fun x hx => h4 x hx.symm⟩
theorem Two.mono (h : Two S w k ta tb la lb i j) {S' : Nat → Prop} (hS : ∀ x, S x → x < w.heap.size → S' x) : Two S' w k ta tb la lb i j := by
  obtain ⟨Ta, Da, Tb, Db, h1, h2, h3, h4⟩ := h
  exact ⟨Ta, Da, Tb, Db, h1, h2, h3, fun x hx => hS x (h4 x hx) (hx.elim (fun e => h1.lt e) (fun e => h2.lt e))⟩
theorem Two.moved (h : Two S w k ta tb la lb i j) {w' : World} {R : Nat → Prop} (hm : Moved R w w') (hR : ∀ x, S x → ¬ R x) : Two S w' k ta tb la lb i j := by
  obtain ⟨Ta, Da, Tb, Db, h1, h2, h3, h4⟩ := h
  exact ⟨Ta, Da, Tb, Db, h1.moved hm fun x hx => hR x (h4 x (.inl hx)), h2.moved hm fun x hx => hR x (h4 x (.inr hx)), h3, h4⟩
theorem Two.past (h : Two S w k ta tb la lb i j) {w' : World} (hb : Below w.heap.size w w') : Two S w' k ta tb la lb i j :=
  h.moved (Moved.of_below (S := fun _ => False) hb) (fun _ _ e => e)
theorem Two.over (h : Two S w k ta tb la lb i j) (hi : la.length ≤ i) : Two S w k ta tb la lb (i + 1) j := by
  obtain ⟨Ta, Da, Tb, Db, h1, h2, h3, h4⟩ := h
  have e : la.take (i + 1) = la.take i := by rw [List.take_of_length_le hi, List.take_of_length_le (by omega)]
  obtain ⟨a, ha, hd⟩ := h1.disk
  exact ⟨Ta, Da, Tb, Db, ⟨h1.tg, h1.kv, by rw [e]; exact h1.store, ⟨a, by omega, by rw [e]; exact hd⟩, h1.away⟩, h2, h3, h4⟩
theorem two_add (h : Two S w k ta tb la lb i j) (hk1 : 1 ≤ k) (hk : k ≤ 32) (hl : la.length ≤ 12) (hs : ∀ x ∈ la, x.size ≤ 500) {x : ByteArray} (hx : la[i]? = some x) (mv : Value) (hmv : SlV w mv ((Fl.digs i k).map Value.string)) :
    Calls Tryz.prog 26 #[.pointer (some ⟨ta, 0, none⟩), .string x, mv] w fun e w' => e = .returned (.int .i64 0) ∧ Hid (Two (fun y => S y ∨ w.heap.size ≤ y) w' k ta tb la lb (i + 1) j) ∧ Hid (Moved S w w') := by
  obtain ⟨Ta, Da, Tb, Db, ha, hb, hap, hS⟩ := h
  obtain ⟨a, haa, hd⟩ := ha.disk
  have hi : i < la.length := (List.getElem?_eq_some_iff.1 hx).1
  have hxs := hs x (List.mem_of_getElem? hx)
  rw [← ha.tg]
  refine (storeAdd_val Ta Da _ _ _ _ 0 x mv _ w ha.store hd ha.away (by omega) hmv (by rw [Fl.digs_len]; have := Fl.trailF_le 64 i; show 1 + Fl.trailF 64 i ≤ _; omega) (fun d hd => by rw [Fl.digs_size hd]; omega) (by show a + 6 < _; omega) (by show 3 + 6 < 1099511627776; decide) (by show 0 ≤ 140737488351232; decide) (Fl.made_step Fl.dM_calm Fl.dM_room hk1 hk (by omega) hs hx a)).mono ?_
  rintro e w' ⟨rfl, T', D', g1, g2, g3, g4, g5, g6, g7, g8, g9⟩
  have hnew : ∀ x, addS T' D' x → addS Ta Da x ∨ w.heap.size ≤ x := by
    rintro x (e | e | e | e)
    · exact .inl (.inl (e.trans g1))
    · rcases g4 with q | q
      · exact .inl (.inr (.inl (q ▸ e)))
      · exact .inr (q x e)
    · exact .inl (.inr (.inr (.inl (e.trans g2))))
    · rcases g5 with q | q
      · exact .inl (.inr (.inr (.inr (e.trans q))))
      · exact .inr (by rw [e]; exact q)
  refine ⟨rfl, ⟨T', D', Tb, Db, ⟨g1.trans rfl, g3.trans ha.kv, g6, ⟨a + 6, by omega, g7⟩, g8⟩, hb.moved g9 (fun j hj hn => hap j hn hj), fun x hx hy => ?_, fun x hx => ?_⟩, g9.mono fun x hx => hS x (.inl hx)⟩
  · rcases hnew x hx with q | q
    · exact hap x q hy
    · have := hb.lt hy; omega
  · rcases hx with hx | hx
    · exact (hnew x hx).imp (fun q => hS x (.inl q)) id
    · exact .inl (hS x (.inr hx))
theorem two_has (h : Two S w k ta tb la lb i j) (hk1 : 1 ≤ k) (hk : k ≤ 32) (hl : la.length ≤ 12) (hs : ∀ x ∈ la, x.size ≤ 500) (hi : la.length ≤ i) (v : Value) (hv : SlV w v (la.map Value.string)) :
    Calls Tryz.prog 16 #[.pointer (some ⟨ta, 0, none⟩), .int .i64 (k : Int), v] w fun e w' => e = .returned (.bool true) ∧ Hid (Below w.heap.size w w') := by
  obtain ⟨Ta, Da, Tb, Db, ha, hb, hap, hS⟩ := h
  obtain ⟨a, haa, hd⟩ := ha.disk
  have hst := ha.store
  rw [List.take_of_length_le hi] at hd hst
  rw [← ha.tg]
  exact has_val Ta Da _ k la v w hst hd (Fl.has_dOf rfl k la a) hv (by omega) (fun x hx => by have := hs x hx; omega) hk1 hk
end
theorem one_open {D : Dk.Blk} {w : World} (hd : DiskAt w D Fl.dM) (hkv : D.kv = .slice none 0 0) (k : Nat) (hk1 : 1 ≤ k) (hk : k ≤ 32) (l : List ByteArray) :
    Calls Tryz.prog 20 #[.pointer (some ⟨D.g, 0, none⟩), .int .i64 (k : Int)] w fun e w' => ∃ (tg : Nat) (T : Fl.Blk) (D' : Dk.Blk), e = .returned (.tuple #[.pointer (some ⟨tg, 0, none⟩), .int .i64 0]) ∧ Hid (Side w' k tg l 0 T D' ∧ (∀ x, addS T D' x → Dk.own D x ∨ w.heap.size ≤ x)) ∧ Hid (Moved (Dk.own D) w w') := by
  refine (filesOpen_val D Fl.dM _ (k : Int) 0 _ w hd (by decide) (by decide) (by decide) (Fl.open_new Fl.dM_calm rfl hk1 hk)).mono ?_
  rintro e w' ⟨D', g1, g2, g3, g4, g5, ⟨h, _⟩ | ⟨s, T, hs, _, he, h1, h2, h3, h4⟩⟩
  · cases h
  · injection hs with hs
    subst hs
    refine ⟨T.g, T, D', he, ⟨⟨rfl, g2.trans hkv, h3, ⟨_, (by show 0 + 3 ≤ 100 + 6 * 0; decide), g4⟩, h4⟩, ?_⟩, g5⟩
    rintro x (e | e | e | e)
    · exact .inr (by rw [e]; exact h1)
    · exact .inr (h2 x e)
    · exact .inl (.inl (e.trans g1))
    · rcases g3 with q | q
      · exact .inl (.inr (e.trans q))
      · exact .inr (by rw [e]; exact q)
#print axioms two_add
end Go.Proofs.YtbfbajfdlkgloaaGreatDoor
