/-
  The program's disk: act where no fate is to meet it: the change is made, the act is counted.
-/
import Derived.Test.YtbfbajfdlkgloaaGreatDoorG02

namespace Go.Proofs.YtbfbajfdlkgloaaGreatDoor
open Go Go.RowKit Go.Maps
namespace Dk
def did (s : St) (n : ByteArray) (f : F) : St := { s with acts := s.acts + 1, files := put s.files n f }
theorem lt_trans {a b c : List UInt8} (h : bytesBefore a b = true) (k : bytesBefore b c = true) : bytesBefore a c = true :=
  Go.WideShapes.before_trans (a := .string a) (b := .string b) (c := .string c) h k
theorem lt_total {a b : ByteArray} (h : a ≠ b) : bytesBefore (key a) (key b) = true ∨ bytesBefore (key b) (key a) = true :=
  Go.ChangeMaps.before_total (a := .string (key a)) (b := .string (key b)) ⟨_, rfl⟩ ⟨_, rfl⟩ (fun e => by injection e with e; exact h (key_inj e))
theorem mem_ins {x p : ByteArray × F} : ∀ {l : Fs}, p ∈ ins x l ↔ p = x ∨ p ∈ l
  | [] => by simp [ins]
  | y :: r => by
    unfold ins
    split
    · simp
    · rw [List.mem_cons, mem_ins, List.mem_cons]
      constructor
      · rintro (h | h | h)
        · exact .inr (.inl h)
        · exact .inl h
        · exact .inr (.inr h)
      · rintro (h | h | h)
        · exact .inr (.inl h)
        · exact .inl h
        · exact .inr (.inr h)
theorem mem_put {l : Fs} {n : ByteArray} {f : F} {p : ByteArray × F} (h : p ∈ put l n f) : p = (n, f) ∨ p ∈ l := by
  rcases mem_ins.1 h with h | h
  · exact .inl h
  · exact .inr ((List.mem_filter.1 h).1)
theorem len_ins (x : ByteArray × F) : ∀ l : Fs, (ins x l).length = l.length + 1
  | [] => rfl
  | y :: r => by
    unfold ins
    split
    · rfl
    · simp [len_ins x r]
theorem len_put (l : Fs) (n : ByteArray) (f : F) : (put l n f).length ≤ l.length + 1 := by
  unfold put
  rw [len_ins]
  have := List.length_filter_le (fun p : ByteArray × F => !decide (p.1 = n)) l
  omega
theorem up_ins {x : ByteArray × F} : ∀ {l : Fs}, Up l → (∀ p ∈ l, p.1 ≠ x.1) → Up (ins x l)
  | [], _, _ => List.pairwise_singleton _ _
  | y :: r, h, hne => by
    obtain ⟨h1, h2⟩ := List.pairwise_cons.1 h
    unfold ins
    split
    · rename_i hb
      refine List.pairwise_cons.2 ⟨fun q hq => ?_, h⟩
      rcases List.mem_cons.1 hq with rfl | hq
      · exact hb
      · exact lt_trans hb (h1 q hq)
    · rename_i hb
      have hyx := (lt_total (hne y (by simp))).resolve_right hb
      refine List.pairwise_cons.2 ⟨fun q hq => ?_, up_ins h2 (fun p hp => hne p (by simp [hp]))⟩
      rcases mem_ins.1 hq with rfl | hq
      · exact hyx
      · exact h1 q hq
theorem up_put {l : Fs} (h : Up l) (n : ByteArray) (f : F) : Up (put l n f) := by
  refine up_ins (List.Pairwise.filter _ h) fun p hp => ?_
  have := (List.mem_filter.1 hp).2
  simpa using this
theorem did_ok {s : St} (h : Ok s) {n : ByteArray} {f : F} (hn : n.size ≤ 140737488351232) (ha : s.acts < 4611686018427387904) (hm : s.files.length < 1099511627776) (hf : f.now.size ≤ 268435456 ∧ f.was.size ≤ 268435456) : Ok (did s n f) := by
  refine ⟨h.room, by show s.acts + 1 ≤ _; omega, h.left, ?_, ?_, ?_, up_put h.up n f⟩
  · intro p hp
    rcases mem_put hp with rfl | hp
    · exact hn
    · exact h.names p hp
  · have := len_put s.files n f
    show (put s.files n f).length ≤ _
    omega
  · intro p hp
    rcases mem_put hp with rfl | hp
    · exact hf
    · exact h.sizes p hp
end Dk
theorem own_stable {mb n : Nat} {d : DataW Unit} : ∀ u u' : World, u.ownsMap Tryz.prog 9 Dk.R mb n d → Below u.heap.size u u' → u'.ownsMap Tryz.prog 9 Dk.R mb n d := by
  rintro u u' h hb
  have hlt := h.lt
  obtain ⟨es, clock, h1, h2⟩ := h
  exact ⟨es, clock, (hb.block mb hlt).trans h1, h2⟩
theorem own_tight {w : World} {mb n : Nat} {l : Dk.Fs} (h : w.ownsMap Tryz.prog 9 Dk.R mb n (Dk.dat l)) : w.ownsMap Tryz.prog 9 Dk.R mb l.length (Dk.dat l) := by
  obtain ⟨es, clock, hb, F, hs, hD⟩ := h
  refine ⟨es, clock, hb, F, ?_, hD⟩
  have e : (l.map Dk.litF).length = ((es.toList.map (Go.WideElems.rg Tryz.prog 9 Dk.R)).foldr DataW.insert []).length := by
    unfold Dk.dat at hD
    injection hD with hD
    rw [hD]
  rw [length_sorted] at e
  simp at e
  omega
theorem Moved.cell {S : Nat → Prop} {w w' : World} (h : Moved S w w') {a : Addr} (hlt : a.block < w.heap.size) (hn : ¬ S a.block) : w'.cell? a = w.cell? a := World.cell?_of_block (h.block a.block hlt hn)
def actaL (D : Dk.Blk) (s : Dk.St) (n : ByteArray) (cf : Nat) (caps : Array Value) (f fo : Dk.F) : List Sp :=
  [.is (.pointer (some ⟨D.g, 0, none⟩)), .is (.pointer (some ⟨D.g, 0, none⟩)), .is (.pointer (some ⟨D.g, 1, none⟩)), .is (.map (some D.mb)), .is (.string n), .is (.func (.func cf) #[] caps), .is (.pointer (some ⟨D.g, 0, none⟩)), .is (.pointer (some ⟨D.g, 0, none⟩)), .is (.pointer (some ⟨D.g, 1, none⟩)), .is (.map (some D.mb)), .is (.string n), .is (.agg #[.string (fo).now, .string (fo).was]), .is (.agg #[.string (f).now, .string (f).was]), .say (fun u => u.ownsMap Tryz.prog 9 Dk.R D.mb (Dk.put s.files n f).length (Dk.dat (Dk.put s.files n f))) (own_stable)]
def actaU : List (List Nat) := [[], [0], [1], [2], [], [], [], [6], [7], [8], [], [9, 10], [5, 11], [3, 4, 12]]
set_option maxHeartbeats 1600000 in
set_option maxRecDepth 100000 in
theorem diskAct_calm (D : Dk.Blk) (s : Dk.St) (n : ByteArray) (cf : Nat) (caps : Array Value) (f : Dk.F) (w : World) (h : DiskAt w D s) (hn : n.size ≤ 140737488351232) (hleft : s.left = 0) (hacts : s.acts < 4611686018427387904) (hmany : s.files.length < 1099511627776) (hfz : f.now.size ≤ 268435456 ∧ f.was.size ≤ 268435456)
    (hent : ∀ (args : Array Value) (u : World), (callFunc cf args).run Tryz.prog u = .ok (.enter cf args) u)
    (hch : ∀ w1 : World, Moved (fun k => k = D.g ∨ k = D.mb) w w1 → Calls Tryz.prog cf (#[Dk.valF (Dk.get s.files n)] ++ caps) w1 fun e w' => e = .returned (Dk.valF f) ∧ Below w1.heap.size w1 w') :
    Calls Tryz.prog 54 #[.pointer (some ⟨D.g, 0, none⟩), .string n, .func (.func cf) #[] caps] w fun e w' => e = .returned (.int .i64 0) ∧ DiskAt w' D (Dk.did s n f) ∧ Moved (fun k => k = D.g ∨ k = D.mb) w w' := by
  have c1 := h.c1
  have c2 := h.c2
  have f2 := h.free 2
  have c6 := h.c6
  rw [hleft] at c6
  have HD := hide h
  clear h
  go_enter Tryz.func54, Tryz.ntmps54
  go_upto_region 8 with (fail)
  obtain ⟨W1, hW1⟩ : ∃ V, V = w.setCell ⟨D.g, 2, none⟩ (.int .i64 ((s.acts : Int) + 1)) := ⟨_, rfl⟩
  rw [← hW1]
  have HM1 := hide (show Moved (fun k => k = D.g) w W1 by rw [hW1]; exact Moved.setCell (S := fun k => k = D.g) (Moved.refl _ _) (a := ⟨D.g, 2, none⟩) rfl _)
  have C1 := hide (show W1.cell? ⟨D.g, 1, none⟩ = some (.map (some D.mb)) by rw [hW1]; exact (World.cell?_setCell_other _ _ _ _ (by simp)).trans c1)
  have HDG := hide (show D.g < W1.heap.size ∧ ¬ D.g = D.mb from ⟨by rw [hW1]; simpa using HD.out.glt, HD.out.ne⟩)
  obtain ⟨fo, hfo⟩ : ∃ v, v = Dk.get s.files n := ⟨_, rfl⟩
  rw [← hfo] at hch
  unfold Dk.valF at hch
  have HCH := hide hch
  have HFO := hide hfo
  clear hfo hch
  have HCELLS := hide (show W1.heap[D.g]? = some (.cells (Dk.cells D (Dk.did s n f)) 87 (0, 0)) by
    rw [hW1, heap_setCell_same _ _ _ _ _ _ HD.out.cells]
    simp [Dk.cells, Dk.did])
  have HMAP := hide (show W1.ownsMap Tryz.prog 9 Dk.R D.mb s.files.length (Dk.dat s.files) from by
    obtain ⟨es, clock, hb, F, hs, hD⟩ := HD.out.map
    exact ⟨es, clock, (HM1.out.block D.mb HD.out.map.lt (fun e => HD.out.ne e.symm)).trans hb, F, hs, hD⟩)
  have HLEN := hide (show s.files.length < maxLen by unfold maxLen; have := HD.out.ok.many; omega)
  have HNL := hide (show n.size ≤ maxLen by unfold maxLen; omega)
  have LOOK := hide (show ∀ u, Below W1.heap.size W1 u → (Instr.lookup 85 (.map (some D.mb)) (.string n) false).run Tryz.prog u = .ok (.agg #[.string fo.now, .string fo.was]) u from by
    intro u hu
    rw [HFO.out]
    exact look_map (own_stable _ _ HMAP.out hu) n hn)
  clear hW1 c1 c2 f2 hleft
  
  refine wp_region_local (by kernel_rfl) (by kernel_rfl) (useList actaU) [13] (by kernel_rfl) (spR (actaL D s n cf caps f fo)) (fun k u => k < 14 → Below W1.heap.size W1 u) (Moved (fun k => k = D.mb) W1) (oneE 13 (fun _ _ => True)) (one_stays (by simp [actaL]) (by kernel_rfl)) (last_pre (fun _ _ h hb => h.trans (hb.mono h.size)) (by kernel_rfl)) (one_refl (fun _ => trivial)) (dsts_lt (N := 104) (by kernel_rfl)) ((Moved.refl _ _).drew) (fun _ _ _ => (Below.refl _ _).drew) (all_ops ?_) ?_
  · refine And.intro ?_ ?_
    · refine lstep_run fun fr wf left => ?_
      have o0 := (left.old 0 (by kernel_rfl)).trans rfl
      refine ⟨wanted_none rfl, fun K hK => ?_⟩
      have hB := hide left.base; have hP := hide (left.pre (by decide))
      clear left
      go_simp
      exact hK _ _ rfl hB.out (one_refl (fun _ => trivial) _ _)
    refine And.intro ?_ ?_
    · refine lstep_run fun fr wf left => ?_
      obtain ⟨x0, e0, r0⟩ := left.slot 104 rfl 0 50 _ rfl rfl (by decide) rfl
      have s0 := Eq.symm (show x0 = .pointer (some ⟨D.g, 0, none⟩) from r0)
      subst s0
      refine ⟨wanted_none rfl, fun K hK => ?_⟩
      have hB := hide left.base; have hP := hide (left.pre (by decide))
      clear left
      go_simp
      exact hK _ _ rfl hB.out (one_refl (fun _ => trivial) _ _)
    refine And.intro ?_ ?_
    · refine lstep_run fun fr wf left => ?_
      obtain ⟨x1, e1, r1⟩ := left.slot 104 rfl 1 51 _ rfl rfl (by decide) rfl
      have s1 := Eq.symm (show x1 = .pointer (some ⟨D.g, 0, none⟩) from r1)
      subst s1
      refine ⟨wanted_none rfl, fun K hK => ?_⟩
      have hB := hide left.base; have hP := hide (left.pre (by decide))
      clear left
      go_simp
      exact hK _ _ rfl hB.out (one_refl (fun _ => trivial) _ _)
    refine And.intro ?_ ?_
    · refine lstep_run fun fr wf left => ?_
      obtain ⟨x2, e2, r2⟩ := left.slot 104 rfl 2 52 _ rfl rfl (by decide) rfl
      have s2 := Eq.symm (show x2 = .pointer (some ⟨D.g, 1, none⟩) from r2)
      subst s2
      refine ⟨wanted_none rfl, fun K hK => ?_⟩
      have hB := hide left.base; have hP := hide (left.pre (by decide))
      have hc := (hP.out.cell (p := ⟨D.g, 1, none⟩) HDG.out.1).trans C1.out
      clear left
      go_simp
      exact hK _ _ rfl hB.out (one_refl (fun _ => trivial) _ _)
    refine And.intro ?_ ?_
    · refine lstep_run fun fr wf left => ?_
      have o1 := (left.old 1 (by kernel_rfl)).trans rfl
      refine ⟨wanted_none rfl, fun K hK => ?_⟩
      have hB := hide left.base; have hP := hide (left.pre (by decide))
      clear left
      go_simp
      exact hK _ _ rfl hB.out (one_refl (fun _ => trivial) _ _)
    refine And.intro ?_ ?_
    · refine lstep_run fun fr wf left => ?_
      have o2 := (left.old 2 (by kernel_rfl)).trans rfl
      refine ⟨wanted_none rfl, fun K hK => ?_⟩
      have hB := hide left.base; have hP := hide (left.pre (by decide))
      clear left
      go_simp
      exact hK _ _ rfl hB.out (one_refl (fun _ => trivial) _ _)
    refine And.intro ?_ ?_
    · refine lstep_run fun fr wf left => ?_
      have o0 := (left.old 0 (by kernel_rfl)).trans rfl
      refine ⟨wanted_none rfl, fun K hK => ?_⟩
      have hB := hide left.base; have hP := hide (left.pre (by decide))
      clear left
      go_simp
      exact hK _ _ rfl hB.out (one_refl (fun _ => trivial) _ _)
    refine And.intro ?_ ?_
    · refine lstep_run fun fr wf left => ?_
      obtain ⟨x6, e6, r6⟩ := left.slot 104 rfl 6 56 _ rfl rfl (by decide) rfl
      have s6 := Eq.symm (show x6 = .pointer (some ⟨D.g, 0, none⟩) from r6)
      subst s6
      refine ⟨wanted_none rfl, fun K hK => ?_⟩
      have hB := hide left.base; have hP := hide (left.pre (by decide))
      clear left
      go_simp
      exact hK _ _ rfl hB.out (one_refl (fun _ => trivial) _ _)
    refine And.intro ?_ ?_
    · refine lstep_run fun fr wf left => ?_
      obtain ⟨x7, e7, r7⟩ := left.slot 104 rfl 7 57 _ rfl rfl (by decide) rfl
      have s7 := Eq.symm (show x7 = .pointer (some ⟨D.g, 0, none⟩) from r7)
      subst s7
      refine ⟨wanted_none rfl, fun K hK => ?_⟩
      have hB := hide left.base; have hP := hide (left.pre (by decide))
      clear left
      go_simp
      exact hK _ _ rfl hB.out (one_refl (fun _ => trivial) _ _)
    refine And.intro ?_ ?_
    · refine lstep_run fun fr wf left => ?_
      obtain ⟨x8, e8, r8⟩ := left.slot 104 rfl 8 58 _ rfl rfl (by decide) rfl
      have s8 := Eq.symm (show x8 = .pointer (some ⟨D.g, 1, none⟩) from r8)
      subst s8
      refine ⟨wanted_none rfl, fun K hK => ?_⟩
      have hB := hide left.base; have hP := hide (left.pre (by decide))
      have hc := (hP.out.cell (p := ⟨D.g, 1, none⟩) HDG.out.1).trans C1.out
      clear left
      go_simp
      exact hK _ _ rfl hB.out (one_refl (fun _ => trivial) _ _)
    refine And.intro ?_ ?_
    · refine lstep_run fun fr wf left => ?_
      have o1 := (left.old 1 (by kernel_rfl)).trans rfl
      refine ⟨wanted_none rfl, fun K hK => ?_⟩
      have hB := hide left.base; have hP := hide (left.pre (by decide))
      clear left
      go_simp
      exact hK _ _ rfl hB.out (one_refl (fun _ => trivial) _ _)
    refine And.intro ?_ ?_
    · refine lstep_run fun fr wf left => ?_
      obtain ⟨x9, e9, r9⟩ := left.slot 104 rfl 9 59 _ rfl rfl (by decide) rfl
      have s9 := Eq.symm (show x9 = .map (some D.mb) from r9)
      subst s9
      obtain ⟨x10, e10, r10⟩ := left.slot 104 rfl 10 60 _ rfl rfl (by decide) rfl
      have s10 := Eq.symm (show x10 = .string n from r10)
      subst s10
      refine ⟨wanted_none rfl, fun K hK => ?_⟩
      have hB := hide left.base; have hP := hide (left.pre (by decide))
      have hlk := LOOK.out _ hP.out
      clear left
      go_simp
      exact hK _ _ rfl hB.out (one_refl (fun _ => trivial) _ _)
    refine And.intro ?_ ?_
    · refine lstep_run fun fr wf left => ?_
      obtain ⟨x5, e5, r5⟩ := left.slot 104 rfl 5 55 _ rfl rfl (by decide) rfl
      have s5 := Eq.symm (show x5 = .func (.func cf) #[] caps from r5)
      subst s5
      obtain ⟨x11, e11, r11⟩ := left.slot 104 rfl 11 61 _ rfl rfl (by decide) rfl
      have s11 := Eq.symm (show x11 = .agg #[.string (fo).now, .string (fo).was] from r11)
      subst s11
      refine ⟨wanted_none rfl, fun K hK => ?_⟩
      have hB := hide left.base; have hP := hide (left.pre (by decide))
      clear left
      go_simp
      refine (HCH.out _ ((HM1.out.mono fun _ => .inl).trans hB.out (fun _ h => .inl (.inr h)))).mono ?_
      rintro e w' ⟨rfl, hb⟩
      exact hK _ _ rfl (hB.out.then (Moved.of_below hb)) (one_else (by decide) hb)
    refine And.intro ?_ ?_
    · refine lstep_run fun fr wf left => ?_
      obtain ⟨x3, e3, r3⟩ := left.slot 104 rfl 3 53 _ rfl rfl (by decide) rfl
      have s3 := Eq.symm (show x3 = .map (some D.mb) from r3)
      subst s3
      obtain ⟨x4, e4, r4⟩ := left.slot 104 rfl 4 54 _ rfl rfl (by decide) rfl
      have s4 := Eq.symm (show x4 = .string n from r4)
      subst s4
      obtain ⟨x12, e12, r12⟩ := left.slot 104 rfl 12 62 _ rfl rfl (by decide) rfl
      have s12 := Eq.symm (show x12 = .agg #[.string (f).now, .string (f).was] from r12)
      subst s12
      refine ⟨wanted_none rfl, fun K hK => ?_⟩
      have hB := hide left.base; have hP := hide (left.pre (by decide))
      clear left
      obtain ⟨w5, hrun, hm5, hg5⟩ := (own_stable _ _ HMAP.out hP.out).update strK Tryz.underlying85 HLEN.out (Go.WideMaps.keyOf_string_mk Tryz.underlying9 (s := n) HNL.out) (Dk.R_val f)
      unfold Dk.valF at hrun
      go_simp
      refine hK undef _ ?_ (hB.out.then (Moved.of_grown hg5 (fun j hj => by injection hj with hj; exact hj.symm))) (one_at rfl)
      refine own_tight (n := s.files.length + 1) ?_
      rw [Dk.put_dat]; exact hm5
    exact trivial
  · intro fr wf hB hs hd hall hkeep
    have h13 : wf.ownsMap Tryz.prog 9 Dk.R D.mb (Dk.put s.files n f).length (Dk.dat (Dk.put s.files n f)) := hall 13 _ rfl (by simp)
    have hfr := act_ext (frame_set hs hkeep [50, 51, 52, 53, 54, 55, 56, 57, 58, 59, 60, 61, 62] (by kernel_rfl)) hd
    obtain ⟨q50, hq50⟩ : ∃ q, q = fr.tmps.getD 50 undef := ⟨_, rfl⟩
    obtain ⟨q51, hq51⟩ : ∃ q, q = fr.tmps.getD 51 undef := ⟨_, rfl⟩
    obtain ⟨q52, hq52⟩ : ∃ q, q = fr.tmps.getD 52 undef := ⟨_, rfl⟩
    obtain ⟨q53, hq53⟩ : ∃ q, q = fr.tmps.getD 53 undef := ⟨_, rfl⟩
    obtain ⟨q54, hq54⟩ : ∃ q, q = fr.tmps.getD 54 undef := ⟨_, rfl⟩
    obtain ⟨q55, hq55⟩ : ∃ q, q = fr.tmps.getD 55 undef := ⟨_, rfl⟩
    obtain ⟨q56, hq56⟩ : ∃ q, q = fr.tmps.getD 56 undef := ⟨_, rfl⟩
    obtain ⟨q57, hq57⟩ : ∃ q, q = fr.tmps.getD 57 undef := ⟨_, rfl⟩
    obtain ⟨q58, hq58⟩ : ∃ q, q = fr.tmps.getD 58 undef := ⟨_, rfl⟩
    obtain ⟨q59, hq59⟩ : ∃ q, q = fr.tmps.getD 59 undef := ⟨_, rfl⟩
    obtain ⟨q60, hq60⟩ : ∃ q, q = fr.tmps.getD 60 undef := ⟨_, rfl⟩
    obtain ⟨q61, hq61⟩ : ∃ q, q = fr.tmps.getD 61 undef := ⟨_, rfl⟩
    obtain ⟨q62, hq62⟩ : ∃ q, q = fr.tmps.getD 62 undef := ⟨_, rfl⟩
    simp only [List.foldl, ← hq50, ← hq51, ← hq52, ← hq53, ← hq54, ← hq55, ← hq56, ← hq57, ← hq58, ← hq59, ← hq60, ← hq61, ← hq62] at hfr
    simp only [List.setIfInBounds_toArray, List.set_cons_zero, List.set_cons_succ] at hfr
    clear hall hkeep hs hd hq50 hq51 hq52 hq53 hq54 hq55 hq56 hq57 hq58 hq59 hq60 hq61 hq62
    subst hfr
    go_wp2_with fail
    go_ret
    refine ⟨rfl, ⟨Dk.did_ok HD.out.ok hn hacts hmany hfz, (hB.block D.g HDG.out.1 HDG.out.2).trans HCELLS.out, h13, ?_, HD.out.apart⟩, (HM1.out.mono fun _ => .inl).trans hB (fun _ h => .inl (.inr h))⟩
    refine HD.out.keep.stay (Nat.le_trans HM1.out.size hB.size) fun k hk hlt => ?_
    rw [hB.block k (Nat.lt_of_lt_of_le hlt HM1.out.size) (fun e => HD.out.apart.2 (by rw [hk, e])), HM1.out.block k hlt (fun e => HD.out.apart.1 (by rw [hk, e]))]
end Go.Proofs.YtbfbajfdlkgloaaGreatDoor
