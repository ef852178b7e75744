/-
  massiflaw19.FilesMemory: the walk.
-/
import Derived.Test.YtbfbajfdlkgloaaGreatDoorCFilesTwo
namespace Go.Proofs.YtbfbajfdlkgloaaGreatDoor
open Go Go.RowKit Go.Maps
theorem Fl.arr_keep {S : Nat → Prop} {w w' : World} {g e : Nat} {xs : List Value} (h : Arr w g e xs) (hm : Moved S w w') (hn : ¬ S g) : Arr w' g e xs := by
  obtain ⟨C, lo, hi, h1, h2⟩ := h
  exact ⟨C, lo, hi, (hm.block g (heap_lt h1) hn).trans h1, h2⟩
def Fl.overL (W : List ByteArray) (z : Nat) : List ByteArray := List.replicate z (⟨#[111, 118, 101, 114]⟩ : ByteArray) ++ W.drop z
theorem Fl.overL_zero (W : List ByteArray) : Fl.overL W 0 = W := rfl
theorem Fl.overL_len {W : List ByteArray} {z : Nat} (h : z ≤ W.length) : (Fl.overL W z).length = W.length := by unfold Fl.overL; simp; omega
theorem Fl.overL_at {W : List ByteArray} {z : Nat} {d : ByteArray} (h : W[z]? = some d) : (Fl.overL W z)[z]? = some d := by
  unfold Fl.overL
  rw [List.getElem?_append_right (by simp)]
  simp [h]
theorem Fl.overL_set {W : List ByteArray} {z : Nat} (h : z < W.length) : (Fl.overL W z).set z (⟨#[111, 118, 101, 114]⟩ : ByteArray) = Fl.overL W (z + 1) := by
  unfold Fl.overL
  rw [List.set_append_right _ _ (by simp), List.length_replicate, Nat.sub_self, List.drop_eq_getElem_cons h, List.set_cons_zero, List.replicate_succ', List.append_assoc]
  rfl
-- DEFS mfa
def mfaL (z N gg cg g2 c2 : Nat) (d : ByteArray) : List Sp :=
  [.is (.int .i64 (z : Int)), .is (.int .i64 (N : Int)), .is (.bool true), .is (.bool true), .is (.slice (some ⟨gg, 0, none⟩) (N + 9) cg), .is (.int .i64 (z : Int)), .is (.pointer (some ⟨gg, z, none⟩)), .is (.string d), .is (.slice (some ⟨g2, 0, none⟩) N c2), .is (.int .i64 (z : Int)), .is (.pointer (some ⟨g2, z, none⟩)), .is (.string d), .is (.bool false), .is (.bool false), .is (.bool false), .is (.int .i64 (z : Int)), .is (.int .i64 (N : Int)), .is (.bool false), .is (.bool false), .is (undef), .is (undef), .is (undef), .is (undef), .is (undef), .is (.bool false), .is (.bool false)]
def mfaU : List (List Nat) := [[], [], [0, 1], [2], [3], [3], [3, 4, 5], [3, 6], [3], [3], [3, 8, 9], [3, 10], [3, 7, 11], [3, 12], [13], [14], [14], [14, 15, 16], [14, 17], [18], [18], [18], [18], [18], [14, 18, 23], [14, 24]]
-- END mfa
-- DEFS mfb
def mfbL (z N gg cg g2 c2 : Nat) : List Sp :=
  [.is (.int .i64 (z : Int)), .is (.int .i64 (N : Int)), .is (.bool false), .is (.bool false), .is (undef), .is (undef), .is (undef), .is (undef), .is (undef), .is (undef), .is (undef), .is (undef), .is (undef), .is (.bool false), .is (.bool false), .is (.int .i64 (z : Int)), .is (.int .i64 (N : Int)), .is (.bool true), .is (.bool true), .is (.slice (some ⟨gg, 0, none⟩) (N + 9) cg), .is (.int .i64 (z : Int)), .is (.pointer (some ⟨gg, z, none⟩)), .is (.string (⟨#[114, 111, 111, 109]⟩ : ByteArray)), .is (.bool false), .is (.bool false), .is (.bool false)]
def mfbU : List (List Nat) := [[], [], [0, 1], [2], [3], [3], [3], [3], [3], [3], [3], [3], [3], [3, 12], [13], [14], [14], [14, 15, 16], [14, 17], [18], [18], [18, 19, 20], [18, 21], [18, 22], [14, 18, 23], [14, 24]]
-- END mfb
-- DEFS mfx
def mfxL (w4 wo wq : World) (kn ta tb : Nat) (l m : List ByteArray) (x : ByteArray) (bl ol n lc i gg cg N : Nat) : List Sp :=
  [.is (.pointer (some ⟨ta, 0, none⟩)), .is (.slice (some ⟨bl, ol, none⟩) n lc), .is (.int .i64 (i : Int)), .is (.pointer (some ⟨bl, ol + i, none⟩)), .is (.string x), .is (.slice (some ⟨gg, 0, none⟩) (N + 9) cg), .is (.int .i64 (N : Int)), .is (.slice (some ⟨gg, 0, none⟩) N cg), .both (.int .i64 0) (fun u => Two (fun y => (w4.heap.size ≤ y ∧ y < wo.heap.size) ∨ wq.heap.size ≤ y) u kn ta tb l m (i + 1) i) (fun _ _ h hb => h.past hb), .is (.bool false)]
def mfxU : List (List Nat) := [[], [], [], [1, 2], [3], [], [], [5, 6], [0, 4, 7], [8]]
-- END mfx
-- DEFS mfy
def mfyL (w4 : World) (kn ta tb : Nat) (l m : List ByteArray) (y : ByteArray) (bl ol nm mc i : Nat) : List Sp :=
  [.is (.int .i64 (i : Int)), .is (.slice (some ⟨bl, ol, none⟩) nm mc), .is (.int .i64 (nm : Int)), .is (.bool true), .is (.bool true), .is (.pointer (some ⟨tb, 0, none⟩)), .is (.slice (some ⟨bl, ol, none⟩) nm mc), .is (.int .i64 (i : Int)), .is (.pointer (some ⟨bl, ol + i, none⟩)), .is (.string y), .is (.int .i64 (i : Int)), .is (.int .u64 (i : Int)), .is (.int .i64 (kn : Int)), .sl ((Fl.digs i kn).map Value.string), .both (.int .i64 0) (fun u => Two (fun x => w4.heap.size ≤ x) u kn tb ta m l (i + 1) (i + 1)) (fun _ _ h hb => h.past hb), .is (.bool false), .is (.bool false)]
def mfyU : List (List Nat) := [[], [], [1], [0, 2], [3], [4], [4], [4], [4, 6, 7], [4, 8], [4], [4, 10], [4], [4, 11, 12], [4, 5, 9, 13], [4, 14], [4, 15]]
-- END mfy
-- DEFS mfn
def mfnL (tb kn nm mc i : Nat) (ma : Option Addr) : List Sp :=
  [.is (.int .i64 (i : Int)), .is (.slice ma nm mc), .is (.int .i64 (nm : Int)), .is (.bool false), .is (.bool false), .is (undef), .is (undef), .is (undef), .is (undef), .is (undef), .is (undef), .is (undef), .is (undef), .is (undef), .is (undef), .is (undef), .is (.bool false)]
def mfnU : List (List Nat) := [[], [], [1], [0, 2], [3], [4], [4], [4], [4], [4], [4], [4], [4], [4], [4], [4], [4, 15]]
-- END mfn
set_option maxHeartbeats 3200000 in
set_option maxRecDepth 100000 in
theorem filesMemory_any (k : Int) (v : Value) (items : List ByteArray) (v2 : Value) (other : List ByteArray) (w : World) (hk : (Lit.int .i64 k).wf = true) (hv : SlV w v (items.map Value.string)) (hl : items.length ≤ 140737488351232) (hs : ∀ s ∈ items, s.size ≤ 140737488351232) (hv2 : SlV w v2 (other.map Value.string)) (hl2 : other.length ≤ 140737488351232) (hs2 : ∀ s ∈ other, s.size ≤ 140737488351232) :
    Calls Tryz.prog 6 #[.int .i64 k, v, v2] w fun e w' => e = .returned (.bool true) ∧ Below w.heap.size w w' := by
  have HV := hide hv
  have HS := hide hs
  have HV2 := hide hv2
  have HS2 := hide hs2
  clear hv hs hv2 hs2
  go_enter Tryz.func6, Tryz.ntmps6
  go_wp2_with fail
  refine (alive_any _).mono ?_
  rintro e w1 ⟨rfl, hb1⟩
  have HB1 := hide (hb1)
  clear hb1
  go_wp2_with fail
  refine (strength_any k _ hk).mono ?_
  rintro e w2 ⟨rfl, he⟩
  subst he
  obtain ⟨kn, hkn⟩ : ∃ n, n = Fl.strN k := ⟨_, rfl⟩
  have hk1 : 1 ≤ kn := by rw [hkn]; exact (Fl.strN_le k).1
  have hk2 : kn ≤ 32 := by rw [hkn]; exact (Fl.strN_le k).2
  rw [← hkn]
  clear hkn
  go_wp2_with fail
  refine (list_any v items _ (HV.out.below HB1.out) hl HS.out).mono ?_
  rintro e w3 ⟨lv, rfl, hrow, hb3⟩
  obtain ⟨l, hle⟩ : ∃ l, l = Fl.listL items := ⟨_, rfl⟩
  rw [← hle] at hrow
  have hln : l.length ≤ 12 := by rw [hle]; exact Fl.listL_len items
  have HLS := hide (show ∀ x ∈ l, x.size ≤ 500 from fun x hx => Fl.listL_size (hle ▸ hx))
  have hsl := slv_of_owns hrow
  obtain ⟨n, la, lc, hn, rfl, hlc, _⟩ := hsl.form
  rw [List.length_map] at hn
  have HN := hide hn
  have HL := hide (And.intro hsl (HB1.out.trans (hb3.mono HB1.out.size)))
  have hn12 : n ≤ 12 := by omega
  clear hle hrow hsl hb3 hn hln
  go_wp2_with fail
  refine (list_any v2 other _ (HV2.out.below HL.out.2) hl2 HS2.out).mono ?_
  rintro e w4 ⟨lv2, rfl, hrow2, hb4⟩
  obtain ⟨m, hme⟩ : ∃ m, m = Fl.listL other := ⟨_, rfl⟩
  rw [← hme] at hrow2
  have hmn : m.length ≤ 12 := by rw [hme]; exact Fl.listL_len other
  have HMS := hide (show ∀ x ∈ m, x.size ≤ 500 from fun x hx => Fl.listL_size (hme ▸ hx))
  have hsl2 := slv_of_owns hrow2
  obtain ⟨nm, ma, mc, hnm, rfl, hmc, _⟩ := hsl2.form
  rw [List.length_map] at hnm
  have HNM := hide hnm
  have HM := hide hsl2
  have HL4 := hide (And.intro (HL.out.1.below hb4) (HL.out.2.trans (hb4.mono HL.out.2.size)))
  have hm12 : nm ≤ 12 := by omega
  clear hme hrow2 hsl2 hb4 hnm hmn
  go_wp2_with fail
  refine (diskNew_any 1048576 _ (by decide)).mono ?_
  rintro e w5 ⟨D0, rfl, hD0, hg0, hm0, hk0, hb5⟩
  have HD0 := hide (show DiskAt w5 D0 Fl.dM ∧ w4.heap.size ≤ D0.g ∧ w4.heap.size ≤ D0.mb ∧ D0.kv = .slice none 0 0 ∧ Below w4.heap.size w4 w5 from ⟨hD0, hg0, hm0, hk0, hb5⟩)
  clear hD0 hg0 hm0 hk0 hb5
  go_wp2_with fail
  refine (diskNew_any 1048576 _ (by decide)).mono ?_
  rintro e w6 ⟨D1, rfl, hD1, hg1, hm1, hk1', hb6⟩
  have HD1 := hide (show DiskAt w6 D1 Fl.dM ∧ w5.heap.size ≤ D1.g ∧ w5.heap.size ≤ D1.mb ∧ D1.kv = .slice none 0 0 ∧ Below w5.heap.size w5 w6 from ⟨hD1, hg1, hm1, hk1', hb6⟩)
  clear hD1 hg1 hm1 hk1' hb6
  go_wp2_with fail
  refine (one_open (HD0.out.1.past HD1.out.2.2.2.2) HD0.out.2.2.2.1 kn hk1 hk2 l).mono ?_
  rintro e w7 ⟨ta, Ta, Da, rfl, HSA, HMA⟩
  have HD7 := hide (show DiskAt w7 D1 Fl.dM from HD1.out.1.stay HMA.out (by
    have h1 := HD0.out.1.glt
    have h2 := HD0.out.1.map.lt
    have h3 := HD1.out.2.1
    have h4 := HD1.out.2.2.1
    refine ⟨?_, ?_, fun b hb => by rw [HD1.out.2.2.2.1] at hb; cases hb⟩
    · rintro (e | e) <;> omega
    · rintro (e | e) <;> omega))
  go_wp2_with fail
  refine (one_open HD7.out HD1.out.2.2.2.1 kn hk1 hk2 m).mono ?_
  rintro e w8 ⟨tb, Tb, Db, rfl, HSB, HMB⟩
  have HT := hide (show Two (fun x => w4.heap.size ≤ x) w8 kn ta tb l m 0 0 ∧ Below w4.heap.size w4 w8 from by
    have h1 := HD0.out.1.glt
    have h2 := HD0.out.1.map.lt
    have h3 := HD1.out.2.1
    have h4 := HD1.out.2.2.1
    have h5 := HD0.out.2.1
    have h6 := HD0.out.2.2.1
    have h7 := HD1.out.1.glt
    have h8 := HD1.out.1.map.lt
    have h9 := HD0.out.2.2.2.2.size
    have h10 := HD1.out.2.2.2.2.size
    have h11 := HMA.out.size
    have hA : ∀ x, addS Ta Da x → (x < w5.heap.size ∧ w4.heap.size ≤ x) ∨ (w6.heap.size ≤ x ∧ x < w7.heap.size) := by
      intro x hx
      have hlt := HSA.out.1.lt hx
      rcases HSA.out.2 x hx with (e | e) | e
      · left; omega
      · left; omega
      · right; exact ⟨e, hlt⟩
    have hB : ∀ x, addS Tb Db x → (w5.heap.size ≤ x ∧ x < w6.heap.size) ∨ w7.heap.size ≤ x := by
      intro x hx
      rcases HSB.out.2 x hx with (e | e) | e
      · left; omega
      · left; omega
      · right; exact e
    refine ⟨⟨Ta, Da, Tb, Db, HSA.out.1.moved HMB.out ?_, HSB.out.1, ?_, ?_⟩, ?_⟩
    · intro x hx
      have := hA x hx
      rintro (e | e) <;> omega
    · intro x hx hy
      have := hA x hx
      have := hB x hy
      omega
    · rintro x (hx | hx)
      · have := hA x hx; omega
      · have := hB x hx; omega
    · refine (HD0.out.2.2.2.2.trans (HD1.out.2.2.2.2.mono h9)).trans (Below.trans (HMA.out.below (by omega) ?_) (HMB.out.below (by omega) ?_))
      · rintro x (e | e) <;> omega
      · rintro x (e | e) <;> omega)
  clear HD7 HSA HSB HMA HMB
  go_upto_block 0 with (fail)
  go_wp2_with fail
  go_loopg [15] 12 (fun g v15 wr => ∃ i : Nat, g = 12 - i ∧ i ≤ 12 ∧ v15 = .int .i64 (i : Int) ∧ Hid (Two (fun x => w4.heap.size ≤ x) wr kn ta tb l m i i ∧ Below w4.heap.size w4 wr))
  case atStart => exact ⟨0, rfl, Nat.zero_le _, rfl, HT.out⟩
  case round =>
    obtain ⟨i, rfl, hi12, rfl, HR⟩ := hrel
    by_cases hin : i < n ∨ i < nm
    · have hi11 : i < 12 := by omega
      have HIN := hide hin
      clear hin
      go_upto_region 13 with (fail)
      go_cut [66] from 57 to 66 (fun v66 wx => v66 = .bool true ∧ wx = wr)
      case first =>
        by_cases hlt : i < n
        · have hgn : decide (i < n) = true := decide_eq_true hlt
          go_wp2_with fail
          go_meet
          case rel => exact ⟨rfl, rfl⟩
        · have hgn : decide (i < n) = false := decide_eq_false hlt
          have hgm : decide (i < nm) = true := decide_eq_true (HIN.out.resolve_left hlt)
          go_wp2_with fail
          go_meet
          case rel => exact ⟨rfl, rfl⟩
      obtain ⟨h66, hwx⟩ := hcut
      subst h66; subst hwx
      obtain ⟨wr, rfl⟩ : ∃ u, u = wc := ⟨_, rfl⟩
      go_upto_if 72 with (fail)
      go_cut [16, 17, 18, 19, 20] from 67 to 134 (fun v16 v17 v18 v19 v20 wx => Hid (Two (fun x => w4.heap.size ≤ x) wx kn ta tb l m (i + 1) i ∧ Below w4.heap.size w4 wx))
      case first =>
        by_cases hlt : i < n
        · have hgn : decide (i < n) = true := decide_eq_true hlt
          obtain ⟨x, hxx⟩ : ∃ x, l[i]? = some x := ⟨_, List.getElem?_eq_getElem (by have := HN.out; omega)⟩
          obtain ⟨nl, al, cl, hnl, hle, _, hform⟩ := HL4.out.1.form
          cases hle
          obtain ⟨bl, ol, rfl, hbl, hcl⟩ := hform i hlt
          have HCL := hide (show ∀ u, Below w4.heap.size w4 u → u.cell? ⟨bl, ol + i, none⟩ = some (.string x) from by
            intro u hu
            rw [hu.cell (p := ⟨bl, ol + i, none⟩) hbl, hcl, List.getD_eq_getElem?_getD, List.getElem?_map, hxx]; rfl)
          have HXX := hide hxx
          clear hform hcl hxx hnl
          go_wp2_with fail
          refine (digests_any i kn _ (by omega) hk2).mono ?_
          rintro e w1 ⟨dv, rfl, hrow, hb1⟩
          obtain ⟨dg, hdg⟩ : ∃ d, d = Fl.digs i kn := ⟨_, rfl⟩
          rw [← hdg] at hrow
          obtain ⟨N, hN⟩ : ∃ N, N = dg.length := ⟨_, rfl⟩
          have hN1 : 1 ≤ N ∧ N ≤ 65 := by
            have h1 := Fl.digs_len i kn
            have h2 := Fl.trailF_le 64 i
            rw [hN, hdg, h1]; unfold Fl.trail; omega
          rw [← hN] at hrow
          obtain ⟨gd, cd, rfl, _, _, _, _⟩ := arr_of_owns hrow (by omega)
          have HROW := hide (And.intro hrow hb1)
          have HDG := hide hdg
          have HNE := hide hN
          clear hrow hb1 hdg hN
          go_wp2_with fail
          obtain ⟨wo, rfl⟩ : ∃ u, u = wr := ⟨_, rfl⟩
          go_loopg [16, 18] 9 (fun g v16 v18 wq => ∃ q : Nat, g = 9 - q ∧ q ≤ 9 ∧ v18 = .int .i64 (q : Int) ∧ Hid (wq.ownsRow wo.heap.size 9 1 v16 (N + q) ((dg ++ List.replicate q (⟨#[114, 111, 111, 109]⟩ : ByteArray)).map Value.string) ∧ Below wo.heap.size wo wq))
          case atStart => exact ⟨0, rfl, Nat.zero_le _, rfl, by simpa using HROW.out.1, HROW.out.2⟩
          case round =>
            obtain ⟨q, rfl, hq9, rfl, HQ⟩ := hrel
            obtain ⟨wq, rfl⟩ : ∃ u, u = wr := ⟨_, rfl⟩
            by_cases hlq : q < 9
            · have h92 : decide ((q : Int) < 9) = true := decide_eq_true (by omega)
              go_wp2_with (at_builtin; refine wpList_append_slv rfl _ _ 22 rfl wo.heap.size 9 _ 16 Tryz.underlying22 info_strF rfl u16 (N + q) _ rfl (own_below HQ.out.1 ((Below.refl _ _).alloc (Nat.le_refl _) _)) _ [.string (⟨#[114, 111, 111, 109]⟩ : ByteArray)] rfl (slv_new wq [.string (⟨#[114, 111, 111, 109]⟩ : ByteArray)] 9 1 rfl) (by simp [Value.oneCell']) (by unfold maxLen; simp; omega) (by simp; omega) (by have := HQ.out.2.size; simp; omega) ?_)
              intro v' w' hown hgr
              have hal : Below wq.heap.size wq (wq.alloc (.cells #[.string (⟨#[114, 111, 111, 109]⟩ : ByteArray)] 9)) := (Below.refl _ _).alloc (Nat.le_refl _) _
              have HO := hide (show w'.ownsRow wo.heap.size 9 1 v' (N + (q + 1)) ((dg ++ List.replicate (q + 1) (⟨#[114, 111, 111, 109]⟩ : ByteArray)).map Value.string) ∧ Below wo.heap.size wo w' from by
                refine ⟨?_, ?_⟩
                · rw [List.replicate_succ', ← List.append_assoc, List.map_append, ← Nat.add_assoc]; simpa using hown
                · exact below_grown (HQ.out.2.trans (hal.mono HQ.out.2.size)) (own_below HQ.out.1 hal) hgr (Nat.le_refl _) (by have := HQ.out.2.size; simp; omega))
              clear hown hgr hal
              go_wp2_with fail
              go_roundg (9 - (q + 1))
              case measure => omega
              case rel => exact ⟨q + 1, rfl, by omega, by go_num, HO.out⟩
            · have hq : q = 9 := by omega
              subst hq
              obtain ⟨gg, cg, rfl, hgg, hcg, _, har⟩ := arr_of_owns HQ.out.1 (by omega)
              have HAR := hide har
              have HGG := hide hgg
              have hsl : SlV wq (.slice (some ⟨gg, 0, none⟩) N cg) ((Fl.digs i kn).map Value.string) := by
                have h := har.slv_sub (off := 0) (n := N) (cap := cg) (by simp; have := HNE.out; omega) (by omega)
                rw [List.drop_zero, List.map_append, List.take_left' (by rw [List.length_map]; exact HNE.out.symm), HDG.out] at h
                exact h
              have HSL := hide hsl
              have HBQ := hide (show Below w4.heap.size w4 wq from HR.out.2.trans (HQ.out.2.mono HR.out.2.size))
              have hcell : wq.cell? ⟨bl, ol + i, none⟩ = some (.string x) := HCL.out wq HBQ.out
              have HT1 := hide (show Two (fun y => w4.heap.size ≤ y ∧ y < wo.heap.size) wq kn ta tb l m i i from (HR.out.1.mono fun y h1 h2 => ⟨h1, h2⟩).past HQ.out.2)
              have hncap : N ≤ cg := by omega
              clear har hgg hsl
              have HCX := hide (show ∀ u, Moved (fun y => w4.heap.size ≤ y ∧ y < wo.heap.size) wq u → u.cell? ⟨bl, ol + i, none⟩ = some (.string x) from fun u hu => HCL.out u (HBQ.out.trans (hu.below HBQ.out.size fun y h => h.1)))
              have HSI := hide (show N ≤ N + 9 ∧ N ≤ cg from ⟨by omega, hncap⟩)
              clear hcell
              go_upto_region 22 with (fail)
-- REGION mfx
              
              refine wp_region_local (by kernel_rfl) (by kernel_rfl) (useList mfxU) [8, 9] (by kernel_rfl) (spR (mfxL w4 wo wq kn ta tb l m x bl ol n lc i gg cg N)) (onePre 8 (fun u => Two (fun y => w4.heap.size ≤ y ∧ y < wo.heap.size) u kn ta tb l m i i ∧ SlV u (.slice (some ⟨gg, 0, none⟩) N cg) ((Fl.digs i kn).map Value.string))) (Moved (fun y => w4.heap.size ≤ y ∧ y < wo.heap.size) wq) (oneE 8 (fun _ _ => True)) (one_stays (by simp [mfxL]) (by kernel_rfl)) (one_pre (fun _ _ h hb => ⟨h.1.past hb, h.2.below hb⟩)) (one_refl (fun _ => trivial)) (dsts_lt (N := 168) (by kernel_rfl)) ((Moved.refl _ _).drew) (fun _ _ => one_start (⟨HT1.out.past ((Below.refl _ _).drew), HSL.out.below ((Below.refl _ _).drew)⟩)) (all_ops ?_) ?_
              · refine And.intro ?_ ?_
                · -- 0: slot 86 := Op.move (Operand.tmp 11)
                  refine lstep_run fun fr wf left => ?_
                  have o11 := (left.old 11 (by kernel_rfl)).trans rfl
                  refine ⟨wanted_none rfl, fun K hK => ?_⟩
                  have hB := hide left.base
                  clear left
                  go_simp
                  exact hK _ _ rfl hB.out (one_refl (fun _ => trivial) _ _)
                refine And.intro ?_ ?_
                · -- 1: slot 87 := Op.move (Operand.tmp 7)
                  refine lstep_run fun fr wf left => ?_
                  have o7 := (left.old 7 (by kernel_rfl)).trans rfl
                  refine ⟨wanted_none rfl, fun K hK => ?_⟩
                  have hB := hide left.base
                  clear left
                  go_simp
                  exact hK _ _ rfl hB.out (one_refl (fun _ => trivial) _ _)
                refine And.intro ?_ ?_
                · -- 2: slot 88 := Op.move (Operand.tmp 15)
                  refine lstep_run fun fr wf left => ?_
                  have o15 := (left.old 15 (by kernel_rfl)).trans rfl
                  refine ⟨wanted_none rfl, fun K hK => ?_⟩
                  have hB := hide left.base
                  clear left
                  go_simp
                  exact hK _ _ rfl hB.out (one_refl (fun _ => trivial) _ _)
                refine And.intro ?_ ?_
                · -- 3: slot 89 := Op.indexAddr 22 (Operand.tmp 87) (Operand.tmp 88)
                  refine lstep_run fun fr wf left => ?_
                  obtain ⟨x1, e1, r1⟩ := left.slot 168 rfl 1 87 _ rfl rfl (by decide) rfl
                  have s1 := Eq.symm (show x1 = .slice (some ⟨bl, ol, none⟩) n lc from r1)
                  subst s1
                  obtain ⟨x2, e2, r2⟩ := left.slot 168 rfl 2 88 _ rfl rfl (by decide) rfl
                  have s2 := Eq.symm (show x2 = .int .i64 (i : Int) from r2)
                  subst s2
                  refine ⟨wanted_none rfl, fun K hK => ?_⟩
                  have hB := hide left.base
                  clear left
                  go_simp
                  exact hK _ _ rfl hB.out (one_refl (fun _ => trivial) _ _)
                refine And.intro ?_ ?_
                · -- 4: slot 90 := Op.load 9 (Operand.tmp 89)
                  refine lstep_run fun fr wf left => ?_
                  obtain ⟨x3, e3, r3⟩ := left.slot 168 rfl 3 89 _ rfl rfl (by decide) rfl
                  have s3 := Eq.symm (show x3 = .pointer (some ⟨bl, ol + i, none⟩) from r3)
                  subst s3
                  refine ⟨wanted_none rfl, fun K hK => ?_⟩
                  have hB := hide left.base
                  have hc := HCX.out _ hB.out
                  clear left
                  go_simp
                  exact hK _ _ rfl hB.out (one_refl (fun _ => trivial) _ _)
                refine And.intro ?_ ?_
                · -- 5: slot 91 := Op.move (Operand.tmp 16)
                  refine lstep_run fun fr wf left => ?_
                  have o16 := (left.old 16 (by kernel_rfl)).trans rfl
                  refine ⟨wanted_none rfl, fun K hK => ?_⟩
                  have hB := hide left.base
                  clear left
                  go_simp
                  exact hK _ _ rfl hB.out (one_refl (fun _ => trivial) _ _)
                refine And.intro ?_ ?_
                · -- 6: slot 92 := Op.move (Operand.tmp 17)
                  refine lstep_run fun fr wf left => ?_
                  have o17 := (left.old 17 (by kernel_rfl)).trans rfl
                  refine ⟨wanted_none rfl, fun K hK => ?_⟩
                  have hB := hide left.base
                  clear left
                  go_simp
                  exact hK _ _ rfl hB.out (one_refl (fun _ => trivial) _ _)
                refine And.intro ?_ ?_
                · -- 7: slot 93 := Op.slice 22 (Operand.tmp 91) none (some (Operand.tmp 92)) none
                  refine lstep_run fun fr wf left => ?_
                  obtain ⟨x5, e5, r5⟩ := left.slot 168 rfl 5 91 _ rfl rfl (by decide) rfl
                  have s5 := Eq.symm (show x5 = .slice (some ⟨gg, 0, none⟩) (N + 9) cg from r5)
                  subst s5
                  obtain ⟨x6, e6, r6⟩ := left.slot 168 rfl 6 92 _ rfl rfl (by decide) rfl
                  have s6 := Eq.symm (show x6 = .int .i64 (N : Int) from r6)
                  subst s6
                  refine ⟨wanted_none rfl, fun K hK => ?_⟩
                  have hB := hide left.base
                  clear left
                  go_simp
                  exact hK _ _ rfl hB.out (one_refl (fun _ => trivial) _ _)
                refine And.intro ?_ ?_
                · -- 8: slot 94 := Op.call { callee := Callee.value (Operand.func 26), args := #[Operand.tmp 86, Operand.tmp 
                  refine lstep_run fun fr wf left => ?_
                  obtain ⟨x0, e0, r0⟩ := left.slot 168 rfl 0 86 _ rfl rfl (by decide) rfl
                  have s0 := Eq.symm (show x0 = .pointer (some ⟨ta, 0, none⟩) from r0)
                  subst s0
                  obtain ⟨x4, e4, r4⟩ := left.slot 168 rfl 4 90 _ rfl rfl (by decide) rfl
                  have s4 := Eq.symm (show x4 = .string x from r4)
                  subst s4
                  obtain ⟨x7, e7, r7⟩ := left.slot 168 rfl 7 93 _ rfl rfl (by decide) rfl
                  have s7 := Eq.symm (show x7 = .slice (some ⟨gg, 0, none⟩) N cg from r7)
                  subst s7
                  refine ⟨wanted_none rfl, fun K hK => ?_⟩
                  have hB := hide left.base; have hP := hide (one_pre_at left.pre rfl)
                  clear left
                  go_simp
                  refine (two_add hP.out.1 hk1 hk2 (by have := HN.out; omega) HLS.out HXX.out _ hP.out.2).mono ?_
                  rintro e w' ⟨rfl, HT2, HM2⟩
                  have hsz := hB.out.size
                  exact hK _ _ ⟨rfl, HT2.out.mono (fun z hz _ => hz.imp id (fun e => Nat.le_trans hsz e))⟩ (hB.out.then HM2.out) (one_at rfl)
                refine And.intro ?_ ?_
                · -- 9: slot 95 := Op.binOp BinOp.neq 3 (Operand.tmp 94) (Operand.const (Value.int IntKind.i64 0)) 3
                  refine lstep_run fun fr wf left => ?_
                  obtain ⟨x8, e8, r8⟩ := left.slot 168 rfl 8 94 _ rfl rfl (by decide) rfl
                  obtain ⟨s8, q8⟩ := (show x8 = .int .i64 0 ∧ (fun u => Two (fun y => (w4.heap.size ≤ y ∧ y < wo.heap.size) ∨ wq.heap.size ≤ y) u kn ta tb l m (i + 1) i) wf from r8)
                  subst s8
                  refine ⟨wanted_none rfl, fun K hK => ?_⟩
                  have hB := hide left.base
                  clear left
                  go_simp
                  exact hK _ _ rfl hB.out (one_refl (fun _ => trivial) _ _)
                exact trivial
              · intro fr wf hB hs hd hall hkeep
                have hw : fr.tmps.getD 94 undef = .int .i64 0 ∧ Two (fun y => (w4.heap.size ≤ y ∧ y < wo.heap.size) ∨ wq.heap.size ≤ y) wf kn ta tb l m (i + 1) i := hall 8 _ rfl (by simp)
                have hz : fr.tmps.getD 95 undef = .bool false := hall 9 _ rfl (by simp)
                have hfr := act_ext (frame_setL hs hkeep [86, 87, 88, 89, 90, 91, 92, 93, 94, 95] (by kernel_rfl)) hd
                clear hall hkeep hs hd
                dsimp only [List.foldl, List.set_cons_zero, List.set_cons_succ] at hfr
                generalize fr.tmps.getD 86 undef = q86 at hfr
                generalize fr.tmps.getD 87 undef = q87 at hfr
                generalize fr.tmps.getD 88 undef = q88 at hfr
                generalize fr.tmps.getD 89 undef = q89 at hfr
                generalize fr.tmps.getD 90 undef = q90 at hfr
                generalize fr.tmps.getD 91 undef = q91 at hfr
                generalize fr.tmps.getD 92 undef = q92 at hfr
                generalize fr.tmps.getD 93 undef = q93 at hfr
                generalize fr.tmps.getD 94 undef = q94 at hfr hw
                generalize fr.tmps.getD 95 undef = q95 at hfr hz
                subst hfr
                have hq := hw.1
                subst hq
                subst hz
                have HT2 := hide hw.2
                have HM2 := hide hB
                have HAR5 := hide (show Arr wf gg 9 ((dg ++ List.replicate 9 (⟨#[114, 111, 111, 109]⟩ : ByteArray)).map Value.string) from Fl.arr_keep HAR.out HM2.out (by have := HGG.out; intro h; omega))
                clear hw hB
                go_wp2_with fail
                refine (digests_any i kn _ (by omega) hk2).mono ?_
                rintro e w6' ⟨dv2, rfl, hrow2, hb6⟩
                rw [← HDG.out, ← HNE.out] at hrow2
                obtain ⟨g2, c2, rfl, hg2, hc2, _, har2⟩ := arr_of_owns hrow2 (by omega)
                have HG2 := hide (show gg < g2 ∧ gg < wq.heap.size from by
                  have h1 := HAR.out.lt
                  have h2 := HM2.out.size
                  exact ⟨by omega, h1⟩)
                have HZ0 := hide (show Arr w6' gg 9 ((dg ++ List.replicate 9 (⟨#[114, 111, 111, 109]⟩ : ByteArray)).map Value.string) ∧ Arr w6' g2 9 (dg.map Value.string) ∧ Two (fun y => (w4.heap.size ≤ y ∧ y < wo.heap.size) ∨ wq.heap.size ≤ y) w6' kn ta tb l m (i + 1) i ∧ Below w4.heap.size w4 w6' from by
                  have h1 := HBQ.out.size
                  have h2 := HM2.out.size
                  exact ⟨HAR5.out.past hb6, har2, HT2.out.past hb6, (HBQ.out.trans (HM2.out.below h1 fun y h => h.1)).trans (hb6.mono (by omega))⟩)
                clear hrow2 hb6 hg2 har2
                obtain ⟨WL, hWL⟩ : ∃ W, W = dg ++ List.replicate 9 (⟨#[114, 111, 111, 109]⟩ : ByteArray) := ⟨_, rfl⟩
                rw [← hWL] at HZ0
                have hWn : WL.length = N + 9 := by rw [hWL, List.length_append, List.length_replicate, HNE.out]
                have HWL := hide hWL
                clear hWL
                go_wp2_with fail
                go_loopg [20] (N + 9) (fun g v20 wz => ∃ z : Nat, g = N + 9 - z ∧ z ≤ N + 9 ∧ v20 = .int .i64 (z : Int) ∧ Hid (Arr wz gg 9 ((Fl.overL WL z).map Value.string) ∧ Arr wz g2 9 (dg.map Value.string) ∧ Two (fun y => (w4.heap.size ≤ y ∧ y < wo.heap.size) ∨ wq.heap.size ≤ y) wz kn ta tb l m (i + 1) i ∧ Below w4.heap.size w4 wz))
                case atStart => exact ⟨0, rfl, Nat.zero_le _, rfl, HZ0.out⟩
                case round =>
                  obtain ⟨z, rfl, hz9, rfl, HZ⟩ := hrel
                  obtain ⟨wz, rfl⟩ : ∃ u, u = wr := ⟨_, rfl⟩
                  by_cases hzl : z < N + 9
                  · obtain ⟨d, hd⟩ : ∃ d, WL[z]? = some d := ⟨_, List.getElem?_eq_getElem (by omega)⟩
                    have hlen : z < ((Fl.overL WL z).map Value.string).length := by rw [List.length_map, Fl.overL_len (by omega)]; omega
                    have hcg : wz.cell? ⟨gg, z, none⟩ = some (.string d) := by
                      have h := HZ.out.1.cell z hlen
                      rw [List.getD_eq_getElem?_getD, List.getElem?_map, Fl.overL_at hd] at h
                      exact h
                    have HCG := hide (show ∀ u, Below wz.heap.size wz u → u.cell? ⟨gg, z, none⟩ = some (.string d) from fun u hu => (hu.cell (p := ⟨gg, z, none⟩) HZ.out.1.lt).trans hcg)
                    clear hcg
                    have hzd : decide ((z : Int) < (N : Int) + 9) = true := decide_eq_true (by omega)
                    have hzi : (z : Int) < (N : Int) + 9 := by omega
                    go_upto_region 28 with (fail)
                    go_cut [131] from 106 to 131 (fun v131 wx => Hid (v131 = .bool false ∧ Below wz.heap.size wz wx))
                    case first =>
                      by_cases hzn : z < N
                      · have hzt : decide (z < N) = true := decide_eq_true hzn
                        have hge : decide (N ≤ z) = false := decide_eq_false (by omega)
                        have hdz : dg[z]? = some d := by
                          rw [HWL.out, List.getElem?_append_left (by have := HNE.out; omega)] at hd
                          exact hd
                        have hc2 : wz.cell? ⟨g2, z, none⟩ = some (.string d) := by
                          have h := HZ.out.2.1.cell z (by rw [List.length_map]; have := HNE.out; omega)
                          rw [List.getD_eq_getElem?_getD, List.getElem?_map, hdz] at h
                          exact h
                        have HC2 := hide (show ∀ u, Below wz.heap.size wz u → u.cell? ⟨g2, z, none⟩ = some (.string d) from fun u hu => (hu.cell (p := ⟨g2, z, none⟩) HZ.out.2.1.lt).trans hc2)
                        clear hdz hc2
                -- REGION mfa
                        
                        refine wp_region_local (by kernel_rfl) (by kernel_rfl) (useList mfaU) [25] (by kernel_rfl) (spR (mfaL z N gg cg g2 c2 d)) (fun _ _ => True) (Below wz.heap.size wz) (fun _ w w' => Below w.heap.size w w') spR_stays (fun _ _ _ _ _ h _ => h) (fun _ _ => Below.refl _ _) (dsts_lt (N := 168) (by kernel_rfl)) ((Below.refl _ _).drew) (fun _ _ => trivial) (all_ops ?_) ?_
                        · refine And.intro ?_ ?_
                          · -- 0: slot 106 := Op.move (Operand.tmp 20)
                            refine lstep_run fun fr wf left => ?_
                            have o20 := (left.old 20 (by kernel_rfl)).trans rfl
                            refine ⟨wanted_none rfl, fun K hK => ?_⟩
                            have hB := hide left.base
                            clear left
                            go_simp
                            exact hK _ _ rfl hB.out (Below.refl _ _)
                          refine And.intro ?_ ?_
                          · -- 1: slot 107 := Op.move (Operand.tmp 17)
                            refine lstep_run fun fr wf left => ?_
                            have o17 := (left.old 17 (by kernel_rfl)).trans rfl
                            refine ⟨wanted_none rfl, fun K hK => ?_⟩
                            have hB := hide left.base
                            clear left
                            go_simp
                            exact hK _ _ rfl hB.out (Below.refl _ _)
                          refine And.intro ?_ ?_
                          · -- 2: slot 108 := Op.binOp BinOp.lss 3 (Operand.tmp 106) (Operand.tmp 107) 3
                            refine lstep_run fun fr wf left => ?_
                            obtain ⟨x0, e0, r0⟩ := left.slot 168 rfl 0 106 _ rfl rfl (by decide) rfl
                            have s0 := Eq.symm (show x0 = .int .i64 (z : Int) from r0)
                            subst s0
                            obtain ⟨x1, e1, r1⟩ := left.slot 168 rfl 1 107 _ rfl rfl (by decide) rfl
                            have s1 := Eq.symm (show x1 = .int .i64 (N : Int) from r1)
                            subst s1
                            refine ⟨wanted_none rfl, fun K hK => ?_⟩
                            have hB := hide left.base
                            clear left
                            go_simp
                            exact hK _ _ rfl hB.out (Below.refl _ _)
                          refine And.intro ?_ ?_
                          · -- 3: slot 109 := Op.move (Operand.tmp 108)
                            refine lstep_run fun fr wf left => ?_
                            obtain ⟨x2, e2, r2⟩ := left.slot 168 rfl 2 108 _ rfl rfl (by decide) rfl
                            have s2 := Eq.symm (show x2 = .bool true from r2)
                            subst s2
                            refine ⟨wanted_none rfl, fun K hK => ?_⟩
                            have hB := hide left.base
                            clear left
                            go_simp
                            exact hK _ _ rfl hB.out (Below.refl _ _)
                          refine And.intro ?_ ?_
                          · -- 4: slot 110 := Op.move (Operand.tmp 16)
                            refine lstep_run fun fr wf left => ?_
                            obtain ⟨x3, e3, r3⟩ := left.slot 168 rfl 3 109 _ rfl rfl (by decide) rfl
                            have s3 := Eq.symm (show x3 = .bool true from r3)
                            subst s3
                            have o16 := (left.old 16 (by kernel_rfl)).trans rfl
                            refine ⟨wanted_yes rfl rfl e3, fun K hK => ?_⟩
                            have hB := hide left.base
                            clear left
                            go_simp
                            exact hK _ _ rfl hB.out (Below.refl _ _)
                          refine And.intro ?_ ?_
                          · -- 5: slot 111 := Op.move (Operand.tmp 20)
                            refine lstep_run fun fr wf left => ?_
                            obtain ⟨x3, e3, r3⟩ := left.slot 168 rfl 3 109 _ rfl rfl (by decide) rfl
                            have s3 := Eq.symm (show x3 = .bool true from r3)
                            subst s3
                            have o20 := (left.old 20 (by kernel_rfl)).trans rfl
                            refine ⟨wanted_yes rfl rfl e3, fun K hK => ?_⟩
                            have hB := hide left.base
                            clear left
                            go_simp
                            exact hK _ _ rfl hB.out (Below.refl _ _)
                          refine And.intro ?_ ?_
                          · -- 6: slot 112 := Op.indexAddr 22 (Operand.tmp 110) (Operand.tmp 111)
                            refine lstep_run fun fr wf left => ?_
                            obtain ⟨x3, e3, r3⟩ := left.slot 168 rfl 3 109 _ rfl rfl (by decide) rfl
                            have s3 := Eq.symm (show x3 = .bool true from r3)
                            subst s3
                            obtain ⟨x4, e4, r4⟩ := left.slot 168 rfl 4 110 _ rfl rfl (by decide) rfl
                            have s4 := Eq.symm (show x4 = .slice (some ⟨gg, 0, none⟩) (N + 9) cg from r4)
                            subst s4
                            obtain ⟨x5, e5, r5⟩ := left.slot 168 rfl 5 111 _ rfl rfl (by decide) rfl
                            have s5 := Eq.symm (show x5 = .int .i64 (z : Int) from r5)
                            subst s5
                            refine ⟨wanted_yes rfl rfl e3, fun K hK => ?_⟩
                            have hB := hide left.base
                            clear left
                            go_simp
                            exact hK _ _ rfl hB.out (Below.refl _ _)
                          refine And.intro ?_ ?_
                          · -- 7: slot 113 := Op.load 9 (Operand.tmp 112)
                            refine lstep_run fun fr wf left => ?_
                            obtain ⟨x3, e3, r3⟩ := left.slot 168 rfl 3 109 _ rfl rfl (by decide) rfl
                            have s3 := Eq.symm (show x3 = .bool true from r3)
                            subst s3
                            obtain ⟨x6, e6, r6⟩ := left.slot 168 rfl 6 112 _ rfl rfl (by decide) rfl
                            have s6 := Eq.symm (show x6 = .pointer (some ⟨gg, z, none⟩) from r6)
                            subst s6
                            refine ⟨wanted_yes rfl rfl e3, fun K hK => ?_⟩
                            have hB := hide left.base
                            have hc := HCG.out _ hB.out
                            clear left
                            go_simp
                            exact hK _ _ rfl hB.out (Below.refl _ _)
                          refine And.intro ?_ ?_
                          · -- 8: slot 114 := Op.move (Operand.tmp 19)
                            refine lstep_run fun fr wf left => ?_
                            obtain ⟨x3, e3, r3⟩ := left.slot 168 rfl 3 109 _ rfl rfl (by decide) rfl
                            have s3 := Eq.symm (show x3 = .bool true from r3)
                            subst s3
                            have o19 := (left.old 19 (by kernel_rfl)).trans rfl
                            refine ⟨wanted_yes rfl rfl e3, fun K hK => ?_⟩
                            have hB := hide left.base
                            clear left
                            go_simp
                            exact hK _ _ rfl hB.out (Below.refl _ _)
                          refine And.intro ?_ ?_
                          · -- 9: slot 115 := Op.move (Operand.tmp 20)
                            refine lstep_run fun fr wf left => ?_
                            obtain ⟨x3, e3, r3⟩ := left.slot 168 rfl 3 109 _ rfl rfl (by decide) rfl
                            have s3 := Eq.symm (show x3 = .bool true from r3)
                            subst s3
                            have o20 := (left.old 20 (by kernel_rfl)).trans rfl
                            refine ⟨wanted_yes rfl rfl e3, fun K hK => ?_⟩
                            have hB := hide left.base
                            clear left
                            go_simp
                            exact hK _ _ rfl hB.out (Below.refl _ _)
                          refine And.intro ?_ ?_
                          · -- 10: slot 116 := Op.indexAddr 22 (Operand.tmp 114) (Operand.tmp 115)
                            refine lstep_run fun fr wf left => ?_
                            obtain ⟨x3, e3, r3⟩ := left.slot 168 rfl 3 109 _ rfl rfl (by decide) rfl
                            have s3 := Eq.symm (show x3 = .bool true from r3)
                            subst s3
                            obtain ⟨x8, e8, r8⟩ := left.slot 168 rfl 8 114 _ rfl rfl (by decide) rfl
                            have s8 := Eq.symm (show x8 = .slice (some ⟨g2, 0, none⟩) N c2 from r8)
                            subst s8
                            obtain ⟨x9, e9, r9⟩ := left.slot 168 rfl 9 115 _ rfl rfl (by decide) rfl
                            have s9 := Eq.symm (show x9 = .int .i64 (z : Int) from r9)
                            subst s9
                            refine ⟨wanted_yes rfl rfl e3, fun K hK => ?_⟩
                            have hB := hide left.base
                            clear left
                            go_simp
                            exact hK _ _ rfl hB.out (Below.refl _ _)
                          refine And.intro ?_ ?_
                          · -- 11: slot 117 := Op.load 9 (Operand.tmp 116)
                            refine lstep_run fun fr wf left => ?_
                            obtain ⟨x3, e3, r3⟩ := left.slot 168 rfl 3 109 _ rfl rfl (by decide) rfl
                            have s3 := Eq.symm (show x3 = .bool true from r3)
                            subst s3
                            obtain ⟨x10, e10, r10⟩ := left.slot 168 rfl 10 116 _ rfl rfl (by decide) rfl
                            have s10 := Eq.symm (show x10 = .pointer (some ⟨g2, z, none⟩) from r10)
                            subst s10
                            refine ⟨wanted_yes rfl rfl e3, fun K hK => ?_⟩
                            have hB := hide left.base
                            have hc := HC2.out _ hB.out
                            clear left
                            go_simp
                            exact hK _ _ rfl hB.out (Below.refl _ _)
                          refine And.intro ?_ ?_
                          · -- 12: slot 118 := Op.binOp BinOp.neq 9 (Operand.tmp 113) (Operand.tmp 117) 9
                            refine lstep_run fun fr wf left => ?_
                            obtain ⟨x3, e3, r3⟩ := left.slot 168 rfl 3 109 _ rfl rfl (by decide) rfl
                            have s3 := Eq.symm (show x3 = .bool true from r3)
                            subst s3
                            obtain ⟨x7, e7, r7⟩ := left.slot 168 rfl 7 113 _ rfl rfl (by decide) rfl
                            have s7 := Eq.symm (show x7 = .string d from r7)
                            subst s7
                            obtain ⟨x11, e11, r11⟩ := left.slot 168 rfl 11 117 _ rfl rfl (by decide) rfl
                            have s11 := Eq.symm (show x11 = .string d from r11)
                            subst s11
                            refine ⟨wanted_yes rfl rfl e3, fun K hK => ?_⟩
                            have hB := hide left.base
                            clear left
                            go_simp
                            exact hK _ _ rfl hB.out (Below.refl _ _)
                          refine And.intro ?_ ?_
                          · -- 13: slot 119 := Op.pick (Operand.tmp 109) (Operand.tmp 118) (Operand.const (Value.bool false))
                            refine lstep_run fun fr wf left => ?_
                            obtain ⟨x3, e3, r3⟩ := left.slot 168 rfl 3 109 _ rfl rfl (by decide) rfl
                            have s3 := Eq.symm (show x3 = .bool true from r3)
                            subst s3
                            obtain ⟨x12, e12, r12⟩ := left.slot 168 rfl 12 118 _ rfl rfl (by decide) rfl
                            have s12 := Eq.symm (show x12 = .bool false from r12)
                            subst s12
                            refine ⟨wanted_none rfl, fun K hK => ?_⟩
                            have hB := hide left.base
                            clear left
                            go_simp
                            exact hK _ _ rfl hB.out (Below.refl _ _)
                          refine And.intro ?_ ?_
                          · -- 14: slot 120 := Op.move (Operand.tmp 119)
                            refine lstep_run fun fr wf left => ?_
                            obtain ⟨x13, e13, r13⟩ := left.slot 168 rfl 13 119 _ rfl rfl (by decide) rfl
                            have s13 := Eq.symm (show x13 = .bool false from r13)
                            subst s13
                            refine ⟨wanted_none rfl, fun K hK => ?_⟩
                            have hB := hide left.base
                            clear left
                            go_simp
                            exact hK _ _ rfl hB.out (Below.refl _ _)
                          refine And.intro ?_ ?_
                          · -- 15: slot 121 := Op.move (Operand.tmp 20)
                            refine lstep_run fun fr wf left => ?_
                            obtain ⟨x14, e14, r14⟩ := left.slot 168 rfl 14 120 _ rfl rfl (by decide) rfl
                            have s14 := Eq.symm (show x14 = .bool false from r14)
                            subst s14
                            have o20 := (left.old 20 (by kernel_rfl)).trans rfl
                            refine ⟨wanted_yes rfl rfl e14, fun K hK => ?_⟩
                            have hB := hide left.base
                            clear left
                            go_simp
                            exact hK _ _ rfl hB.out (Below.refl _ _)
                          refine And.intro ?_ ?_
                          · -- 16: slot 122 := Op.move (Operand.tmp 17)
                            refine lstep_run fun fr wf left => ?_
                            obtain ⟨x14, e14, r14⟩ := left.slot 168 rfl 14 120 _ rfl rfl (by decide) rfl
                            have s14 := Eq.symm (show x14 = .bool false from r14)
                            subst s14
                            have o17 := (left.old 17 (by kernel_rfl)).trans rfl
                            refine ⟨wanted_yes rfl rfl e14, fun K hK => ?_⟩
                            have hB := hide left.base
                            clear left
                            go_simp
                            exact hK _ _ rfl hB.out (Below.refl _ _)
                          refine And.intro ?_ ?_
                          · -- 17: slot 123 := Op.binOp BinOp.geq 3 (Operand.tmp 121) (Operand.tmp 122) 3
                            refine lstep_run fun fr wf left => ?_
                            obtain ⟨x14, e14, r14⟩ := left.slot 168 rfl 14 120 _ rfl rfl (by decide) rfl
                            have s14 := Eq.symm (show x14 = .bool false from r14)
                            subst s14
                            obtain ⟨x15, e15, r15⟩ := left.slot 168 rfl 15 121 _ rfl rfl (by decide) rfl
                            have s15 := Eq.symm (show x15 = .int .i64 (z : Int) from r15)
                            subst s15
                            obtain ⟨x16, e16, r16⟩ := left.slot 168 rfl 16 122 _ rfl rfl (by decide) rfl
                            have s16 := Eq.symm (show x16 = .int .i64 (N : Int) from r16)
                            subst s16
                            refine ⟨wanted_yes rfl rfl e14, fun K hK => ?_⟩
                            have hB := hide left.base
                            clear left
                            go_simp
                            exact hK _ _ rfl hB.out (Below.refl _ _)
                          refine And.intro ?_ ?_
                          · -- 18: slot 124 := Op.move (Operand.tmp 123)
                            refine lstep_run fun fr wf left => ?_
                            obtain ⟨x14, e14, r14⟩ := left.slot 168 rfl 14 120 _ rfl rfl (by decide) rfl
                            have s14 := Eq.symm (show x14 = .bool false from r14)
                            subst s14
                            obtain ⟨x17, e17, r17⟩ := left.slot 168 rfl 17 123 _ rfl rfl (by decide) rfl
                            have s17 := Eq.symm (show x17 = .bool false from r17)
                            subst s17
                            refine ⟨wanted_yes rfl rfl e14, fun K hK => ?_⟩
                            have hB := hide left.base
                            clear left
                            go_simp
                            exact hK _ _ rfl hB.out (Below.refl _ _)
                          refine And.intro ?_ ?_
                          · -- 19: slot 125 := Op.move (Operand.tmp 16)
                            refine lstep_skip fun fr wf left => ?_
                            obtain ⟨x18, e18, r18⟩ := left.slot 168 rfl 18 124 _ rfl rfl (by decide) rfl
                            have s18 := Eq.symm (show x18 = .bool false from r18)
                            subst s18
                            exact ⟨wanted_no rfl rfl e18 (by decide), rfl⟩
                          refine And.intro ?_ ?_
                          · -- 20: slot 126 := Op.move (Operand.tmp 20)
                            refine lstep_skip fun fr wf left => ?_
                            obtain ⟨x18, e18, r18⟩ := left.slot 168 rfl 18 124 _ rfl rfl (by decide) rfl
                            have s18 := Eq.symm (show x18 = .bool false from r18)
                            subst s18
                            exact ⟨wanted_no rfl rfl e18 (by decide), rfl⟩
                          refine And.intro ?_ ?_
                          · -- 21: slot 127 := Op.indexAddr 22 (Operand.tmp 125) (Operand.tmp 126)
                            refine lstep_skip fun fr wf left => ?_
                            obtain ⟨x18, e18, r18⟩ := left.slot 168 rfl 18 124 _ rfl rfl (by decide) rfl
                            have s18 := Eq.symm (show x18 = .bool false from r18)
                            subst s18
                            exact ⟨wanted_no rfl rfl e18 (by decide), rfl⟩
                          refine And.intro ?_ ?_
                          · -- 22: slot 128 := Op.load 9 (Operand.tmp 127)
                            refine lstep_skip fun fr wf left => ?_
                            obtain ⟨x18, e18, r18⟩ := left.slot 168 rfl 18 124 _ rfl rfl (by decide) rfl
                            have s18 := Eq.symm (show x18 = .bool false from r18)
                            subst s18
                            exact ⟨wanted_no rfl rfl e18 (by decide), rfl⟩
                          refine And.intro ?_ ?_
                          · -- 23: slot 129 := Op.binOp BinOp.neq 9 (Operand.tmp 128) (Operand.const (Value.string { data := #[114, 111, 
                            refine lstep_skip fun fr wf left => ?_
                            obtain ⟨x18, e18, r18⟩ := left.slot 168 rfl 18 124 _ rfl rfl (by decide) rfl
                            have s18 := Eq.symm (show x18 = .bool false from r18)
                            subst s18
                            exact ⟨wanted_no rfl rfl e18 (by decide), rfl⟩
                          refine And.intro ?_ ?_
                          · -- 24: slot 130 := Op.pick (Operand.tmp 124) (Operand.tmp 129) (Operand.const (Value.bool false))
                            refine lstep_run fun fr wf left => ?_
                            obtain ⟨x14, e14, r14⟩ := left.slot 168 rfl 14 120 _ rfl rfl (by decide) rfl
                            have s14 := Eq.symm (show x14 = .bool false from r14)
                            subst s14
                            obtain ⟨x18, e18, r18⟩ := left.slot 168 rfl 18 124 _ rfl rfl (by decide) rfl
                            have s18 := Eq.symm (show x18 = .bool false from r18)
                            subst s18
                            obtain ⟨x23, e23, r23⟩ := left.slot 168 rfl 23 129 _ rfl rfl (by decide) rfl
                            have s23 := Eq.symm (show x23 = undef from r23)
                            subst s23
                            refine ⟨wanted_yes rfl rfl e14, fun K hK => ?_⟩
                            have hB := hide left.base
                            clear left
                            go_simp
                            exact hK _ _ rfl hB.out (Below.refl _ _)
                          refine And.intro ?_ ?_
                          · -- 25: slot 131 := Op.pick (Operand.tmp 120) (Operand.const (Value.bool true)) (Operand.tmp 130)
                            refine lstep_run fun fr wf left => ?_
                            obtain ⟨x14, e14, r14⟩ := left.slot 168 rfl 14 120 _ rfl rfl (by decide) rfl
                            have s14 := Eq.symm (show x14 = .bool false from r14)
                            subst s14
                            obtain ⟨x24, e24, r24⟩ := left.slot 168 rfl 24 130 _ rfl rfl (by decide) rfl
                            have s24 := Eq.symm (show x24 = .bool false from r24)
                            subst s24
                            refine ⟨wanted_none rfl, fun K hK => ?_⟩
                            have hB := hide left.base
                            clear left
                            go_simp
                            exact hK _ _ rfl hB.out (Below.refl _ _)
                          exact trivial
                        · intro fr wf hB hs hd hall hkeep
                          have hq : fr.tmps.getD 131 undef = .bool false := hall 25 _ rfl (by simp)
                          have hfr := act_ext (frame_setL hs hkeep [106, 107, 108, 109, 110, 111, 112, 113, 114, 115, 116, 117, 118, 119, 120, 121, 122, 123, 124, 125, 126, 127, 128, 129, 130, 131] (by kernel_rfl)) hd
                          clear hall hkeep hs hd
                          dsimp only [List.foldl, List.set_cons_zero, List.set_cons_succ] at hfr
                          generalize fr.tmps.getD 106 undef = q106 at hfr
                          generalize fr.tmps.getD 107 undef = q107 at hfr
                          generalize fr.tmps.getD 108 undef = q108 at hfr
                          generalize fr.tmps.getD 109 undef = q109 at hfr
                          generalize fr.tmps.getD 110 undef = q110 at hfr
                          generalize fr.tmps.getD 111 undef = q111 at hfr
                          generalize fr.tmps.getD 112 undef = q112 at hfr
                          generalize fr.tmps.getD 113 undef = q113 at hfr
                          generalize fr.tmps.getD 114 undef = q114 at hfr
                          generalize fr.tmps.getD 115 undef = q115 at hfr
                          generalize fr.tmps.getD 116 undef = q116 at hfr
                          generalize fr.tmps.getD 117 undef = q117 at hfr
                          generalize fr.tmps.getD 118 undef = q118 at hfr
                          generalize fr.tmps.getD 119 undef = q119 at hfr
                          generalize fr.tmps.getD 120 undef = q120 at hfr
                          generalize fr.tmps.getD 121 undef = q121 at hfr
                          generalize fr.tmps.getD 122 undef = q122 at hfr
                          generalize fr.tmps.getD 123 undef = q123 at hfr
                          generalize fr.tmps.getD 124 undef = q124 at hfr
                          generalize fr.tmps.getD 125 undef = q125 at hfr
                          generalize fr.tmps.getD 126 undef = q126 at hfr
                          generalize fr.tmps.getD 127 undef = q127 at hfr
                          generalize fr.tmps.getD 128 undef = q128 at hfr
                          generalize fr.tmps.getD 129 undef = q129 at hfr
                          generalize fr.tmps.getD 130 undef = q130 at hfr
                          generalize fr.tmps.getD 131 undef = q131 at hfr hq
                          subst hfr
                          subst hq
                          go_wp2_with fail
                          go_meet
                          case rel => exact ⟨rfl, hB⟩
                        -- END REGION mfa
                      · have hzt : decide (z < N) = false := decide_eq_false hzn
                        have hge : decide (N ≤ z) = true := decide_eq_true (by omega)
                        have hdr : d = (⟨#[114, 111, 111, 109]⟩ : ByteArray) := by
                          rw [HWL.out, List.getElem?_append_right (by have := HNE.out; omega), List.getElem?_replicate] at hd
                          split at hd
                          · injection hd with hd
                            exact hd.symm
                          · cases hd
                        subst hdr
                -- REGION mfb
                        
                        refine wp_region_local (by kernel_rfl) (by kernel_rfl) (useList mfbU) [25] (by kernel_rfl) (spR (mfbL z N gg cg g2 c2)) (fun _ _ => True) (Below wz.heap.size wz) (fun _ w w' => Below w.heap.size w w') spR_stays (fun _ _ _ _ _ h _ => h) (fun _ _ => Below.refl _ _) (dsts_lt (N := 168) (by kernel_rfl)) ((Below.refl _ _).drew) (fun _ _ => trivial) (all_ops ?_) ?_
                        · refine And.intro ?_ ?_
                          · -- 0: slot 106 := Op.move (Operand.tmp 20)
                            refine lstep_run fun fr wf left => ?_
                            have o20 := (left.old 20 (by kernel_rfl)).trans rfl
                            refine ⟨wanted_none rfl, fun K hK => ?_⟩
                            have hB := hide left.base
                            clear left
                            go_simp
                            exact hK _ _ rfl hB.out (Below.refl _ _)
                          refine And.intro ?_ ?_
                          · -- 1: slot 107 := Op.move (Operand.tmp 17)
                            refine lstep_run fun fr wf left => ?_
                            have o17 := (left.old 17 (by kernel_rfl)).trans rfl
                            refine ⟨wanted_none rfl, fun K hK => ?_⟩
                            have hB := hide left.base
                            clear left
                            go_simp
                            exact hK _ _ rfl hB.out (Below.refl _ _)
                          refine And.intro ?_ ?_
                          · -- 2: slot 108 := Op.binOp BinOp.lss 3 (Operand.tmp 106) (Operand.tmp 107) 3
                            refine lstep_run fun fr wf left => ?_
                            obtain ⟨x0, e0, r0⟩ := left.slot 168 rfl 0 106 _ rfl rfl (by decide) rfl
                            have s0 := Eq.symm (show x0 = .int .i64 (z : Int) from r0)
                            subst s0
                            obtain ⟨x1, e1, r1⟩ := left.slot 168 rfl 1 107 _ rfl rfl (by decide) rfl
                            have s1 := Eq.symm (show x1 = .int .i64 (N : Int) from r1)
                            subst s1
                            refine ⟨wanted_none rfl, fun K hK => ?_⟩
                            have hB := hide left.base
                            clear left
                            go_simp
                            exact hK _ _ rfl hB.out (Below.refl _ _)
                          refine And.intro ?_ ?_
                          · -- 3: slot 109 := Op.move (Operand.tmp 108)
                            refine lstep_run fun fr wf left => ?_
                            obtain ⟨x2, e2, r2⟩ := left.slot 168 rfl 2 108 _ rfl rfl (by decide) rfl
                            have s2 := Eq.symm (show x2 = .bool false from r2)
                            subst s2
                            refine ⟨wanted_none rfl, fun K hK => ?_⟩
                            have hB := hide left.base
                            clear left
                            go_simp
                            exact hK _ _ rfl hB.out (Below.refl _ _)
                          refine And.intro ?_ ?_
                          · -- 4: slot 110 := Op.move (Operand.tmp 16)
                            refine lstep_skip fun fr wf left => ?_
                            obtain ⟨x3, e3, r3⟩ := left.slot 168 rfl 3 109 _ rfl rfl (by decide) rfl
                            have s3 := Eq.symm (show x3 = .bool false from r3)
                            subst s3
                            exact ⟨wanted_no rfl rfl e3 (by decide), rfl⟩
                          refine And.intro ?_ ?_
                          · -- 5: slot 111 := Op.move (Operand.tmp 20)
                            refine lstep_skip fun fr wf left => ?_
                            obtain ⟨x3, e3, r3⟩ := left.slot 168 rfl 3 109 _ rfl rfl (by decide) rfl
                            have s3 := Eq.symm (show x3 = .bool false from r3)
                            subst s3
                            exact ⟨wanted_no rfl rfl e3 (by decide), rfl⟩
                          refine And.intro ?_ ?_
                          · -- 6: slot 112 := Op.indexAddr 22 (Operand.tmp 110) (Operand.tmp 111)
                            refine lstep_skip fun fr wf left => ?_
                            obtain ⟨x3, e3, r3⟩ := left.slot 168 rfl 3 109 _ rfl rfl (by decide) rfl
                            have s3 := Eq.symm (show x3 = .bool false from r3)
                            subst s3
                            exact ⟨wanted_no rfl rfl e3 (by decide), rfl⟩
                          refine And.intro ?_ ?_
                          · -- 7: slot 113 := Op.load 9 (Operand.tmp 112)
                            refine lstep_skip fun fr wf left => ?_
                            obtain ⟨x3, e3, r3⟩ := left.slot 168 rfl 3 109 _ rfl rfl (by decide) rfl
                            have s3 := Eq.symm (show x3 = .bool false from r3)
                            subst s3
                            exact ⟨wanted_no rfl rfl e3 (by decide), rfl⟩
                          refine And.intro ?_ ?_
                          · -- 8: slot 114 := Op.move (Operand.tmp 19)
                            refine lstep_skip fun fr wf left => ?_
                            obtain ⟨x3, e3, r3⟩ := left.slot 168 rfl 3 109 _ rfl rfl (by decide) rfl
                            have s3 := Eq.symm (show x3 = .bool false from r3)
                            subst s3
                            exact ⟨wanted_no rfl rfl e3 (by decide), rfl⟩
                          refine And.intro ?_ ?_
                          · -- 9: slot 115 := Op.move (Operand.tmp 20)
                            refine lstep_skip fun fr wf left => ?_
                            obtain ⟨x3, e3, r3⟩ := left.slot 168 rfl 3 109 _ rfl rfl (by decide) rfl
                            have s3 := Eq.symm (show x3 = .bool false from r3)
                            subst s3
                            exact ⟨wanted_no rfl rfl e3 (by decide), rfl⟩
                          refine And.intro ?_ ?_
                          · -- 10: slot 116 := Op.indexAddr 22 (Operand.tmp 114) (Operand.tmp 115)
                            refine lstep_skip fun fr wf left => ?_
                            obtain ⟨x3, e3, r3⟩ := left.slot 168 rfl 3 109 _ rfl rfl (by decide) rfl
                            have s3 := Eq.symm (show x3 = .bool false from r3)
                            subst s3
                            exact ⟨wanted_no rfl rfl e3 (by decide), rfl⟩
                          refine And.intro ?_ ?_
                          · -- 11: slot 117 := Op.load 9 (Operand.tmp 116)
                            refine lstep_skip fun fr wf left => ?_
                            obtain ⟨x3, e3, r3⟩ := left.slot 168 rfl 3 109 _ rfl rfl (by decide) rfl
                            have s3 := Eq.symm (show x3 = .bool false from r3)
                            subst s3
                            exact ⟨wanted_no rfl rfl e3 (by decide), rfl⟩
                          refine And.intro ?_ ?_
                          · -- 12: slot 118 := Op.binOp BinOp.neq 9 (Operand.tmp 113) (Operand.tmp 117) 9
                            refine lstep_skip fun fr wf left => ?_
                            obtain ⟨x3, e3, r3⟩ := left.slot 168 rfl 3 109 _ rfl rfl (by decide) rfl
                            have s3 := Eq.symm (show x3 = .bool false from r3)
                            subst s3
                            exact ⟨wanted_no rfl rfl e3 (by decide), rfl⟩
                          refine And.intro ?_ ?_
                          · -- 13: slot 119 := Op.pick (Operand.tmp 109) (Operand.tmp 118) (Operand.const (Value.bool false))
                            refine lstep_run fun fr wf left => ?_
                            obtain ⟨x3, e3, r3⟩ := left.slot 168 rfl 3 109 _ rfl rfl (by decide) rfl
                            have s3 := Eq.symm (show x3 = .bool false from r3)
                            subst s3
                            obtain ⟨x12, e12, r12⟩ := left.slot 168 rfl 12 118 _ rfl rfl (by decide) rfl
                            have s12 := Eq.symm (show x12 = undef from r12)
                            subst s12
                            refine ⟨wanted_none rfl, fun K hK => ?_⟩
                            have hB := hide left.base
                            clear left
                            go_simp
                            exact hK _ _ rfl hB.out (Below.refl _ _)
                          refine And.intro ?_ ?_
                          · -- 14: slot 120 := Op.move (Operand.tmp 119)
                            refine lstep_run fun fr wf left => ?_
                            obtain ⟨x13, e13, r13⟩ := left.slot 168 rfl 13 119 _ rfl rfl (by decide) rfl
                            have s13 := Eq.symm (show x13 = .bool false from r13)
                            subst s13
                            refine ⟨wanted_none rfl, fun K hK => ?_⟩
                            have hB := hide left.base
                            clear left
                            go_simp
                            exact hK _ _ rfl hB.out (Below.refl _ _)
                          refine And.intro ?_ ?_
                          · -- 15: slot 121 := Op.move (Operand.tmp 20)
                            refine lstep_run fun fr wf left => ?_
                            obtain ⟨x14, e14, r14⟩ := left.slot 168 rfl 14 120 _ rfl rfl (by decide) rfl
                            have s14 := Eq.symm (show x14 = .bool false from r14)
                            subst s14
                            have o20 := (left.old 20 (by kernel_rfl)).trans rfl
                            refine ⟨wanted_yes rfl rfl e14, fun K hK => ?_⟩
                            have hB := hide left.base
                            clear left
                            go_simp
                            exact hK _ _ rfl hB.out (Below.refl _ _)
                          refine And.intro ?_ ?_
                          · -- 16: slot 122 := Op.move (Operand.tmp 17)
                            refine lstep_run fun fr wf left => ?_
                            obtain ⟨x14, e14, r14⟩ := left.slot 168 rfl 14 120 _ rfl rfl (by decide) rfl
                            have s14 := Eq.symm (show x14 = .bool false from r14)
                            subst s14
                            have o17 := (left.old 17 (by kernel_rfl)).trans rfl
                            refine ⟨wanted_yes rfl rfl e14, fun K hK => ?_⟩
                            have hB := hide left.base
                            clear left
                            go_simp
                            exact hK _ _ rfl hB.out (Below.refl _ _)
                          refine And.intro ?_ ?_
                          · -- 17: slot 123 := Op.binOp BinOp.geq 3 (Operand.tmp 121) (Operand.tmp 122) 3
                            refine lstep_run fun fr wf left => ?_
                            obtain ⟨x14, e14, r14⟩ := left.slot 168 rfl 14 120 _ rfl rfl (by decide) rfl
                            have s14 := Eq.symm (show x14 = .bool false from r14)
                            subst s14
                            obtain ⟨x15, e15, r15⟩ := left.slot 168 rfl 15 121 _ rfl rfl (by decide) rfl
                            have s15 := Eq.symm (show x15 = .int .i64 (z : Int) from r15)
                            subst s15
                            obtain ⟨x16, e16, r16⟩ := left.slot 168 rfl 16 122 _ rfl rfl (by decide) rfl
                            have s16 := Eq.symm (show x16 = .int .i64 (N : Int) from r16)
                            subst s16
                            refine ⟨wanted_yes rfl rfl e14, fun K hK => ?_⟩
                            have hB := hide left.base
                            clear left
                            go_simp
                            exact hK _ _ rfl hB.out (Below.refl _ _)
                          refine And.intro ?_ ?_
                          · -- 18: slot 124 := Op.move (Operand.tmp 123)
                            refine lstep_run fun fr wf left => ?_
                            obtain ⟨x14, e14, r14⟩ := left.slot 168 rfl 14 120 _ rfl rfl (by decide) rfl
                            have s14 := Eq.symm (show x14 = .bool false from r14)
                            subst s14
                            obtain ⟨x17, e17, r17⟩ := left.slot 168 rfl 17 123 _ rfl rfl (by decide) rfl
                            have s17 := Eq.symm (show x17 = .bool true from r17)
                            subst s17
                            refine ⟨wanted_yes rfl rfl e14, fun K hK => ?_⟩
                            have hB := hide left.base
                            clear left
                            go_simp
                            exact hK _ _ rfl hB.out (Below.refl _ _)
                          refine And.intro ?_ ?_
                          · -- 19: slot 125 := Op.move (Operand.tmp 16)
                            refine lstep_run fun fr wf left => ?_
                            obtain ⟨x18, e18, r18⟩ := left.slot 168 rfl 18 124 _ rfl rfl (by decide) rfl
                            have s18 := Eq.symm (show x18 = .bool true from r18)
                            subst s18
                            have o16 := (left.old 16 (by kernel_rfl)).trans rfl
                            refine ⟨wanted_yes rfl rfl e18, fun K hK => ?_⟩
                            have hB := hide left.base
                            clear left
                            go_simp
                            exact hK _ _ rfl hB.out (Below.refl _ _)
                          refine And.intro ?_ ?_
                          · -- 20: slot 126 := Op.move (Operand.tmp 20)
                            refine lstep_run fun fr wf left => ?_
                            obtain ⟨x18, e18, r18⟩ := left.slot 168 rfl 18 124 _ rfl rfl (by decide) rfl
                            have s18 := Eq.symm (show x18 = .bool true from r18)
                            subst s18
                            have o20 := (left.old 20 (by kernel_rfl)).trans rfl
                            refine ⟨wanted_yes rfl rfl e18, fun K hK => ?_⟩
                            have hB := hide left.base
                            clear left
                            go_simp
                            exact hK _ _ rfl hB.out (Below.refl _ _)
                          refine And.intro ?_ ?_
                          · -- 21: slot 127 := Op.indexAddr 22 (Operand.tmp 125) (Operand.tmp 126)
                            refine lstep_run fun fr wf left => ?_
                            obtain ⟨x18, e18, r18⟩ := left.slot 168 rfl 18 124 _ rfl rfl (by decide) rfl
                            have s18 := Eq.symm (show x18 = .bool true from r18)
                            subst s18
                            obtain ⟨x19, e19, r19⟩ := left.slot 168 rfl 19 125 _ rfl rfl (by decide) rfl
                            have s19 := Eq.symm (show x19 = .slice (some ⟨gg, 0, none⟩) (N + 9) cg from r19)
                            subst s19
                            obtain ⟨x20, e20, r20⟩ := left.slot 168 rfl 20 126 _ rfl rfl (by decide) rfl
                            have s20 := Eq.symm (show x20 = .int .i64 (z : Int) from r20)
                            subst s20
                            refine ⟨wanted_yes rfl rfl e18, fun K hK => ?_⟩
                            have hB := hide left.base
                            clear left
                            go_simp
                            exact hK _ _ rfl hB.out (Below.refl _ _)
                          refine And.intro ?_ ?_
                          · -- 22: slot 128 := Op.load 9 (Operand.tmp 127)
                            refine lstep_run fun fr wf left => ?_
                            obtain ⟨x18, e18, r18⟩ := left.slot 168 rfl 18 124 _ rfl rfl (by decide) rfl
                            have s18 := Eq.symm (show x18 = .bool true from r18)
                            subst s18
                            obtain ⟨x21, e21, r21⟩ := left.slot 168 rfl 21 127 _ rfl rfl (by decide) rfl
                            have s21 := Eq.symm (show x21 = .pointer (some ⟨gg, z, none⟩) from r21)
                            subst s21
                            refine ⟨wanted_yes rfl rfl e18, fun K hK => ?_⟩
                            have hB := hide left.base
                            have hc := HCG.out _ hB.out
                            clear left
                            go_simp
                            exact hK _ _ rfl hB.out (Below.refl _ _)
                          refine And.intro ?_ ?_
                          · -- 23: slot 129 := Op.binOp BinOp.neq 9 (Operand.tmp 128) (Operand.const (Value.string { data := #[114, 111, 
                            refine lstep_run fun fr wf left => ?_
                            obtain ⟨x18, e18, r18⟩ := left.slot 168 rfl 18 124 _ rfl rfl (by decide) rfl
                            have s18 := Eq.symm (show x18 = .bool true from r18)
                            subst s18
                            obtain ⟨x22, e22, r22⟩ := left.slot 168 rfl 22 128 _ rfl rfl (by decide) rfl
                            have s22 := Eq.symm (show x22 = .string (⟨#[114, 111, 111, 109]⟩ : ByteArray) from r22)
                            subst s22
                            refine ⟨wanted_yes rfl rfl e18, fun K hK => ?_⟩
                            have hB := hide left.base
                            clear left
                            go_simp
                            exact hK _ _ rfl hB.out (Below.refl _ _)
                          refine And.intro ?_ ?_
                          · -- 24: slot 130 := Op.pick (Operand.tmp 124) (Operand.tmp 129) (Operand.const (Value.bool false))
                            refine lstep_run fun fr wf left => ?_
                            obtain ⟨x14, e14, r14⟩ := left.slot 168 rfl 14 120 _ rfl rfl (by decide) rfl
                            have s14 := Eq.symm (show x14 = .bool false from r14)
                            subst s14
                            obtain ⟨x18, e18, r18⟩ := left.slot 168 rfl 18 124 _ rfl rfl (by decide) rfl
                            have s18 := Eq.symm (show x18 = .bool true from r18)
                            subst s18
                            obtain ⟨x23, e23, r23⟩ := left.slot 168 rfl 23 129 _ rfl rfl (by decide) rfl
                            have s23 := Eq.symm (show x23 = .bool false from r23)
                            subst s23
                            refine ⟨wanted_yes rfl rfl e14, fun K hK => ?_⟩
                            have hB := hide left.base
                            clear left
                            go_simp
                            exact hK _ _ rfl hB.out (Below.refl _ _)
                          refine And.intro ?_ ?_
                          · -- 25: slot 131 := Op.pick (Operand.tmp 120) (Operand.const (Value.bool true)) (Operand.tmp 130)
                            refine lstep_run fun fr wf left => ?_
                            obtain ⟨x14, e14, r14⟩ := left.slot 168 rfl 14 120 _ rfl rfl (by decide) rfl
                            have s14 := Eq.symm (show x14 = .bool false from r14)
                            subst s14
                            obtain ⟨x24, e24, r24⟩ := left.slot 168 rfl 24 130 _ rfl rfl (by decide) rfl
                            have s24 := Eq.symm (show x24 = .bool false from r24)
                            subst s24
                            refine ⟨wanted_none rfl, fun K hK => ?_⟩
                            have hB := hide left.base
                            clear left
                            go_simp
                            exact hK _ _ rfl hB.out (Below.refl _ _)
                          exact trivial
                        · intro fr wf hB hs hd hall hkeep
                          have hq : fr.tmps.getD 131 undef = .bool false := hall 25 _ rfl (by simp)
                          have hfr := act_ext (frame_setL hs hkeep [106, 107, 108, 109, 110, 111, 112, 113, 114, 115, 116, 117, 118, 119, 120, 121, 122, 123, 124, 125, 126, 127, 128, 129, 130, 131] (by kernel_rfl)) hd
                          clear hall hkeep hs hd
                          dsimp only [List.foldl, List.set_cons_zero, List.set_cons_succ] at hfr
                          generalize fr.tmps.getD 106 undef = q106 at hfr
                          generalize fr.tmps.getD 107 undef = q107 at hfr
                          generalize fr.tmps.getD 108 undef = q108 at hfr
                          generalize fr.tmps.getD 109 undef = q109 at hfr
                          generalize fr.tmps.getD 110 undef = q110 at hfr
                          generalize fr.tmps.getD 111 undef = q111 at hfr
                          generalize fr.tmps.getD 112 undef = q112 at hfr
                          generalize fr.tmps.getD 113 undef = q113 at hfr
                          generalize fr.tmps.getD 114 undef = q114 at hfr
                          generalize fr.tmps.getD 115 undef = q115 at hfr
                          generalize fr.tmps.getD 116 undef = q116 at hfr
                          generalize fr.tmps.getD 117 undef = q117 at hfr
                          generalize fr.tmps.getD 118 undef = q118 at hfr
                          generalize fr.tmps.getD 119 undef = q119 at hfr
                          generalize fr.tmps.getD 120 undef = q120 at hfr
                          generalize fr.tmps.getD 121 undef = q121 at hfr
                          generalize fr.tmps.getD 122 undef = q122 at hfr
                          generalize fr.tmps.getD 123 undef = q123 at hfr
                          generalize fr.tmps.getD 124 undef = q124 at hfr
                          generalize fr.tmps.getD 125 undef = q125 at hfr
                          generalize fr.tmps.getD 126 undef = q126 at hfr
                          generalize fr.tmps.getD 127 undef = q127 at hfr
                          generalize fr.tmps.getD 128 undef = q128 at hfr
                          generalize fr.tmps.getD 129 undef = q129 at hfr
                          generalize fr.tmps.getD 130 undef = q130 at hfr
                          generalize fr.tmps.getD 131 undef = q131 at hfr hq
                          subst hfr
                          subst hq
                          go_wp2_with fail
                          go_meet
                          case rel => exact ⟨rfl, hB⟩
                        -- END REGION mfb
                    case rest =>
                      obtain ⟨h131, hbz⟩ := hcut.out
                      subst h131
                      obtain ⟨wz0, rfl⟩ : ∃ u, u = wz := ⟨_, rfl⟩
                      obtain ⟨wz, rfl⟩ : ∃ u, u = wc := ⟨_, rfl⟩
                      have hcg := HCG.out wz hbz
                      have HZ := hide (show Arr wz gg 9 ((Fl.overL WL z).map Value.string) ∧ Arr wz g2 9 (dg.map Value.string) ∧ Two (fun y => (w4.heap.size ≤ y ∧ y < wo.heap.size) ∨ wq.heap.size ≤ y) wz kn ta tb l m (i + 1) i ∧ Below w4.heap.size w4 wz from ⟨HZ.out.1.past hbz, HZ.out.2.1.past hbz, HZ.out.2.2.1.past hbz, HZ.out.2.2.2.trans (hbz.mono HZ.out.2.2.2.size)⟩)
                      have hfg := HZ.out.1.frozen z hlen
                      clear hcut hbz
                      obtain ⟨wy, hwy⟩ : ∃ u, u = wz.setCell ⟨gg, z, none⟩ (.string ⟨#[111, 118, 101, 114]⟩) := ⟨_, rfl⟩
                      have HY := hide (show Arr wy gg 9 ((Fl.overL WL (z + 1)).map Value.string) ∧ Arr wy g2 9 (dg.map Value.string) ∧ Two (fun y => (w4.heap.size ≤ y ∧ y < wo.heap.size) ∨ wq.heap.size ≤ y) wy kn ta tb l m (i + 1) i ∧ Below w4.heap.size w4 wy from by
                        have hm : Moved (fun y => y = gg) wz wy := by rw [hwy]; exact (Moved.refl (fun y => y = gg) wz).setCell (a := ⟨gg, z, none⟩) rfl _
                        have h1 := HGG.out
                        have h2 := HG2.out
                        have h3 := HR.out.2.size
                        refine ⟨?_, Fl.arr_keep HZ.out.2.1 hm (by omega), HZ.out.2.2.1.moved hm (fun y hy => by omega), HZ.out.2.2.2.trans (hm.below HZ.out.2.2.2.size fun y hy => by omega)⟩
                        rw [hwy, ← Fl.overL_set (by omega), List.map_set]
                        exact HZ.out.1.set z hlen _)
                      have HWY := hide hwy
                      clear hwy hd
                      go_wp2_with fail
                      rw [← HWY.out]
                      go_roundg (N + 9 - (z + 1))
                      case measure => omega
                      case rel => exact ⟨z + 1, rfl, by omega, by go_num, HY.out⟩
                  · have hzd : decide ((z : Int) < (N : Int) + 9) = false := decide_eq_false (by omega)
                    go_wp2_with fail
                    go_meet
                    case rel =>
                      have h1 := HBQ.out.size
                      exact ⟨HZ.out.2.2.1.mono fun y hy _ => hy.elim (fun e => e.1) (fun e => by omega), HZ.out.2.2.2⟩
              -- END REGION mfx
        · have hgn : decide (i < n) = false := decide_eq_false hlt
          go_wp2_with fail
          go_meet
          case rel => exact ⟨HR.out.1.over (by have := HN.out; omega), HR.out.2⟩
      case rest =>
        have HR2 := hide hcut.out
        obtain ⟨wx, rfl⟩ : ∃ u, u = wc := ⟨_, rfl⟩
        clear hcut
        go_upto_region 31 with (fail)
        by_cases hlt : i < nm
        · have hgm : decide (i < nm) = true := decide_eq_true hlt
          obtain ⟨y, hyy⟩ : ∃ y, m[i]? = some y := ⟨_, List.getElem?_eq_getElem (by have := HNM.out; omega)⟩
          obtain ⟨nl, al, cl, hnl, hle, _, hform⟩ := HM.out.form
          cases hle
          obtain ⟨bl, ol, rfl, hbl, hcl⟩ := hform i hlt
          have hcm : wx.cell? ⟨bl, ol + i, none⟩ = some (.string y) := by
            rw [HR2.out.2.cell (p := ⟨bl, ol + i, none⟩) hbl, hcl, List.getD_eq_getElem?_getD, List.getElem?_map, hyy]; rfl
          have HYY := hide hyy
          clear hform hcl hyy hnl
          have HCM := hide (show ∀ u, Moved (fun x => w4.heap.size ≤ x) wx u → u.cell? ⟨bl, ol + i, none⟩ = some (.string y) from fun u hu => (World.cell?_of_block (a := ⟨bl, ol + i, none⟩) (hu.block bl (Nat.lt_of_lt_of_le hbl HR2.out.2.size) (Nat.not_le.2 hbl))).trans hcm)
          have hle4 := HR2.out.2.size
          clear hcm
-- REGION mfy
          
          refine wp_region_local (by kernel_rfl) (by kernel_rfl) (useList mfyU) [14, 16] (by kernel_rfl) (spR (mfyL w4 kn ta tb l m y bl ol nm mc i)) (onePre 14 (fun u => Two (fun x => w4.heap.size ≤ x) u kn tb ta m l i (i + 1))) (Moved (fun x => w4.heap.size ≤ x) wx) (oneE 14 (fun _ _ => True)) (one_stays (by simp [mfyL]) (by kernel_rfl)) (one_pre (fun _ _ h hb => h.past hb)) (one_refl (fun _ => trivial)) (dsts_lt (N := 168) (by kernel_rfl)) ((Moved.refl _ _).drew) (fun _ _ => one_start (HR2.out.1.swap.past ((Below.refl _ _).drew))) (all_ops ?_) ?_
          · refine And.intro ?_ ?_
            · -- 0: slot 135 := Op.move (Operand.tmp 15)
              refine lstep_run fun fr wf left => ?_
              have o15 := (left.old 15 (by kernel_rfl)).trans rfl
              refine ⟨wanted_none rfl, fun K hK => ?_⟩
              have hB := hide left.base
              clear left
              go_simp
              exact hK _ _ rfl hB.out (one_refl (fun _ => trivial) _ _)
            refine And.intro ?_ ?_
            · -- 1: slot 136 := Op.move (Operand.tmp 8)
              refine lstep_run fun fr wf left => ?_
              have o8 := (left.old 8 (by kernel_rfl)).trans rfl
              refine ⟨wanted_none rfl, fun K hK => ?_⟩
              have hB := hide left.base
              clear left
              go_simp
              exact hK _ _ rfl hB.out (one_refl (fun _ => trivial) _ _)
            refine And.intro ?_ ?_
            · -- 2: slot 137 := Op.call { callee := Callee.builtin Builtin.len, args := #[Operand.tmp 136], argTypes := #[
              refine lstep_run fun fr wf left => ?_
              obtain ⟨x1, e1, r1⟩ := left.slot 168 rfl 1 136 _ rfl rfl (by decide) rfl
              have s1 := Eq.symm (show x1 = .slice (some ⟨bl, ol, none⟩) nm mc from r1)
              subst s1
              refine ⟨wanted_none rfl, fun K hK => ?_⟩
              have hB := hide left.base
              clear left
              go_simp
              exact hK _ _ rfl hB.out (one_refl (fun _ => trivial) _ _)
            refine And.intro ?_ ?_
            · -- 3: slot 138 := Op.binOp BinOp.lss 3 (Operand.tmp 135) (Operand.tmp 137) 3
              refine lstep_run fun fr wf left => ?_
              obtain ⟨x0, e0, r0⟩ := left.slot 168 rfl 0 135 _ rfl rfl (by decide) rfl
              have s0 := Eq.symm (show x0 = .int .i64 (i : Int) from r0)
              subst s0
              obtain ⟨x2, e2, r2⟩ := left.slot 168 rfl 2 137 _ rfl rfl (by decide) rfl
              have s2 := Eq.symm (show x2 = .int .i64 (nm : Int) from r2)
              subst s2
              refine ⟨wanted_none rfl, fun K hK => ?_⟩
              have hB := hide left.base
              clear left
              go_simp
              exact hK _ _ rfl hB.out (one_refl (fun _ => trivial) _ _)
            refine And.intro ?_ ?_
            · -- 4: slot 139 := Op.move (Operand.tmp 138)
              refine lstep_run fun fr wf left => ?_
              obtain ⟨x3, e3, r3⟩ := left.slot 168 rfl 3 138 _ rfl rfl (by decide) rfl
              have s3 := Eq.symm (show x3 = .bool true from r3)
              subst s3
              refine ⟨wanted_none rfl, fun K hK => ?_⟩
              have hB := hide left.base
              clear left
              go_simp
              exact hK _ _ rfl hB.out (one_refl (fun _ => trivial) _ _)
            refine And.intro ?_ ?_
            · -- 5: slot 140 := Op.move (Operand.tmp 13)
              refine lstep_run fun fr wf left => ?_
              obtain ⟨x4, e4, r4⟩ := left.slot 168 rfl 4 139 _ rfl rfl (by decide) rfl
              have s4 := Eq.symm (show x4 = .bool true from r4)
              subst s4
              have o13 := (left.old 13 (by kernel_rfl)).trans rfl
              refine ⟨wanted_yes rfl rfl e4, fun K hK => ?_⟩
              have hB := hide left.base
              clear left
              go_simp
              exact hK _ _ rfl hB.out (one_refl (fun _ => trivial) _ _)
            refine And.intro ?_ ?_
            · -- 6: slot 141 := Op.move (Operand.tmp 8)
              refine lstep_run fun fr wf left => ?_
              obtain ⟨x4, e4, r4⟩ := left.slot 168 rfl 4 139 _ rfl rfl (by decide) rfl
              have s4 := Eq.symm (show x4 = .bool true from r4)
              subst s4
              have o8 := (left.old 8 (by kernel_rfl)).trans rfl
              refine ⟨wanted_yes rfl rfl e4, fun K hK => ?_⟩
              have hB := hide left.base
              clear left
              go_simp
              exact hK _ _ rfl hB.out (one_refl (fun _ => trivial) _ _)
            refine And.intro ?_ ?_
            · -- 7: slot 142 := Op.move (Operand.tmp 15)
              refine lstep_run fun fr wf left => ?_
              obtain ⟨x4, e4, r4⟩ := left.slot 168 rfl 4 139 _ rfl rfl (by decide) rfl
              have s4 := Eq.symm (show x4 = .bool true from r4)
              subst s4
              have o15 := (left.old 15 (by kernel_rfl)).trans rfl
              refine ⟨wanted_yes rfl rfl e4, fun K hK => ?_⟩
              have hB := hide left.base
              clear left
              go_simp
              exact hK _ _ rfl hB.out (one_refl (fun _ => trivial) _ _)
            refine And.intro ?_ ?_
            · -- 8: slot 143 := Op.indexAddr 22 (Operand.tmp 141) (Operand.tmp 142)
              refine lstep_run fun fr wf left => ?_
              obtain ⟨x4, e4, r4⟩ := left.slot 168 rfl 4 139 _ rfl rfl (by decide) rfl
              have s4 := Eq.symm (show x4 = .bool true from r4)
              subst s4
              obtain ⟨x6, e6, r6⟩ := left.slot 168 rfl 6 141 _ rfl rfl (by decide) rfl
              have s6 := Eq.symm (show x6 = .slice (some ⟨bl, ol, none⟩) nm mc from r6)
              subst s6
              obtain ⟨x7, e7, r7⟩ := left.slot 168 rfl 7 142 _ rfl rfl (by decide) rfl
              have s7 := Eq.symm (show x7 = .int .i64 (i : Int) from r7)
              subst s7
              refine ⟨wanted_yes rfl rfl e4, fun K hK => ?_⟩
              have hB := hide left.base
              clear left
              go_simp
              exact hK _ _ rfl hB.out (one_refl (fun _ => trivial) _ _)
            refine And.intro ?_ ?_
            · -- 9: slot 144 := Op.load 9 (Operand.tmp 143)
              refine lstep_run fun fr wf left => ?_
              obtain ⟨x4, e4, r4⟩ := left.slot 168 rfl 4 139 _ rfl rfl (by decide) rfl
              have s4 := Eq.symm (show x4 = .bool true from r4)
              subst s4
              obtain ⟨x8, e8, r8⟩ := left.slot 168 rfl 8 143 _ rfl rfl (by decide) rfl
              have s8 := Eq.symm (show x8 = .pointer (some ⟨bl, ol + i, none⟩) from r8)
              subst s8
              refine ⟨wanted_yes rfl rfl e4, fun K hK => ?_⟩
              have hB := hide left.base
              have hc := HCM.out _ hB.out
              clear left
              go_simp
              exact hK _ _ rfl hB.out (one_refl (fun _ => trivial) _ _)
            refine And.intro ?_ ?_
            · -- 10: slot 145 := Op.move (Operand.tmp 15)
              refine lstep_run fun fr wf left => ?_
              obtain ⟨x4, e4, r4⟩ := left.slot 168 rfl 4 139 _ rfl rfl (by decide) rfl
              have s4 := Eq.symm (show x4 = .bool true from r4)
              subst s4
              have o15 := (left.old 15 (by kernel_rfl)).trans rfl
              refine ⟨wanted_yes rfl rfl e4, fun K hK => ?_⟩
              have hB := hide left.base
              clear left
              go_simp
              exact hK _ _ rfl hB.out (one_refl (fun _ => trivial) _ _)
            refine And.intro ?_ ?_
            · -- 11: slot 146 := Op.convert 3 45 (Operand.tmp 145)
              refine lstep_run fun fr wf left => ?_
              obtain ⟨x4, e4, r4⟩ := left.slot 168 rfl 4 139 _ rfl rfl (by decide) rfl
              have s4 := Eq.symm (show x4 = .bool true from r4)
              subst s4
              obtain ⟨x10, e10, r10⟩ := left.slot 168 rfl 10 145 _ rfl rfl (by decide) rfl
              have s10 := Eq.symm (show x10 = .int .i64 (i : Int) from r10)
              subst s10
              refine ⟨wanted_yes rfl rfl e4, fun K hK => ?_⟩
              have hB := hide left.base
              clear left
              go_simp
              exact hK _ _ (congrArg (Value.int .u64) (by first | rfl | (rw [IntKind.wrap_u64]; omega))) hB.out (one_refl (fun _ => trivial) _ _)
            refine And.intro ?_ ?_
            · -- 12: slot 147 := Op.move (Operand.tmp 0)
              refine lstep_run fun fr wf left => ?_
              obtain ⟨x4, e4, r4⟩ := left.slot 168 rfl 4 139 _ rfl rfl (by decide) rfl
              have s4 := Eq.symm (show x4 = .bool true from r4)
              subst s4
              have o0 := (left.old 0 (by kernel_rfl)).trans rfl
              refine ⟨wanted_yes rfl rfl e4, fun K hK => ?_⟩
              have hB := hide left.base
              clear left
              go_simp
              exact hK _ _ rfl hB.out (one_refl (fun _ => trivial) _ _)
            refine And.intro ?_ ?_
            · -- 13: slot 148 := Op.call { callee := Callee.value (Operand.func 25), args := #[Operand.tmp 146, Operand.tmp
              refine lstep_run fun fr wf left => ?_
              obtain ⟨x4, e4, r4⟩ := left.slot 168 rfl 4 139 _ rfl rfl (by decide) rfl
              have s4 := Eq.symm (show x4 = .bool true from r4)
              subst s4
              obtain ⟨x11, e11, r11⟩ := left.slot 168 rfl 11 146 _ rfl rfl (by decide) rfl
              have s11 := Eq.symm (show x11 = .int .u64 (i : Int) from r11)
              subst s11
              obtain ⟨x12, e12, r12⟩ := left.slot 168 rfl 12 147 _ rfl rfl (by decide) rfl
              have s12 := Eq.symm (show x12 = .int .i64 (kn : Int) from r12)
              subst s12
              refine ⟨wanted_yes rfl rfl e4, fun K hK => ?_⟩
              have hB := hide left.base
              clear left
              go_simp
              refine (digests_any i kn _ (by omega) hk2).mono ?_
              rintro e w' ⟨dv, rfl, hrow, hb⟩
              exact hK _ _ (slv_of_owns hrow) (hB.out.then (Moved.of_below hb)) (one_else (by decide) hb)
            refine And.intro ?_ ?_
            · -- 14: slot 149 := Op.call { callee := Callee.value (Operand.func 26), args := #[Operand.tmp 140, Operand.tmp
              refine lstep_run fun fr wf left => ?_
              obtain ⟨x4, e4, r4⟩ := left.slot 168 rfl 4 139 _ rfl rfl (by decide) rfl
              have s4 := Eq.symm (show x4 = .bool true from r4)
              subst s4
              obtain ⟨x5, e5, r5⟩ := left.slot 168 rfl 5 140 _ rfl rfl (by decide) rfl
              have s5 := Eq.symm (show x5 = .pointer (some ⟨tb, 0, none⟩) from r5)
              subst s5
              obtain ⟨x9, e9, r9⟩ := left.slot 168 rfl 9 144 _ rfl rfl (by decide) rfl
              have s9 := Eq.symm (show x9 = .string y from r9)
              subst s9
              obtain ⟨x13, e13, r13⟩ := left.slot 168 rfl 13 148 _ rfl rfl (by decide) rfl
              replace r13 : SlV wf x13 ((Fl.digs i kn).map Value.string) := r13
              refine ⟨wanted_yes rfl rfl e4, fun K hK => ?_⟩
              have hB := hide left.base; have hP := hide (one_pre_at left.pre rfl)
              clear left
              go_simp
              refine (two_add hP.out hk1 hk2 (by have := HNM.out; omega) HMS.out HYY.out _ r13).mono ?_
              rintro e w' ⟨rfl, HT2, HM2⟩
              have hsz := hB.out.size
              exact hK _ _ ⟨rfl, HT2.out.mono (fun z hz _ => hz.elim id (fun e => Nat.le_trans (Nat.le_trans hle4 hsz) e))⟩ (hB.out.then HM2.out) (one_at rfl)
            refine And.intro ?_ ?_
            · -- 15: slot 150 := Op.binOp BinOp.neq 3 (Operand.tmp 149) (Operand.const (Value.int IntKind.i64 0)) 3
              refine lstep_run fun fr wf left => ?_
              obtain ⟨x4, e4, r4⟩ := left.slot 168 rfl 4 139 _ rfl rfl (by decide) rfl
              have s4 := Eq.symm (show x4 = .bool true from r4)
              subst s4
              obtain ⟨x14, e14, r14⟩ := left.slot 168 rfl 14 149 _ rfl rfl (by decide) rfl
              obtain ⟨s14, q14⟩ := (show x14 = .int .i64 0 ∧ (fun u => Two (fun x => w4.heap.size ≤ x) u kn tb ta m l (i + 1) (i + 1)) wf from r14)
              subst s14
              refine ⟨wanted_yes rfl rfl e4, fun K hK => ?_⟩
              have hB := hide left.base
              clear left
              go_simp
              exact hK _ _ rfl hB.out (one_refl (fun _ => trivial) _ _)
            refine And.intro ?_ ?_
            · -- 16: slot 151 := Op.pick (Operand.tmp 139) (Operand.tmp 150) (Operand.const (Value.bool false))
              refine lstep_run fun fr wf left => ?_
              obtain ⟨x4, e4, r4⟩ := left.slot 168 rfl 4 139 _ rfl rfl (by decide) rfl
              have s4 := Eq.symm (show x4 = .bool true from r4)
              subst s4
              obtain ⟨x15, e15, r15⟩ := left.slot 168 rfl 15 150 _ rfl rfl (by decide) rfl
              have s15 := Eq.symm (show x15 = .bool false from r15)
              subst s15
              refine ⟨wanted_none rfl, fun K hK => ?_⟩
              have hB := hide left.base
              clear left
              go_simp
              exact hK _ _ rfl hB.out (one_refl (fun _ => trivial) _ _)
            exact trivial
          · intro fr wf hB hs hd hall hkeep
            have hw : fr.tmps.getD 149 undef = .int .i64 0 ∧ Two (fun x => w4.heap.size ≤ x) wf kn tb ta m l (i + 1) (i + 1) := hall 14 _ rfl (by simp)
            have hz : fr.tmps.getD 151 undef = .bool false := hall 16 _ rfl (by simp)
            have hfr := act_ext (frame_setL hs hkeep [135, 136, 137, 138, 139, 140, 141, 142, 143, 144, 145, 146, 147, 148, 149, 150, 151] (by kernel_rfl)) hd
            clear hall hkeep hs hd
            dsimp only [List.foldl, List.set_cons_zero, List.set_cons_succ] at hfr
            generalize fr.tmps.getD 135 undef = q135 at hfr
            generalize fr.tmps.getD 136 undef = q136 at hfr
            generalize fr.tmps.getD 137 undef = q137 at hfr
            generalize fr.tmps.getD 138 undef = q138 at hfr
            generalize fr.tmps.getD 139 undef = q139 at hfr
            generalize fr.tmps.getD 140 undef = q140 at hfr
            generalize fr.tmps.getD 141 undef = q141 at hfr
            generalize fr.tmps.getD 142 undef = q142 at hfr
            generalize fr.tmps.getD 143 undef = q143 at hfr
            generalize fr.tmps.getD 144 undef = q144 at hfr
            generalize fr.tmps.getD 145 undef = q145 at hfr
            generalize fr.tmps.getD 146 undef = q146 at hfr
            generalize fr.tmps.getD 147 undef = q147 at hfr
            generalize fr.tmps.getD 148 undef = q148 at hfr
            generalize fr.tmps.getD 149 undef = q149 at hfr hw
            generalize fr.tmps.getD 150 undef = q150 at hfr
            generalize fr.tmps.getD 151 undef = q151 at hfr hz
            subst hfr
            have hq := hw.1
            subst hq
            subst hz
            have HN2 := hide (show Two (fun x => w4.heap.size ≤ x) wf kn ta tb l m (i + 1) (i + 1) ∧ Below w4.heap.size w4 wf from ⟨hw.2.swap, HR2.out.2.trans (hB.below hle4 fun x hx => hx)⟩)
            clear hw hB
            go_wp2_with fail
            go_roundg (12 - (i + 1))
            case measure => omega
            case rel => exact ⟨i + 1, rfl, by omega, by go_num, HN2.out⟩
          -- END REGION mfy
        · have hgm : decide (i < nm) = false := decide_eq_false hlt
-- REGION mfn
          
          refine wp_region_local (by kernel_rfl) (by kernel_rfl) (useList mfnU) [16] (by kernel_rfl) (spR (mfnL tb kn nm mc i ma)) (fun _ _ => True) (Below wx.heap.size wx) (fun _ w w' => Below w.heap.size w w') spR_stays (fun _ _ _ _ _ h _ => h) (fun _ _ => Below.refl _ _) (dsts_lt (N := 168) (by kernel_rfl)) ((Below.refl _ _).drew) (fun _ _ => trivial) (all_ops ?_) ?_
          · refine And.intro ?_ ?_
            · -- 0: slot 135 := Op.move (Operand.tmp 15)
              refine lstep_run fun fr wf left => ?_
              have o15 := (left.old 15 (by kernel_rfl)).trans rfl
              refine ⟨wanted_none rfl, fun K hK => ?_⟩
              have hB := hide left.base
              clear left
              go_simp
              exact hK _ _ rfl hB.out (Below.refl _ _)
            refine And.intro ?_ ?_
            · -- 1: slot 136 := Op.move (Operand.tmp 8)
              refine lstep_run fun fr wf left => ?_
              have o8 := (left.old 8 (by kernel_rfl)).trans rfl
              refine ⟨wanted_none rfl, fun K hK => ?_⟩
              have hB := hide left.base
              clear left
              go_simp
              exact hK _ _ rfl hB.out (Below.refl _ _)
            refine And.intro ?_ ?_
            · -- 2: slot 137 := Op.call { callee := Callee.builtin Builtin.len, args := #[Operand.tmp 136], argTypes := #[
              refine lstep_run fun fr wf left => ?_
              obtain ⟨x1, e1, r1⟩ := left.slot 168 rfl 1 136 _ rfl rfl (by decide) rfl
              have s1 := Eq.symm (show x1 = .slice ma nm mc from r1)
              subst s1
              refine ⟨wanted_none rfl, fun K hK => ?_⟩
              have hB := hide left.base
              clear left
              go_simp
              exact hK _ _ rfl hB.out (Below.refl _ _)
            refine And.intro ?_ ?_
            · -- 3: slot 138 := Op.binOp BinOp.lss 3 (Operand.tmp 135) (Operand.tmp 137) 3
              refine lstep_run fun fr wf left => ?_
              obtain ⟨x0, e0, r0⟩ := left.slot 168 rfl 0 135 _ rfl rfl (by decide) rfl
              have s0 := Eq.symm (show x0 = .int .i64 (i : Int) from r0)
              subst s0
              obtain ⟨x2, e2, r2⟩ := left.slot 168 rfl 2 137 _ rfl rfl (by decide) rfl
              have s2 := Eq.symm (show x2 = .int .i64 (nm : Int) from r2)
              subst s2
              refine ⟨wanted_none rfl, fun K hK => ?_⟩
              have hB := hide left.base
              clear left
              go_simp
              exact hK _ _ rfl hB.out (Below.refl _ _)
            refine And.intro ?_ ?_
            · -- 4: slot 139 := Op.move (Operand.tmp 138)
              refine lstep_run fun fr wf left => ?_
              obtain ⟨x3, e3, r3⟩ := left.slot 168 rfl 3 138 _ rfl rfl (by decide) rfl
              have s3 := Eq.symm (show x3 = .bool false from r3)
              subst s3
              refine ⟨wanted_none rfl, fun K hK => ?_⟩
              have hB := hide left.base
              clear left
              go_simp
              exact hK _ _ rfl hB.out (Below.refl _ _)
            refine And.intro ?_ ?_
            · -- 5: slot 140 := Op.move (Operand.tmp 13)
              refine lstep_skip fun fr wf left => ?_
              obtain ⟨x4, e4, r4⟩ := left.slot 168 rfl 4 139 _ rfl rfl (by decide) rfl
              have s4 := Eq.symm (show x4 = .bool false from r4)
              subst s4
              exact ⟨wanted_no rfl rfl e4 (by decide), rfl⟩
            refine And.intro ?_ ?_
            · -- 6: slot 141 := Op.move (Operand.tmp 8)
              refine lstep_skip fun fr wf left => ?_
              obtain ⟨x4, e4, r4⟩ := left.slot 168 rfl 4 139 _ rfl rfl (by decide) rfl
              have s4 := Eq.symm (show x4 = .bool false from r4)
              subst s4
              exact ⟨wanted_no rfl rfl e4 (by decide), rfl⟩
            refine And.intro ?_ ?_
            · -- 7: slot 142 := Op.move (Operand.tmp 15)
              refine lstep_skip fun fr wf left => ?_
              obtain ⟨x4, e4, r4⟩ := left.slot 168 rfl 4 139 _ rfl rfl (by decide) rfl
              have s4 := Eq.symm (show x4 = .bool false from r4)
              subst s4
              exact ⟨wanted_no rfl rfl e4 (by decide), rfl⟩
            refine And.intro ?_ ?_
            · -- 8: slot 143 := Op.indexAddr 22 (Operand.tmp 141) (Operand.tmp 142)
              refine lstep_skip fun fr wf left => ?_
              obtain ⟨x4, e4, r4⟩ := left.slot 168 rfl 4 139 _ rfl rfl (by decide) rfl
              have s4 := Eq.symm (show x4 = .bool false from r4)
              subst s4
              exact ⟨wanted_no rfl rfl e4 (by decide), rfl⟩
            refine And.intro ?_ ?_
            · -- 9: slot 144 := Op.load 9 (Operand.tmp 143)
              refine lstep_skip fun fr wf left => ?_
              obtain ⟨x4, e4, r4⟩ := left.slot 168 rfl 4 139 _ rfl rfl (by decide) rfl
              have s4 := Eq.symm (show x4 = .bool false from r4)
              subst s4
              exact ⟨wanted_no rfl rfl e4 (by decide), rfl⟩
            refine And.intro ?_ ?_
            · -- 10: slot 145 := Op.move (Operand.tmp 15)
              refine lstep_skip fun fr wf left => ?_
              obtain ⟨x4, e4, r4⟩ := left.slot 168 rfl 4 139 _ rfl rfl (by decide) rfl
              have s4 := Eq.symm (show x4 = .bool false from r4)
              subst s4
              exact ⟨wanted_no rfl rfl e4 (by decide), rfl⟩
            refine And.intro ?_ ?_
            · -- 11: slot 146 := Op.convert 3 45 (Operand.tmp 145)
              refine lstep_skip fun fr wf left => ?_
              obtain ⟨x4, e4, r4⟩ := left.slot 168 rfl 4 139 _ rfl rfl (by decide) rfl
              have s4 := Eq.symm (show x4 = .bool false from r4)
              subst s4
              exact ⟨wanted_no rfl rfl e4 (by decide), rfl⟩
            refine And.intro ?_ ?_
            · -- 12: slot 147 := Op.move (Operand.tmp 0)
              refine lstep_skip fun fr wf left => ?_
              obtain ⟨x4, e4, r4⟩ := left.slot 168 rfl 4 139 _ rfl rfl (by decide) rfl
              have s4 := Eq.symm (show x4 = .bool false from r4)
              subst s4
              exact ⟨wanted_no rfl rfl e4 (by decide), rfl⟩
            refine And.intro ?_ ?_
            · -- 13: slot 148 := Op.call { callee := Callee.value (Operand.func 25), args := #[Operand.tmp 146, Operand.tmp
              refine lstep_skip fun fr wf left => ?_
              obtain ⟨x4, e4, r4⟩ := left.slot 168 rfl 4 139 _ rfl rfl (by decide) rfl
              have s4 := Eq.symm (show x4 = .bool false from r4)
              subst s4
              exact ⟨wanted_no rfl rfl e4 (by decide), rfl⟩
            refine And.intro ?_ ?_
            · -- 14: slot 149 := Op.call { callee := Callee.value (Operand.func 26), args := #[Operand.tmp 140, Operand.tmp
              refine lstep_skip fun fr wf left => ?_
              obtain ⟨x4, e4, r4⟩ := left.slot 168 rfl 4 139 _ rfl rfl (by decide) rfl
              have s4 := Eq.symm (show x4 = .bool false from r4)
              subst s4
              exact ⟨wanted_no rfl rfl e4 (by decide), rfl⟩
            refine And.intro ?_ ?_
            · -- 15: slot 150 := Op.binOp BinOp.neq 3 (Operand.tmp 149) (Operand.const (Value.int IntKind.i64 0)) 3
              refine lstep_skip fun fr wf left => ?_
              obtain ⟨x4, e4, r4⟩ := left.slot 168 rfl 4 139 _ rfl rfl (by decide) rfl
              have s4 := Eq.symm (show x4 = .bool false from r4)
              subst s4
              exact ⟨wanted_no rfl rfl e4 (by decide), rfl⟩
            refine And.intro ?_ ?_
            · -- 16: slot 151 := Op.pick (Operand.tmp 139) (Operand.tmp 150) (Operand.const (Value.bool false))
              refine lstep_run fun fr wf left => ?_
              obtain ⟨x4, e4, r4⟩ := left.slot 168 rfl 4 139 _ rfl rfl (by decide) rfl
              have s4 := Eq.symm (show x4 = .bool false from r4)
              subst s4
              obtain ⟨x15, e15, r15⟩ := left.slot 168 rfl 15 150 _ rfl rfl (by decide) rfl
              have s15 := Eq.symm (show x15 = undef from r15)
              subst s15
              refine ⟨wanted_none rfl, fun K hK => ?_⟩
              have hB := hide left.base
              clear left
              go_simp
              exact hK _ _ rfl hB.out (Below.refl _ _)
            exact trivial
          · intro fr wf hB hs hd hall hkeep
            have hz : fr.tmps.getD 151 undef = .bool false := hall 16 _ rfl (by simp)
            have hfr := act_ext (frame_setL hs hkeep [135, 136, 137, 138, 139, 140, 141, 142, 143, 144, 145, 146, 147, 148, 149, 150, 151] (by kernel_rfl)) hd
            clear hall hkeep hs hd
            dsimp only [List.foldl, List.set_cons_zero, List.set_cons_succ] at hfr
            generalize fr.tmps.getD 135 undef = q135 at hfr
            generalize fr.tmps.getD 136 undef = q136 at hfr
            generalize fr.tmps.getD 137 undef = q137 at hfr
            generalize fr.tmps.getD 138 undef = q138 at hfr
            generalize fr.tmps.getD 139 undef = q139 at hfr
            generalize fr.tmps.getD 140 undef = q140 at hfr
            generalize fr.tmps.getD 141 undef = q141 at hfr
            generalize fr.tmps.getD 142 undef = q142 at hfr
            generalize fr.tmps.getD 143 undef = q143 at hfr
            generalize fr.tmps.getD 144 undef = q144 at hfr
            generalize fr.tmps.getD 145 undef = q145 at hfr
            generalize fr.tmps.getD 146 undef = q146 at hfr
            generalize fr.tmps.getD 147 undef = q147 at hfr
            generalize fr.tmps.getD 148 undef = q148 at hfr
            generalize fr.tmps.getD 149 undef = q149 at hfr
            generalize fr.tmps.getD 150 undef = q150 at hfr
            generalize fr.tmps.getD 151 undef = q151 at hfr hz
            subst hfr
            subst hz
            have HN2 := hide (show Two (fun x => w4.heap.size ≤ x) wf kn ta tb l m (i + 1) (i + 1) ∧ Below w4.heap.size w4 wf from ⟨((HR2.out.1.swap.over (by have := HNM.out; omega)).swap).past hB, HR2.out.2.trans (hB.mono HR2.out.2.size)⟩)
            clear hB
            go_wp2_with fail
            go_roundg (12 - (i + 1))
            case measure => omega
            case rel => exact ⟨i + 1, rfl, by omega, by go_num, HN2.out⟩
          -- END REGION mfn
    · have hgn : decide (i < n) = false := decide_eq_false (by omega)
      have hgm : decide (i < nm) = false := decide_eq_false (by omega)
      have HM9 := hide (HM.out.below HR.out.2)
      have HL9 := hide (HL4.out.1.below HR.out.2)
      go_wp2_with fail
      refine (two_has HR.out.1 hk1 hk2 (by have := HN.out; omega) HLS.out (by have := HN.out; omega) _ HL9.out).mono ?_
      rintro e w9 ⟨rfl, HB9⟩
      go_wp2_with fail
      refine (two_has (HR.out.1.past HB9.out).swap hk1 hk2 (by have := HNM.out; omega) HMS.out (by have := HNM.out; omega) _ (HM9.out.below HB9.out)).mono ?_
      rintro e w10 ⟨rfl, HB10⟩
      go_wp2_with fail
      refine (two_has ((HR.out.1.past HB9.out).past HB10.out) hk1 hk2 (by have := HN.out; omega) HLS.out (by have := HN.out; omega) _ ((HL9.out.below HB9.out).below HB10.out)).mono ?_
      rintro e w11 ⟨rfl, HB11⟩
      have HEND := hide (show Below w.heap.size w w11 from by
        have h1 := HL4.out.2.size
        have h2 := HR.out.2.size
        have h3 := HB9.out.size
        have h4 := HB10.out.size
        exact (((HL4.out.2.trans (HR.out.2.mono h1)).trans (HB9.out.mono (by omega))).trans (HB10.out.mono (by omega))).trans (HB11.out.mono (by omega)))
      go_wp2_with fail
      go_ret
      exact ⟨rfl, HEND.out⟩
end Go.Proofs.YtbfbajfdlkgloaaGreatDoor
