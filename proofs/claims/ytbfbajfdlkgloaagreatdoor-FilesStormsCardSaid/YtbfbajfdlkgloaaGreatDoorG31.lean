/-
  The program's store: look.
-/
import Derived.Test.YtbfbajfdlkgloaaGreatDoorG30

namespace Go.Proofs.YtbfbajfdlkgloaaGreatDoor
open Go Go.RowKit Go.Maps
/-- What look leaves. -/
def LookOut (w : World) (T : Fl.Blk) (dg : Nat) (k : Nat) (ms : List Rec.Mk) (R : Option Nat) (e : Ending) (w' : World) : Prop :=
  Moved (fun b => b = T.g) w w' ∧ ((R = none ∧ e = .returned (.int .i64 190)) ∨ ∃ (c : Nat) (T' : Fl.Blk), R = some c ∧ e = .returned (.int .i64 0) ∧ T'.g = T.g ∧ (∀ b, T'.ev.ownBlock = some b → w.heap.size ≤ b) ∧ StoreAt w' T' dg ⟨k, ms.map (·.items), c, false⟩)
def LookAt (w : World) (T : Fl.Blk) (D : Dk.Blk) (d : Dk.St) (k : Nat) (A N : ByteArray) (ms : List Rec.Mk) (R : Option Nat) (mv : Value) (i c : Nat) (wr : World) : Prop :=
  ∃ T' : Fl.Blk, T'.g = T.g ∧ (∀ b, T'.ev.ownBlock = some b → w.heap.size ≤ b) ∧ StoreAt wr T' D.g ⟨k, (ms.take i).map (·.items), c, false⟩ ∧ Fl.lookF k A N (ms.drop i) i (((ms.take i).map (·.items)).getLastD 0) c = R ∧ Moved (fun b => b = T.g) w wr ∧ DiskAt wr D d ∧ wr.ownsRow 0 113 5 mv ms.length (flatM ms) ∧ c < 4294967296
/-- The nodes' records read so far. -/
def MadeAt (w : World) (k : Nat) (N : ByteArray) (p j : Nat) (v : Value) (u : World) : Prop := u.ownsRow w.heap.size 9 1 v j ((Fl.madeF N p j).map Value.string) ∧ Fl.madeOk k N p j = true ∧ Below w.heap.size w u
def lk29L (T : Fl.Blk) (D : Dk.Blk) (s6 : Fl.St) (ev : Value) (bm mi : Nat) (W7 : World) : List Sp :=
  [.is (.pointer (some ⟨T.g, 0, none⟩)), .is (.pointer (some ⟨T.g, 0, none⟩)), .is (.pointer (some ⟨T.g, 0, none⟩)), .is (.pointer (some ⟨T.g, 2, none⟩)), .is (ev), .is (.pointer (some ⟨bm, 2, none⟩)), .is (.int .u64 (mi : Int)), .is (.int .i64 (mi : Int)), .rel (fun v u => ∃ B, v = .slice (some ⟨B, 0, none⟩) 1 1 ∧ u.heap[B]? = some (.cells #[.int .i64 (mi : Int)] 3 (0, 0))) (fun _ _ _ h hb => by obtain ⟨B, h1, h3⟩ := h; exact ⟨B, h1, blk_stable _ _ h3 hb⟩), .rel (fun v u => Say8 (⟨T.g, ev⟩ : Fl.Blk) D.g s6 mi W7 v u) (fun _ _ _ h hb => h.past hb), .is (.pointer (some ⟨T.g, 0, none⟩)), .is (.pointer (some ⟨T.g, 2, none⟩)), .say (fun u => Say12 (⟨T.g, ev⟩ : Fl.Blk) D.g s6 mi W7 u) (fun _ _ h hb => h.past hb)]
def lk29U : List (List Nat) := [[], [], [1], [2], [3], [], [5], [6], [7], [4, 8], [0], [10], [9, 11]]
set_option maxHeartbeats 8000000 in
set_option maxRecDepth 100000 in
theorem storeLook_val (T : Fl.Blk) (D : Dk.Blk) (d : Dk.St) (k : Nat) (A N : ByteArray) (mv : Value) (ms : List Rec.Mk) (R : Option Nat) (w : World) (h : StoreAt w T D.g ⟨k, [], 0, false⟩) (hev : T.ev = .slice none 0 0) (hd : DiskAt w D d) (hap : T.g ≠ D.g ∧ T.g ≠ D.mb ∧ Dk.slBlk D.kv ≠ some T.g)
    (hmv : w.ownsRow 0 113 5 mv ms.length (flatM ms)) (hmg : mv.ownBlock ≠ some T.g) (hA : A = (Dk.get d.files Fl.nItems).now) (hN : N = (Dk.get d.files Fl.nNodes).now) (hup : d.down = false) (hok : Fl.tooShort A N ms = false → Fl.MarksOk A N ms)
    (hmi : ∀ m ∈ ms, m.ok) (hml : ms.length ≤ 65536) (hR : (if Fl.tooShort A N ms = true then none else Fl.lookF k A N ms 0 0 0) = R) :
    Calls Tryz.prog 48 #[.pointer (some ⟨T.g, 0, none⟩), mv] w (LookOut w T D.g k ms R) := by
  have c0 := h.c0
  have c1 := h.c1
  have hks := h.ok.strength
  have hAs : A.size ≤ 268435456 := by rw [hA]; exact (Dk.get_sizes hd.ok Fl.nItems).1
  have hNs : N.size ≤ 268435456 := by rw [hN]; exact (Dk.get_sizes hd.ok Fl.nNodes).1
  obtain ⟨n, hn⟩ : ∃ n, n = ms.length := ⟨_, rfl⟩
  rw [← hn] at hmv hml
  obtain ⟨am, lm, zm, rfl⟩ := row_slice hmv
  have hlm : lm = n := by
    obtain ⟨_, ⟨h2, h3⟩ | ⟨g, cap, cur, h2, _⟩⟩ := hmv
    · injection h2 with h4 h5 h6; omega
    · injection h2
  subst hlm
  have hsz1 : Dk.size d Fl.nItems = (A.size : Int) := by unfold Dk.size; rw [if_neg (by rw [hup]; decide), hA]
  have hsz2 : Dk.size d Fl.nNodes = (N.size : Int) := by unfold Dk.size; rw [if_neg (by rw [hup]; decide), hN]
  have HT := hide h
  have HEV := hide hev
  have HD := hide hd
  have HAP := hide hap
  have HMV := hide hmv
  have HMG := hide hmg
  have HA := hide hA
  have HN := hide hN
  have HUP := hide hup
  have HOK := hide hok
  have HMI := hide hmi
  have HR := hide hR
  have HNN := hide hn
  have HS1 := hide hsz1
  have HS2 := hide hsz2
  clear h hev hd hap hmv hmg hA hN hup hok hmi hR hsz1 hsz2 hn
  go_enter Tryz.func48, Tryz.ntmps48
  go_upto_if 23 with (fail)
  go_cut [] from 24 to 48 (fun wx => Hid (Fl.tooShort A N ms = false ∧ Below w.heap.size w wx))
  case first =>
    by_cases hn0 : lm = 0
    · subst hn0
      have HV := hide (show Fl.tooShort A N ms = false by rw [List.eq_nil_of_length_eq_zero HNN.out.symm]; rfl)
      go_wp2_with fail
      go_meet
      case rel => exact ⟨HV.out, Below.refl _ _⟩
    · obtain ⟨q, hq⟩ : ∃ q, lm = q + 1 := ⟨lm - 1, by omega⟩
      subst hq
      have hn := HNN.out
      obtain ⟨m, hm⟩ : ∃ m, ms[q]? = some m := ⟨_, List.getElem?_eq_getElem (show q < ms.length by omega)⟩
      obtain ⟨b, rfl, hbl, hz, g0, g1, g2, g3, g4⟩ := mark_cells HMV.out hm (by omega)
      have hmo := HMI.out m (List.mem_of_getElem? hm)
      have HSH := hide (show Fl.tooShort A N ms = decide (A.size < m.items ∨ N.size < m.nodes) from by
        unfold Fl.tooShort
        rw [List.getLast?_eq_getElem?, ← hn, Nat.add_sub_cancel, hm])
      obtain ⟨mk, ms1, mi, mn, mc⟩ := m
      obtain ⟨hm1, hm2, hm3, hm4, hm5⟩ := hmo
      dsimp only at g0 g1 g2 g3 g4 hm1 hm2 hm3 hm4 hm5 HSH
      have hqi : (0 : Int) < (q : Int) + 1 := by omega
      clear hn hm hm1 hn0
      go_upto_region 4 with (fail)
      obtain ⟨W, hW⟩ : ∃ u, u = w.alloc (.cells #[.int .i64 mk, .int .u64 (ms1 : Int), .int .u64 (mi : Int), .int .u64 (mn : Int), .int .u32 (mc : Int)] 113) := ⟨_, rfl⟩
      obtain ⟨bm, hbm⟩ : ∃ b, b = w.heap.size := ⟨_, rfl⟩
      have hWB : Below w.heap.size w W := by rw [hW]; exact (Below.refl _ _).alloc (Nat.le_refl _) _
      have hWb : W.heap[bm]? = some (.cells #[.int .i64 mk, .int .u64 (ms1 : Int), .int .u64 (mi : Int), .int .u64 (mn : Int), .int .u32 (mc : Int)] 113 (0, 0)) := by rw [hW, hbm]; exact alloc_at _ _
      have HDW := hide (HD.out.past hWB)
      have c0 : W.cell? ⟨T.g, 0, none⟩ = some (.pointer (some ⟨D.g, 0, none⟩)) := (HT.out.past hWB).c0
      have m2 : W.cell? ⟨bm, 2, none⟩ = some (.int .u64 (mi : Int)) := (cell_blk hWb 2).trans rfl
      have m3 : W.cell? ⟨bm, 3, none⟩ = some (.int .u64 (mn : Int)) := (cell_blk hWb 3).trans rfl
      rw [← hW, ← hbm]
      have HWB := hide hWB
      clear hW hbm hWB hWb g0 g1 g2 g3 g4
      have s1 : Dk.size d ⟨#[105, 116, 101, 109, 115]⟩ = (A.size : Int) := HS1.out
      have s2 : Dk.size d ⟨#[110, 111, 100, 101, 115]⟩ = (N.size : Int) := HS2.out
      by_cases p1 : A.size < mi
      · have hR := HR.out
        rw [if_pos (by rw [HSH.out]; exact decide_eq_true (.inl p1))] at hR
        have HNO := hide hR
        have q1 : decide (A.size < mi) = true := decide_eq_true p1
        clear hR p1
        go_quiet ((go_at_call 24; exact Calls.quiet_of_same (diskSize_any D d _ _ (HDW.out.past (below_drewN (Below.refl _ _) _)) (by decide))))
        go_wp2_with fail
        go_ret
        exact ⟨Moved.of_below (below_drewN HWB.out _), .inl ⟨HNO.out.symm, rfl⟩⟩
      · have q1 : decide (A.size < mi) = false := decide_eq_false p1
        by_cases p2 : N.size < mn
        · have hR := HR.out
          rw [if_pos (by rw [HSH.out]; exact decide_eq_true (.inr p2))] at hR
          have HNO := hide hR
          have q2 : decide (N.size < mn) = true := decide_eq_true p2
          clear hR p1 p2
          go_quiet ((go_at_call 24; exact Calls.quiet_of_same (diskSize_any D d _ _ (HDW.out.past (below_drewN (Below.refl _ _) _)) (by decide))))
          go_wp2_with fail
          go_ret
          exact ⟨Moved.of_below (below_drewN HWB.out _), .inl ⟨HNO.out.symm, rfl⟩⟩
        · have q2 : decide (N.size < mn) = false := decide_eq_false p2
          have HV := hide (show Fl.tooShort A N ms = false by rw [HSH.out]; exact decide_eq_false (by omega))
          clear p1 p2
          go_quiet ((go_at_call 24; exact Calls.quiet_of_same (diskSize_any D d _ _ (HDW.out.past (below_drewN (Below.refl _ _) _)) (by decide))))
          go_wp2_with fail
          go_meet
          case rel => exact ⟨HV.out, below_drewN HWB.out _⟩
  case rest =>
    obtain ⟨hsh, hb0⟩ := hcut.out
    have hR := HR.out
    rw [if_neg (by rw [hsh]; decide)] at hR
    have HOKM := hide (HOK.out hsh)
    have HL0 := hide (show LookAt w T D d k A N ms R (.slice am lm zm) 0 0 wc from
      ⟨T, rfl, (by rw [HEV.out]; intro b hb; cases hb), HT.out.past hb0, hR, Moved.of_below hb0, HD.out.past hb0, by rw [← HNN.out]; exact own_below HMV.out hb0, by decide⟩)
    have HB0 := hide hb0
    clear hcut hsh hb0 hR c0 c1
    go_upto_block 0 with (fail)
    go_wp2_with fail
    go_loopg [51] lm (fun g v51 wr => ∃ (i c : Nat), g = lm - i ∧ i ≤ lm ∧ v51 = .int .i64 (i : Int) ∧ Hid (LookAt w T D d k A N ms R (.slice am lm zm) i c wr))
    case atStart => exact ⟨0, 0, rfl, Nat.zero_le _, rfl, HL0.out⟩
    case round =>
      obtain ⟨i, c, rfl, hil, rfl, HL⟩ := hrel
      by_cases hlt : i < lm
      · obtain ⟨⟨tg, ev⟩, hTg, hTe, hS, hLk, hMv, hDr, hrow, hcl⟩ := HL.out
        have hTg2 : tg = T.g := hTg
        subst hTg2
        have hTe2 : ∀ b, ev.ownBlock = some b → w.heap.size ≤ b := hTe
        obtain ⟨m, hm⟩ : ∃ m, ms[i]? = some m := ⟨_, List.getElem?_eq_getElem (show i < ms.length by rw [← HNN.out]; exact hlt)⟩
        have hrow2 : wr.ownsRow 0 113 5 (.slice am lm zm) lm (flatM ms) := by have h9 := hrow; rw [← HNN.out] at h9; exact h9
        obtain ⟨b, rfl, hbl, hz, g0, g1, g2, g3, g4⟩ := mark_cells hrow2 hm hlt
        have hmo := HMI.out m (List.mem_of_getElem? hm)
        have hle := HOKM.out.endLe hm
        have hit := HOKM.out.items m (List.mem_of_getElem? hm)
        have hnd := HOKM.out.nodesAt i m hm
        have hst := Fl.look_step (k := k) (A := A) (N := N) (e := ((ms.take i).map (·.items)).getLastD 0) (c := c) hm
        obtain ⟨e, he⟩ : ∃ e, e = ((ms.take i).map (·.items)).getLastD 0 := ⟨_, rfl⟩
        rw [hLk, ← he] at hst
        rw [← he] at hle
        have HEE := hide he
        have HM := hide hm
        obtain ⟨mk, ms1, mi, mn, mc⟩ := m
        obtain ⟨hm1, hm2, hm3, hm4, hm5⟩ := hmo
        dsimp only at g0 g1 g2 g3 g4 hm1 hm2 hm3 hm4 hm5 hle hit hnd hst
        have HST := hide hst
        have HND := hide hnd
        have HAW := hide (show Fl.Away ⟨T.g, ev⟩ D from by
          have h1 := HD.out.glt
          have h2 := HD.out.map.lt
          refine ⟨⟨HAP.out.1, HAP.out.2.1⟩, fun b hb => ?_, fun b hb => ?_⟩
          · have := hTe2 b hb
            exact ⟨by omega, by omega⟩
          · have h3 := HD.out.kvlt hb
            refine ⟨fun e => HAP.out.2.2 (by rw [hb, e]), fun e => ?_⟩
            have := hTe2 b e
            omega)
        have HSR := hide hS
        have HTE := hide hTe2
        have HMVR := hide hMv
        have HDR := hide hDr
        have HROW := hide hrow
        have hlt2 : (i : Int) < lm := by omega
        clear he hm hst hnd hm1 hS hTe hTe2 hLk hMv hDr hrow hTg
        go_upto_region 9 with (fail)
        obtain ⟨W, hW⟩ : ∃ u, u = wr.alloc (.cells #[.int .i64 mk, .int .u64 (ms1 : Int), .int .u64 (mi : Int), .int .u64 (mn : Int), .int .u32 (mc : Int)] 113) := ⟨_, rfl⟩
        obtain ⟨bm, hbm⟩ : ∃ b, b = wr.heap.size := ⟨_, rfl⟩
        have hWB : Below wr.heap.size wr W := by rw [hW]; exact (Below.refl _ _).alloc (Nat.le_refl _) _
        have hWb : W.heap[bm]? = some (.cells #[.int .i64 mk, .int .u64 (ms1 : Int), .int .u64 (mi : Int), .int .u64 (mn : Int), .int .u32 (mc : Int)] 113 (0, 0)) := by rw [hW, hbm]; exact alloc_at _ _
        rw [← hW, ← hbm]
        obtain ⟨si, hsi⟩ : ∃ s : Fl.St, s = ⟨k, (ms.take i).map (·.items), c, false⟩ := ⟨_, rfl⟩
        have HSI := hide hsi
        have HSW := hide (show StoreAt W ⟨T.g, ev⟩ D.g si from by rw [hsi]; exact HSR.out.past hWB)
        have HDW := hide (HDR.out.past hWB)
        have HBM := hide (show w.heap.size ≤ bm ∧ T.g < w.heap.size ∧ ∀ b, ev.ownBlock = some b → b ≠ bm from ⟨by rw [hbm]; exact HMVR.out.size, HT.out.lt, fun b hb e => by have := (HSR.out.row.lt b hb).2; omega⟩)
        have HWB := hide (And.intro hWb hWB)
        have HEF := hide (show e = si.fin by rw [hsi]; exact HEE.out)
        have c0 : W.cell? ⟨T.g, 0, none⟩ = some (.pointer (some ⟨D.g, 0, none⟩)) := HSW.out.c0
        have m2 : W.cell? ⟨bm, 2, none⟩ = some (.int .u64 (mi : Int)) := (cell_blk hWb 2).trans rfl
        obtain ⟨X, hX⟩ : ∃ X, X = A.extract e mi := ⟨_, rfl⟩
        have hXs : X.size ≤ 268435456 := by rw [hX, ByteArray.size_extract]; omega
        have HX := hide hX
        have HRD := hide (show Dk.read d Fl.nItems (e : Int) ((mi : Int) - (e : Int)) = (X, 0) from by
          rw [hX]
          exact Fl.read_in d Fl.nItems A HA.out.symm HUP.out hle hit _ _ rfl rfl)
        have hoff : (Lit.int .i64 (e : Int)).wf = true := Rec.wf_i64 (by omega) (by omega)
        have hlen : (Lit.int .i64 ((mi : Int) - (e : Int))).wf = true := Rec.wf_i64 (by omega) (by omega)
        have z1 : IntKind.i64.wrap ((mi : Int) - (e : Int)) = (mi : Int) - (e : Int) := IntWalk.i64_in _ (by omega)
        have HLE := hide (And.intro hle hit)
        clear hW hbm hWB hWb hsi hX hle hit g0 g1 g2 g3 g4 hrow2
        have hmi : mi ≤ 268435456 := by have h1 := HLE.out; omega
        go_quiet ((first | (go_at_call 61; exact Calls.quiet_of_same (storeEnd_val ⟨T.g, ev⟩ D.g si e _ (HSW.out.past (below_drewN (Below.refl _ _) _)) HEF.out)) | (go_at_call 95; exact Calls.quiet_of_same (diskRead_val D d _ _ _ X 0 _ (HDW.out.past (below_drewN (Below.refl _ _) _)) (by decide) hoff hlen HRD.out))))
        clear z1
        generalize hW2 : World.drewN W nq = W2
        have hb2 : Below W.heap.size W W2 := by rw [← hW2]; exact below_drewN (Below.refl _ _) _
        have HQ2 := hide (show StoreAt W2 ⟨T.g, ev⟩ D.g si ∧ DiskAt W2 D d ∧ W2.heap[bm]? = some (.cells #[.int .i64 mk, .int .u64 (ms1 : Int), .int .u64 (mi : Int), .int .u64 (mn : Int), .int .u32 (mc : Int)] 113 (0, 0)) ∧ Below wr.heap.size wr W2 from
          ⟨HSW.out.past hb2, HDW.out.past hb2, (hb2.block bm (heap_lt HWB.out.1)).trans HWB.out.1, HWB.out.2.trans (hb2.mono HWB.out.2.size)⟩)
        clear hW2 hb2 c0 m2 hoff hlen
        have hst := HST.out
        rw [← HX.out] at hst
        cases hrp : Rec.readPayB X with
        | none =>
          rw [if_pos (.inl (by unfold Fl.payOk; rw [hrp]))] at hst
          have HNO := hide hst
          have HP := hide (show Rec.payV (Rec.readPayB X) = .tuple #[.string ⟨#[]⟩, .int .i64 0, .int .i64 180] by rw [hrp]; rfl)
          clear hst hrp
          go_wp2_with fail
          refine (readPay_val X _ _ (by omega) HP.out).mono ?_
          rintro e w3 ⟨rfl, hb3⟩
          have HB3 := hide hb3
          clear hb3
          go_wp2_with fail
          go_ret
          exact ⟨HMVR.out.then (Moved.of_below (HQ2.out.2.2.2.trans (HB3.out.mono HQ2.out.2.2.2.size))), .inl ⟨HNO.out, rfl⟩⟩
        | some pr =>
          obtain ⟨it, nn⟩ := pr
          have hnx := (Rec.readPay_laid hrp).1
          have HP := hide (show Rec.payV (Rec.readPayB X) = .tuple #[.string it, .int .i64 (nn : Int), .int .i64 0] by rw [hrp]; rfl)
          by_cases hnn : nn = X.size
          · have hpo : Fl.payOk X = true := by unfold Fl.payOk; rw [hrp]; show (nn == X.size) = true; rw [beq_iff_eq]; exact hnn
            have hnz : ((nn : Int) != X.size) = false := by simp [hnn]
            have HPO := hide hpo
            have HST2 := hide hst
            have HHN := hide hnn
            clear hst hpo hrp hnn
            go_wp2_with fail
            refine (readPay_val X _ _ (by omega) HP.out).mono ?_
            rintro e w3 ⟨rfl, hb3⟩
            have HW3 := hide (show StoreAt w3 ⟨T.g, ev⟩ D.g si ∧ DiskAt w3 D d ∧ w3.heap[bm]? = some (.cells #[.int .i64 mk, .int .u64 (ms1 : Int), .int .u64 (mi : Int), .int .u64 (mn : Int), .int .u32 (mc : Int)] 113 (0, 0)) ∧ Below wr.heap.size wr w3 from
              ⟨HQ2.out.1.past hb3, HQ2.out.2.1.past hb3, (hb3.block bm (heap_lt HQ2.out.2.2.1)).trans HQ2.out.2.2.1, HQ2.out.2.2.2.trans (hb3.mono HQ2.out.2.2.2.size)⟩)
            clear hb3
            obtain ⟨Q0, hQ0⟩ : ∃ q, q = Fl.nodes i := ⟨_, rfl⟩
            obtain ⟨Q1, hQ1⟩ : ∃ q, q = Fl.nodes (i + 1) := ⟨_, rfl⟩
            have hq01 : Q0 ≤ Q1 := by rw [hQ0, hQ1]; exact Fl.nodes_mono i
            have hq1 : Q1 ≤ 140000 := by have := nodes_le (i + 1); omega
            have hqN : 40 * Q1 ≤ N.size := by
              rw [hQ1]
              refine Nat.le_trans (Nat.mul_le_mul_left 40 (Fl.nodes_le_of (show i + 1 ≤ ms.length by rw [← HNN.out]; exact hlt))) HOKM.out.long
            have HST3 := hide (show R = if Fl.payOk X = false ∨ Fl.madeOk k N Q0 (Q1 - Q0) = false ∨ Rec.chainB c X (Fl.madeF N Q0 (Q1 - Q0)) ≠ mc then none else Fl.lookF k A N (List.drop (i + 1) ms) (i + 1) mi mc by rw [hQ0, hQ1]; exact HST2.out)
            have HQ0 := hide hQ0
            have HQ1 := hide hQ1
            clear hQ0 hQ1 HST HST2
            go_wp2_with fail
            refine (nodes_val i Q0 _ (by omega) HQ0.out).mono ?_
            rintro e w4 ⟨rfl, he⟩
            subst he
            clear hnz
            have hn1 : (i : Int) + 1 = ((i + 1 : Nat) : Int) := by omega
            have HN1 := hide hn1
            clear hn1
            go_upto_block 2 with (fail)
            go_wp2_with fail
            go_loopg [14, 15] (Q1 - Q0) (fun g v14 v15 wq => ∃ j : Nat, g = Q1 - Q0 - j ∧ j ≤ Q1 - Q0 ∧ v15 = .int .i64 ((Q0 + j : Nat) : Int) ∧ Hid (MadeAt w4 k N Q0 j v14 wq))
            case atStart => exact ⟨0, rfl, Nat.zero_le _, rfl, World.ownsRow_nil _ _ _ _, rfl, Below.refl _ _⟩
            case round =>
              obtain ⟨j, rfl, hj, rfl, HMD⟩ := hrel
              obtain ⟨p, hp⟩ : ∃ p, p = Q0 + j := ⟨_, rfl⟩
              rw [← hp]
              have HPP := hide hp
              have hpq : p ≤ Q1 := by omega
              clear hp
              go_wp2_with fail
              refine (nodes_valI (i + 1) Q1 _ _ (by omega) HQ1.out HN1.out).mono ?_
              rintro e w5 ⟨rfl, he⟩
              subst he
              have HS5 := hide (show StoreAt w5 ⟨T.g, ev⟩ D.g si ∧ DiskAt w5 D d ∧ w5.heap[bm]? = some (.cells #[.int .i64 mk, .int .u64 (ms1 : Int), .int .u64 (mi : Int), .int .u64 (mn : Int), .int .u32 (mc : Int)] 113 (0, 0)) ∧ Below wr.heap.size wr w5 from by
                have hb := HMD.out.2.2
                exact ⟨HW3.out.1.past hb, HW3.out.2.1.past hb, (hb.block bm (heap_lt HW3.out.2.2.1)).trans HW3.out.2.2.1, HW3.out.2.2.2.trans (hb.mono HW3.out.2.2.2.size)⟩)
              have c0 := HS5.out.1.c0
              have c1 : w5.cell? ⟨T.g, 1, none⟩ = some (.int .i64 (k : Int)) := by rw [HS5.out.1.c1, HSI.out]
              by_cases hlt3 : p < Q1
              · have hd3 : decide (p < Q1) = true := decide_eq_true hlt3
                obtain ⟨Y, hY⟩ : ∃ Y, Y = N.extract (40 * p) (40 * p + 40) := ⟨_, rfl⟩
                have hYs : Y.size ≤ 40 := by rw [hY, ByteArray.size_extract]; omega
                have HY := hide hY
                have HRY := hide (show Dk.read d Fl.nNodes (40 * (p : Int)) 40 = (Y, 0) from by
                  rw [hY]
                  exact Fl.read_in d Fl.nNodes N HN.out.symm HUP.out (by omega) (by omega) _ _ (by omega) (by omega))
                have hoff : (Lit.int .i64 (40 * (p : Int))).wf = true := Rec.wf_i64 (by omega) (by omega)
                have hkw : (Lit.int .i64 (k : Int)).wf = true := Rec.wf_i64 (by have h1 : 1 ≤ k := hks.1; omega) (by have h1 : k ≤ 32 := hks.2; omega)
                have hkr : ¬ ((k : Int) < 1 ∨ 32 < (k : Int)) := by have h1 : 1 ≤ k := hks.1; have h2 : k ≤ 32 := hks.2; omega
                have HKR := hide hkr
                clear hY hkr
                go_wp2_with fail
                refine (diskRead_val D d _ _ _ Y 0 _ HS5.out.2.1 (by decide) hoff (by decide) HRY.out).mono ?_
                rintro e w6 ⟨rfl, he⟩
                subst he
                by_cases hnk : Rec.nodeOk k p Y = true
                · have HP2 := hide (show Rec.readNodeV (k : Int) p Y = .tuple #[.string ⟨((bytesOf Y).take k).toArray⟩, .int .i64 0] by
                    unfold Rec.readNodeV
                    rw [if_neg HKR.out, Int.toNat_natCast, if_pos hnk])
                  have HNK := hide hnk
                  clear hnk
                  go_wp2_with fail
                  refine (readNode_val (k : Int) p Y _ _ hkw (by omega) (by omega) HP2.out).mono ?_
                  rintro e w7 ⟨rfl, hb7⟩
                  have HB7 := hide hb7
                  have HZ7 := hide (HMD.out.2.2.trans (hb7.mono HMD.out.2.2.size))
                  clear hb7
                  go_wp2_with (at_builtin; refine wpList_append_slv rfl _ _ 22 rfl w4.heap.size 9 _ 16 Tryz.underlying22 info_strF rfl u14 j _ rfl (own_below (own_below HMD.out.1 HB7.out) ((Below.refl _ _).alloc (Nat.le_refl _) _)) _ [.string Y] rfl (slv_new w7 [.string Y] 9 1 rfl) (by simp [Value.oneCell']) (by unfold maxLen; simp; omega) (by simp; omega) (by have := HZ7.out.size; simp; omega) ?_)
                  intro v8 w8 hown8 hgr
                  have hal : Below w7.heap.size w7 (w7.alloc (.cells #[.string Y] 9)) := (Below.refl _ _).alloc (Nat.le_refl _) _
                  have HO := hide (show MadeAt w4 k N Q0 (j + 1) v8 w8 from by
                    refine ⟨?_, ?_, ?_⟩
                    · have h1 := Fl.madeF_snoc N j Q0
                      rw [h1, List.map_append, ← HPP.out, ← HY.out]
                      exact hown8
                    · rw [Fl.madeOk_snoc, HMD.out.2.1, ← HPP.out, ← HY.out, HNK.out]; rfl
                    · have h1 : Below w4.heap.size w4 (w7.alloc (.cells #[.string Y] 9)) := HZ7.out.trans (hal.mono HZ7.out.size)
                      exact below_grown h1 (own_below (own_below HMD.out.1 HB7.out) hal) hgr (Nat.le_refl _) (by have := HZ7.out.size; simp; omega))
                  have HJ := hide (show j + 1 ≤ Q1 - Q0 ∧ ((p : Int) + 1) = ((Q0 + (j + 1) : Nat) : Int) from by have h1 := HPP.out; omega)
                  have hps : (p : Int) + 1 ≤ 140000 := by omega
                  clear hown8 hgr hal
                  go_wp2_with fail
                  go_roundg (Q1 - Q0 - (j + 1))
                  case measure => have := HJ.out; omega
                  case rel => exact ⟨j + 1, rfl, HJ.out.1, congrArg (Value.int .i64) HJ.out.2, HO.out⟩
                · have HP2 := hide (show Rec.readNodeV (k : Int) p Y = .tuple #[.string ⟨#[]⟩, .int .i64 180] by
                    unfold Rec.readNodeV
                    rw [if_neg HKR.out, Int.toNat_natCast, if_neg hnk])
                  have hst := HST3.out
                  rw [if_pos (.inr (.inl (Fl.madeOk_bad (j := j) (by have h1 := HPP.out; omega) (by rw [← HPP.out, ← HY.out]; simpa using hnk))))] at hst
                  have HNO := hide hst
                  clear hnk hst
                  go_wp2_with fail
                  refine (readNode_val (k : Int) p Y _ _ hkw (by omega) (by omega) HP2.out).mono ?_
                  rintro e w7 ⟨rfl, hb7⟩
                  have HB7 := hide hb7
                  clear hb7
                  go_wp2_with fail
                  go_ret
                  exact ⟨HMVR.out.then (Moved.of_below (HS5.out.2.2.2.trans (HB7.out.mono HS5.out.2.2.2.size))), .inl ⟨HNO.out, rfl⟩⟩
              · have hd3 : decide (p < Q1) = false := decide_eq_false hlt3
                have hjc : j = Q1 - Q0 := by have h1 := HPP.out; omega
                obtain ⟨recs, hrecs⟩ : ∃ r, r = Fl.madeF N Q0 j := ⟨_, rfl⟩
                have hrl : recs.length = j := by rw [hrecs]; exact Fl.madeF_len N j Q0
                have hrz : Rec.sizes recs ≤ 40 * j := by rw [hrecs]; exact Fl.madeF_sizes N j Q0
                obtain ⟨C, hC⟩ : ∃ C, C = Rec.chainB c X recs := ⟨_, rfl⟩
                have hCl : C < 4294967296 := by rw [hC]; exact Rec.sumB_lt _
                have HC := hide hC
                have HRS := hide (And.intro hrecs (And.intro hrl hrz))
                have HJC := hide hjc
                have hrv : SlV w5 u14 (recs.map Value.string) := by rw [hrecs]; exact slv_of_owns HMD.out.1
                have HRV := hide hrv
                have hst := HST3.out
                rw [HPO.out, ← hjc, ← hrecs, ← hC, HMD.out.2.1] at hst
                have HST4 := hide hst
                have c3 : w5.cell? ⟨T.g, 3, none⟩ = some (.int .u32 (c : Int)) := by rw [HS5.out.1.c3, HSI.out]
                have hjs : j ≤ 140000 := by omega
                have HJS := hide hjs
                clear hrecs hrl hrz hC hjc hrv hst hlt3
                go_wp2_with fail
                refine (chain_val c X _ recs C _ hcl (by omega) HRV.out (by rw [HRS.out.2.1]; omega) (Nat.le_trans HRS.out.2.2 (by omega)) HC.out).mono ?_
                rintro e w6 ⟨rfl, hb6⟩
                have HS6 := hide (show StoreAt w6 ⟨T.g, ev⟩ D.g si ∧ DiskAt w6 D d ∧ w6.heap[bm]? = some (.cells #[.int .i64 mk, .int .u64 (ms1 : Int), .int .u64 (mi : Int), .int .u64 (mn : Int), .int .u32 (mc : Int)] 113 (0, 0)) ∧ Below wr.heap.size wr w6 from
                  ⟨HS5.out.1.past hb6, HS5.out.2.1.past hb6, (hb6.block bm (heap_lt HS5.out.2.2.1)).trans HS5.out.2.2.1, HS5.out.2.2.2.trans (hb6.mono HS5.out.2.2.2.size)⟩)
                clear hb6 c0 c1 c3 hd3
                have c3 : w6.cell? ⟨T.g, 3, none⟩ = some (.int .u32 (c : Int)) := by rw [HS6.out.1.c3, HSI.out]
                have f3 : w6.frozen? ⟨T.g, 3, none⟩ = false := HS6.out.1.frozen 3
                go_upto_region 27 with (fail)
                obtain ⟨W6, hW6⟩ : ∃ u, u = w6.setCell ⟨T.g, 3, none⟩ (.int .u32 (C : Int)) := ⟨_, rfl⟩
                rw [← hW6]
                have hm6 : Moved (fun k => k = T.g) w6 W6 := by rw [hW6]; exact Moved.setCell (S := fun k => k = T.g) (Moved.refl _ _) (a := ⟨T.g, 3, none⟩) rfl _
                obtain ⟨s6, hs6⟩ : ∃ s : Fl.St, s = { si with chain := C } := ⟨_, rfl⟩
                have HS7 := hide (show StoreAt W6 ⟨T.g, ev⟩ D.g s6 ∧ DiskAt W6 D d ∧ W6.heap[bm]? = some (.cells #[.int .i64 mk, .int .u64 (ms1 : Int), .int .u64 (mi : Int), .int .u64 (mn : Int), .int .u32 (mc : Int)] 113 (0, 0)) ∧ Moved (fun k => k = T.g) wr W6 from
                  ⟨by rw [hW6, hs6]; exact HS6.out.1.setChain hCl, HS6.out.2.1.other HAW.out (hm6.mono fun _ h => .inl h), (hm6.block bm (heap_lt HS6.out.2.2.1) (by have h1 := HBM.out; show ¬ bm = T.g; omega)).trans HS6.out.2.2.1, (Moved.of_below HS6.out.2.2.2).then hm6⟩)
                have HS6E := hide hs6
                clear hW6 hm6 hs6 c3 f3
                have c3 : W6.cell? ⟨T.g, 3, none⟩ = some (.int .u32 (C : Int)) := by rw [HS7.out.1.c3, HS6E.out]
                have m4 : W6.cell? ⟨bm, 4, none⟩ = some (.int .u32 (mc : Int)) := (cell_blk HS7.out.2.2.1 4).trans rfl
                have hst := HST4.out
                by_cases hCm : C = mc
                · rw [if_neg (by rw [hCm]; simp)] at hst
                  have HOKR := hide hst
                  have hne : ((C : Int) != (mc : Int)) = false := by simp [hCm]
                  have HCM := hide hCm
                  clear hst hCm
                  go_quiet (fail)
                  clear hne c3 m4
                  generalize hW7 : World.drewN W6 _ = W7
                  have hb7 : Below W6.heap.size W6 W7 := by rw [← hW7]; exact below_drewN (Below.refl _ _) _
                  have HS8 := hide (show StoreAt W7 ⟨T.g, ev⟩ D.g s6 ∧ DiskAt W7 D d ∧ W7.heap[bm]? = some (.cells #[.int .i64 mk, .int .u64 (ms1 : Int), .int .u64 (mi : Int), .int .u64 (mn : Int), .int .u32 (mc : Int)] 113 (0, 0)) ∧ Moved (fun k => k = T.g) wr W7 from
                    ⟨HS7.out.1.past hb7, HS7.out.2.1.past hb7, (hb7.block bm (heap_lt HS7.out.2.2.1)).trans HS7.out.2.2.1, HS7.out.2.2.2.then (Moved.of_below hb7)⟩)
                  clear hW7 hb7
                  have HF1 := hide (show ∀ u, Moved (fun k => k = T.g ∨ ev.ownBlock = some k) W7 u → u.cell? ⟨bm, 2, none⟩ = some (.int .u64 (mi : Int)) from by
                    intro u hm
                    have h1 := HS8.out.2.2.1
                    refine (cell_blk ((hm.block bm (heap_lt h1) ?_).trans h1) 2).trans rfl
                    rintro (e | e)
                    · have h2 := HBM.out; omega
                    · exact HBM.out.2.2 bm e rfl)
                  have HAPT := hide (And.intro HS8.out.1.apart HS8.out.1.lt)
                  go_upto_region 29 with (fail)
                  
                  refine wp_region_local (by kernel_rfl) (by kernel_rfl) (useList lk29U) [12] (by kernel_rfl) (spR (lk29L T D s6 ev bm mi W7)) (listPre [4, 9] (fun u => StoreAt u (⟨T.g, ev⟩ : Fl.Blk) D.g s6)) (Moved (fun k => k = T.g ∨ ev.ownBlock = some k) W7) (setFE [9, 12] (fun _ _ => True)) (setF_staysL [] (by simp [lk29L]) (by kernel_rfl) (by intro x hx; cases hx)) (list_pre (fun _ _ h hb => h.past hb) (by kernel_rfl)) (setF_refl (fun _ => trivial)) (dsts_lt (N := 158) (by kernel_rfl)) ((Moved.refl _ _).drew) (fun _ _ => list_start (HS8.out.1.past ((Below.refl _ _).drew))) (all_ops ?_) ?_
                  · refine And.intro ?_ ?_
                    · refine lstep_run fun fr wf left => ?_
                      have o0 := (left.old 0 (by kernel_rfl)).trans rfl
                      refine ⟨wanted_none rfl, fun K hK => ?_⟩
                      have hB := hide left.base
                      clear left
                      go_simp
                      exact hK _ _ rfl hB.out (setF_refl (fun _ => trivial) _ _)
                    refine And.intro ?_ ?_
                    · refine lstep_run fun fr wf left => ?_
                      have o0 := (left.old 0 (by kernel_rfl)).trans rfl
                      refine ⟨wanted_none rfl, fun K hK => ?_⟩
                      have hB := hide left.base
                      clear left
                      go_simp
                      exact hK _ _ rfl hB.out (setF_refl (fun _ => trivial) _ _)
                    refine And.intro ?_ ?_
                    · refine lstep_run fun fr wf left => ?_
                      obtain ⟨x1, e1, r1⟩ := left.slot 158 rfl 1 146 _ rfl rfl (by decide) rfl
                      have s1 := Eq.symm (show x1 = .pointer (some ⟨T.g, 0, none⟩) from r1)
                      subst s1
                      refine ⟨wanted_none rfl, fun K hK => ?_⟩
                      have hB := hide left.base
                      clear left
                      go_simp
                      exact hK _ _ rfl hB.out (setF_refl (fun _ => trivial) _ _)
                    refine And.intro ?_ ?_
                    · refine lstep_run fun fr wf left => ?_
                      obtain ⟨x2, e2, r2⟩ := left.slot 158 rfl 2 147 _ rfl rfl (by decide) rfl
                      have s2 := Eq.symm (show x2 = .pointer (some ⟨T.g, 0, none⟩) from r2)
                      subst s2
                      refine ⟨wanted_none rfl, fun K hK => ?_⟩
                      have hB := hide left.base
                      clear left
                      go_simp
                      exact hK _ _ rfl hB.out (setF_refl (fun _ => trivial) _ _)
                    refine And.intro ?_ ?_
                    · refine lstep_run fun fr wf left => ?_
                      obtain ⟨x3, e3, r3⟩ := left.slot 158 rfl 3 148 _ rfl rfl (by decide) rfl
                      have s3 := Eq.symm (show x3 = .pointer (some ⟨T.g, 2, none⟩) from r3)
                      subst s3
                      refine ⟨wanted_none rfl, fun K hK => ?_⟩
                      have hB := hide left.base; have hP := hide (list_pre_at left.pre rfl)
                      have hc : wf.cell? ⟨T.g, 2, none⟩ = some ev := hP.out.c2
                      clear left
                      go_simp
                      exact hK _ _ rfl hB.out (setF_refl (fun _ => trivial) _ _)
                    refine And.intro ?_ ?_
                    · refine lstep_run fun fr wf left => ?_
                      have o8 := (left.old 8 (by kernel_rfl)).trans rfl
                      refine ⟨wanted_none rfl, fun K hK => ?_⟩
                      have hB := hide left.base
                      clear left
                      go_simp
                      exact hK _ _ rfl hB.out (setF_refl (fun _ => trivial) _ _)
                    refine And.intro ?_ ?_
                    · refine lstep_run fun fr wf left => ?_
                      obtain ⟨x5, e5, r5⟩ := left.slot 158 rfl 5 150 _ rfl rfl (by decide) rfl
                      have s5 := Eq.symm (show x5 = .pointer (some ⟨bm, 2, none⟩) from r5)
                      subst s5
                      refine ⟨wanted_none rfl, fun K hK => ?_⟩
                      have hB := hide left.base
                      have hc := HF1.out _ hB.out
                      clear left
                      go_simp
                      exact hK _ _ rfl hB.out (setF_refl (fun _ => trivial) _ _)
                    refine And.intro ?_ ?_
                    · refine lstep_run fun fr wf left => ?_
                      obtain ⟨x6, e6, r6⟩ := left.slot 158 rfl 6 151 _ rfl rfl (by decide) rfl
                      have s6 := Eq.symm (show x6 = .int .u64 (mi : Int) from r6)
                      subst s6
                      refine ⟨wanted_none rfl, fun K hK => ?_⟩
                      have hB := hide left.base
                      clear left
                      go_simp
                      exact hK _ _ (congrArg (Value.int .i64) (by first | rfl | exact IntWalk.i64_in _ (by omega) | omega)) hB.out (setF_refl (fun _ => trivial) _ _)
                    refine And.intro ?_ ?_
                    · refine lstep_run fun fr wf left => ?_
                      obtain ⟨x7, e7, r7⟩ := left.slot 158 rfl 7 152 _ rfl rfl (by decide) rfl
                      have s7 := Eq.symm (show x7 = .int .i64 (mi : Int) from r7)
                      subst s7
                      refine ⟨wanted_none rfl, fun K hK => ?_⟩
                      have hB := hide left.base
                      clear left
                      go_simp
                      exact hK _ _ ⟨_, rfl, alloc_at _ _⟩ (hB.out.alloc _) (setF_else rfl ((Below.refl _ _).alloc (Nat.le_refl _) _))
                    refine And.intro ?_ ?_
                    · refine lstep_run fun fr wf left => ?_
                      obtain ⟨x4, e4, r4⟩ := left.slot 158 rfl 4 149 _ rfl rfl (by decide) rfl
                      have s4 := Eq.symm (show x4 = ev from r4)
                      subst s4
                      obtain ⟨x8, e8, r8⟩ := left.slot 158 rfl 8 153 _ rfl rfl (by decide) rfl
                      replace r8 : (fun v u => ∃ B, v = .slice (some ⟨B, 0, none⟩) 1 1 ∧ u.heap[B]? = some (.cells #[.int .i64 (mi : Int)] 3 (0, 0))) x8 wf := r8
                      refine ⟨wanted_none rfl, fun K hK => ?_⟩
                      have hB := hide left.base; have hP := hide (list_pre_at left.pre rfl)
                      clear left
                      obtain ⟨B7, hx7, h7⟩ := r8
                      subst hx7
                      refine wp_append_end (.tmp 149) (.tmp 153) rfl (T := (⟨T.g, ev⟩ : Fl.Blk)) hP.out hB.out.size (eval_tmp e4) B7 mi (eval_tmp e8) h7 ?_
                      intro v' w' h8 hm8
                      exact hK _ _ h8 (hB.out.then hm8) (setF_at rfl trivial)
                    refine And.intro ?_ ?_
                    · refine lstep_run fun fr wf left => ?_
                      obtain ⟨x0, e0, r0⟩ := left.slot 158 rfl 0 145 _ rfl rfl (by decide) rfl
                      have s0 := Eq.symm (show x0 = .pointer (some ⟨T.g, 0, none⟩) from r0)
                      subst s0
                      refine ⟨wanted_none rfl, fun K hK => ?_⟩
                      have hB := hide left.base
                      clear left
                      go_simp
                      exact hK _ _ rfl hB.out (setF_refl (fun _ => trivial) _ _)
                    refine And.intro ?_ ?_
                    · refine lstep_run fun fr wf left => ?_
                      obtain ⟨x10, e10, r10⟩ := left.slot 158 rfl 10 155 _ rfl rfl (by decide) rfl
                      have s10 := Eq.symm (show x10 = .pointer (some ⟨T.g, 0, none⟩) from r10)
                      subst s10
                      refine ⟨wanted_none rfl, fun K hK => ?_⟩
                      have hB := hide left.base
                      clear left
                      go_simp
                      exact hK _ _ rfl hB.out (setF_refl (fun _ => trivial) _ _)
                    refine And.intro ?_ ?_
                    · refine lstep_run fun fr wf left => ?_
                      obtain ⟨x9, e9, r9⟩ := left.slot 158 rfl 9 154 _ rfl rfl (by decide) rfl
                      replace r9 : (fun v u => Say8 (⟨T.g, ev⟩ : Fl.Blk) D.g s6 mi W7 v u) x9 wf := r9
                      obtain ⟨x11, e11, r11⟩ := left.slot 158 rfl 11 156 _ rfl rfl (by decide) rfl
                      have s11 := Eq.symm (show x11 = .pointer (some ⟨T.g, 2, none⟩) from r11)
                      subst s11
                      refine ⟨wanted_none rfl, fun K hK => ?_⟩
                      have hB := hide left.base
                      clear left
                      obtain ⟨a8, l8, z8, hx8⟩ := row_slice (show Say8 (⟨T.g, ev⟩ : Fl.Blk) D.g s6 mi W7 x9 wf from r9).1.1
                      subst hx8
                      have h8 : Say8 (⟨T.g, ev⟩ : Fl.Blk) D.g s6 mi W7 _ wf := r9
                      have hc : wf.cell? ⟨T.g, 2, none⟩ = some ev := (cell_blk h8.2 2).trans rfl
                      have hf : wf.frozen? ⟨T.g, 2, none⟩ = false := frozen_blk h8.2 2
                      go_simp
                      exact hK undef _ (Say12.of h8 HAPT.out.1 HAPT.out.2) (hB.out.setCell (a := ⟨T.g, 2, none⟩) (.inl rfl) _) (setF_at rfl trivial)
                    exact trivial
                  · intro fr wf hB hs hd hall hkeep
                    have h12 : Say12 (⟨T.g, ev⟩ : Fl.Blk) D.g s6 mi W7 wf := hall 12 _ rfl (by simp)
                    have hfr := act_ext (frame_setL hs hkeep [145, 146, 147, 148, 149, 150, 151, 152, 153, 154, 155, 156] (by kernel_rfl)) hd
                    clear hall hkeep hs hd
                    dsimp only [List.foldl, List.set_cons_zero, List.set_cons_succ] at hfr
                    generalize fr.tmps.getD 145 undef = q145 at hfr
                    generalize fr.tmps.getD 146 undef = q146 at hfr
                    generalize fr.tmps.getD 147 undef = q147 at hfr
                    generalize fr.tmps.getD 148 undef = q148 at hfr
                    generalize fr.tmps.getD 149 undef = q149 at hfr
                    generalize fr.tmps.getD 150 undef = q150 at hfr
                    generalize fr.tmps.getD 151 undef = q151 at hfr
                    generalize fr.tmps.getD 152 undef = q152 at hfr
                    generalize fr.tmps.getD 153 undef = q153 at hfr
                    generalize fr.tmps.getD 154 undef = q154 at hfr
                    generalize fr.tmps.getD 155 undef = q155 at hfr
                    generalize fr.tmps.getD 156 undef = q156 at hfr
                    subst hfr
                    have h9 := h12.store (by
                      refine Fl.ok_more HS8.out.1.ok ?_ hmi ?_
                      · rw [HS6E.out, HSI.out]; show ((ms.take i).map (·.items)).length < 65536; rw [List.length_map, List.length_take]; omega
                      · have h1 := HLE.out.1; rw [HEF.out] at h1; rw [HS6E.out]; exact h1) HAPT.out.1 HAPT.out.2
                    obtain ⟨v9, h91, h92⟩ := h9
                    have hlt9 := HMV.out.lt b rfl
                    have HFI := hide (show LookAt w T D d k A N ms R (.slice (some ⟨b, 0, none⟩) lm zm) (i + 1) C wf from by
                      have htk : (ms.take (i + 1)).map (·.items) = (ms.take i).map (·.items) ++ [mi] := by rw [List.take_add_one, HM.out, List.map_append]; rfl
                      refine ⟨⟨T.g, v9⟩, rfl, ?_, ?_, ?_, ?_, HS8.out.2.1.other HAW.out hB, ?_, hCl⟩
                      · intro b2 hb2
                        rcases h92 with e9 | e9
                        · exact HTE.out b2 (by rw [← e9]; exact hb2)
                        · have h1 := e9 b2 hb2; have h2 := HMVR.out.size; have h3 := HS8.out.2.2.2.size; omega
                      · rw [htk]
                        have h1 := h91
                        rw [HS6E.out, HSI.out] at h1
                        exact h1
                      · rw [htk, List.getLastD_eq_getLast?, List.getLast?_append]
                        show Fl.lookF k A N (ms.drop (i + 1)) (i + 1) mi C = R
                        rw [HCM.out]; exact HOKR.out.symm
                      · exact (HMVR.out.then HS8.out.2.2.2).trans hB fun j hj => hj.imp id (fun e => HTE.out j e)
                      · refine row_moved (row_moved HROW.out HS8.out.2.2.2 ?_) hB ?_
                        · intro b2 hb2 e2; exact HMG.out (hb2.trans (congrArg some e2))
                        · intro b2 hb2
                          rintro (e2 | e2)
                          · exact HMG.out (hb2.trans (congrArg some e2))
                          · have h1 := HTE.out b2 e2; have h2 := (HMV.out.lt b2 hb2).2; omega)
                    clear hB h12 h91 h92 hlt9
                    go_wp2_with fail
                    go_roundg (lm - (i + 1))
                    case measure => omega
                    case rel => exact ⟨i + 1, C, rfl, by omega, by go_num, HFI.out⟩
                · rw [if_pos (.inr (.inr hCm))] at hst
                  have HNO := hide hst
                  have hne : ((C : Int) != (mc : Int)) = true := by simp; omega
                  clear hst hCm
                  go_quiet (fail)
                  go_wp2_with fail
                  go_ret
                  exact ⟨HMVR.out.then (HS7.out.2.2.2.then (Moved.of_below (below_drewN (Below.refl _ _) _))), .inl ⟨HNO.out, rfl⟩⟩
          · have hpo : Fl.payOk X = false := by unfold Fl.payOk; rw [hrp]; show (nn == X.size) = false; rw [beq_eq_false_iff_ne]; exact hnn
            rw [if_pos (.inl hpo)] at hst
            have HNO := hide hst
            have hnz : ((nn : Int) != X.size) = true := by simp; omega
            clear hst hpo hrp hnn
            go_wp2_with fail
            refine (readPay_val X _ _ (by omega) HP.out).mono ?_
            rintro e w3 ⟨rfl, hb3⟩
            have HB3 := hide hb3
            clear hb3
            go_wp2_with fail
            go_ret
            exact ⟨HMVR.out.then (Moved.of_below (HQ2.out.2.2.2.trans (HB3.out.mono HQ2.out.2.2.2.size))), .inl ⟨HNO.out, rfl⟩⟩
      · have hil2 : i = lm := by omega
        obtain ⟨T', h1, h2, h3, h4, h5, h6, h7, h8⟩ := HL.out
        have himl : i = ms.length := by rw [hil2]; exact HNN.out
        rw [List.take_of_length_le (by omega)] at h3
        rw [List.drop_of_length_le (by omega)] at h4
        have HFI := hide (show R = some c ∧ T'.g = T.g ∧ (∀ b, T'.ev.ownBlock = some b → w.heap.size ≤ b) ∧ StoreAt wr T' D.g ⟨k, ms.map (·.items), c, false⟩ ∧ Moved (fun b => b = T.g) w wr from ⟨h4.symm, h1, h2, h3, h5⟩)
        have hlt2 : ¬ (i : Int) < lm := by omega
        clear h1 h2 h3 h4 h5 h6 h7 h8 hil2 himl
        go_wp2_with fail
        go_ret
        exact ⟨HFI.out.2.2.2.2, .inr ⟨c, T', HFI.out.1, rfl, HFI.out.2.1, HFI.out.2.2.1, HFI.out.2.2.2.1⟩⟩
end Go.Proofs.YtbfbajfdlkgloaaGreatDoor
