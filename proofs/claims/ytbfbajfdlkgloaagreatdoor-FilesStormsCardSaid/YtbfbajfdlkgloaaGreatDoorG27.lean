/-
  The markers as plain data once more: rows of markers; strings.Trim of zero bytes; what a read list of markers keeps.
-/
import Derived.Test.YtbfbajfdlkgloaaGreatDoorG26
import Derived.Test.YtbfbajfdlkgloaaGreatDoorG24
import Derived.Test.YtbfbajfdlkgloaaGreatDoorG22
import Derived.Lib.SlTrimSet
import Derived.Deep.CutBlock
import Derived.Deep.QuietTactic
import Derived.BigQuiet

namespace Go.Proofs.YtbfbajfdlkgloaaGreatDoor
open Go Go.RowKit Go.Maps
def flatM (l : List Rec.Mk) : List Value := l.flatMap fun m => m.cells.toList
theorem flatM_snoc (l : List Rec.Mk) (m : Rec.Mk) : flatM (l ++ [m]) = flatM l ++ m.cells.toList := by simp [flatM]
theorem flatM_len (l : List Rec.Mk) : (flatM l).length = 5 * l.length := by
  induction l with
  | nil => rfl
  | cons m l ih => show (m.cells.toList ++ flatM l).length = _; rw [List.length_append, ih, List.length_cons]; show 5 + _ = _; omega
theorem flatM_get : ∀ (l : List Rec.Mk) (i : Nat) (m : Rec.Mk), l[i]? = some m → ∀ j, j < 5 → (flatM l)[i * 5 + j]? = m.cells[j]?
  | [], i, m, h, _, _ => by simp at h
  | x :: l, 0, m, h, j, hj => by
    rw [List.getElem?_cons_zero] at h
    injection h with h
    subst h
    show (x.cells.toList ++ flatM l)[0 * 5 + j]? = _
    rw [List.getElem?_append_left (by show 0 * 5 + j < 5; omega), Nat.zero_mul, Nat.zero_add]
    simp
  | x :: l, i + 1, m, h, j, hj => by
    rw [List.getElem?_cons_succ] at h
    have := flatM_get l i m h j hj
    show (x.cells.toList ++ flatM l)[(i + 1) * 5 + j]? = _
    rw [List.getElem?_append_right (by show 5 ≤ _; omega), ← this]
    congr 1
    show (i + 1) * 5 + j - 5 = _
    omega
theorem info_mark : (Tryz.prog.info? 113).map (fun i => (i.zero, i.size, i.bytes)) = some (some (.agg #[.int .i64 0, .int .u64 0, .int .u64 0, .int .u64 0, .int .u32 0]), 5, 40) := by kernel_rfl
theorem wpList_append_mark {ops : Array Oper} {rest : List Oper} {o : Oper} {a : Act} {w : World} {Q : Exit → Act → World → Prop} (hgd : o.guard = none) (s x : Operand)
    (ho : o.op = .call { callee := .builtin .append, args := #[s, x], argTypes := #[99, 99] })
    (base : Nat) (v : Value) (n : Nat) (xs : List Value) (hs : a.eval s = v) (hown : w.ownsRow base 113 5 v n xs) (B : Nat) (m : Rec.Mk)
    (hx : a.eval x = .slice (some ⟨B, 0, none⟩) 1 1) (hB : w.heap[B]? = some (.cells m.cells 113 (0, 0))) (hn : n < 1099511627776) (hbase : base ≤ w.heap.size)
    (h : ∀ v' w', w'.ownsRow base 113 5 v' (n + 1) (xs ++ m.cells.toList) → w.grownBy w' v.ownBlock → wpList Tryz.prog ops Q rest (a.put o.dst v') w') : wpList Tryz.prog ops Q (o :: rest) a w := by
  refine wpList_plain hgd fun _ hK => ?_
  obtain ⟨i, hi, hz0, hz1, hz2⟩ := info_parts info_mark
  refine wp_append_own (w := w) s x 99 ho base 113 i _ 5 40 Tryz.underlying99 hi hz0 hz1 hz2 rfl (by decide) v n xs hs hown ⟨B, 0, none⟩ 1 1 m.cells.toList hx rfl ?_ ?_ (by unfold maxLen; omega) (by omega) hbase (fun v' w' h2 h3 _ => hK _ _ (h v' w' h2 h3))
  · intro j u hj
    rw [Addr.add_lit]
    show w.cell? ⟨B, 0 + j, none⟩ = _
    rw [Nat.zero_add, cell_blk hB]
    simpa using hj
  · intro u hu
    have : m.cells.toList = [.int .i64 m.k, .int .u64 m.size, .int .u64 m.items, .int .u64 m.nodes, .int .u32 m.chain] := rfl
    rw [this] at hu
    simp only [List.mem_cons, List.mem_nil_iff, or_false] at hu
    rcases hu with rfl | rfl | rfl | rfl | rfl <;> rfl
theorem dropW_nil (p : UInt8 → Bool) : ∀ l : List UInt8, l.dropWhile p = [] ↔ ∀ x ∈ l, p x = true
  | [] => by simp
  | x :: l => by
    rw [List.dropWhile_cons]
    split
    · rename_i h; rw [dropW_nil p l]; simp [h]
    · rename_i h; simp [h]
theorem trim_nil (l : List UInt8) : Lib.trimB l 0 = [] ↔ l.all (· == 0) = true := by
  unfold Lib.trimB Lib.trimLeftB Lib.trimRightB
  constructor
  · intro h
    rw [dropW_nil] at h
    have h2 : (l.reverse.dropWhile (· == 0)) = [] := by
      cases hc : l.reverse.dropWhile (· == 0) with
      | nil => rfl
      | cons x r =>
        have h3 := h x (by rw [hc]; simp)
        have h4 := List.head_dropWhile_not (p := (· == (0 : UInt8))) (l := l.reverse) (by rw [hc]; simp)
        simp only [hc, List.head_cons] at h4
        rw [h3] at h4; cases h4
    rw [dropW_nil] at h2
    rw [List.all_eq_true]
    exact fun x hx => h2 x (by simpa using hx)
  · intro h
    rw [List.all_eq_true] at h
    have h2 : (l.reverse.dropWhile (· == 0)) = [] := by
      rw [dropW_nil]
      exact fun x hx => h x (by simpa using hx)
    rw [h2]; rfl
theorem trim_val (s : ByteArray) (w : World) (hs : s.size ≤ 140737488351232) :
    Calls Tryz.prog 96 #[.string s, .string ⟨#[0]⟩] w fun e w' => ∃ x : ByteArray, e = .returned (.string x) ∧ (x.toList = [] ↔ Fl.isZero s = true) ∧ Below w.heap.size w w' := by
  refine (Tryz.strings_Trim_one s 0 (by decide) w (by omega)).mono ?_
  rintro e w' ⟨rfl, hw⟩
  refine ⟨_, rfl, ?_, ?_⟩
  · unfold Fl.isZero bytesOf
    rw [← trim_nil]
    constructor
    · intro h
      have h2 := (Go.Lib.bytes_beq_iff (⟨(Lib.trimB s.data.toList 0).toArray⟩ : ByteArray) ⟨#[]⟩).1 (by rw [h]; decide +kernel)
      injection h2 with h2
      have := congrArg Array.toList h2
      simpa using this
    · intro h
      rw [h]
      decide +kernel
  · rcases hw with rfl | rfl
    · exact Below.refl _ _
    · exact (Below.refl _ _).drew
namespace Fl
/-- What a list of read markers keeps: rising ends. -/
theorem markers_keep (k : Int) (M : ByteArray) : ∀ (f : Nat) (acc ms : List Rec.Mk), markersF k M f acc = some ms → (acc.map (·.items)).Pairwise (· < ·) → (ms.map (·.items)).Pairwise (· < ·) ∧ ms.length ≤ acc.length + f ∧ (∀ m ∈ ms, m ∈ acc ∨ m.ok)
  | 0, acc, ms, h, hp => by
    injection h with h
    subst h
    exact ⟨hp, Nat.le_refl _, fun m hm => .inl hm⟩
  | f + 1, acc, ms, h, hp => by
    unfold markersF at h
    split at h
    · injection h with h
      subst h
      exact ⟨hp, by omega, fun m hm => .inl hm⟩
    · split at h
      · cases h
      · rename_i m hm
        split at h
        · cases h
        · rename_i hc
          obtain ⟨h1, h2, h3⟩ := markers_keep k M f (acc ++ [m]) ms h (by
            rw [List.map_append, List.pairwise_append]
            refine ⟨hp, List.pairwise_singleton _ _, fun a ha b hb => ?_⟩
            rw [List.mem_singleton.1 hb]
            have hm2 : (acc.getLast?.map (·.items)).getD 0 < m.items := by omega
            refine Nat.lt_of_le_of_lt ?_ hm2
            rcases List.eq_nil_or_concat acc with rfl | ⟨N, y, rfl⟩
            · cases ha
            · rw [List.concat_eq_append] at hp ha ⊢
              rw [List.map_append, List.pairwise_append] at hp
              rw [List.getLast?_append]
              show a ≤ y.items
              rw [List.map_append] at ha
              rcases List.mem_append.1 ha with ha | ha
              · exact Nat.le_of_lt (hp.2.2 a ha y.items (by simp))
              · have : a = y.items := by simpa using ha
                omega)
          refine ⟨h1, by rw [List.length_append, List.length_singleton] at h2; omega, fun x hx => ?_⟩
          rcases h3 x hx with hx | hx
          · rcases List.mem_append.1 hx with hx | hx
            · exact .inl hx
            · rw [List.mem_singleton.1 hx]
              right
              unfold Rec.readMarkB at hm
              split at hm
              · split at hm
                · injection hm with hm
                  rw [← hm]; exact Rec.markOf_ok _
                · cases hm
              · cases hm
          · exact .inr hx
end Fl
end Go.Proofs.YtbfbajfdlkgloaaGreatDoor

/-
  The program's store: markers.
-/
namespace Go.Proofs.YtbfbajfdlkgloaaGreatDoor
open Go Go.RowKit Go.Maps
theorem nodes_valI (n q : Nat) (x : Int) (w : World) (hn : n ≤ 1099511627776) (hq : q = Fl.nodes n) (hx : x = (n : Int)) :
    Calls Tryz.prog 58 #[.int .i64 x] w fun e w' => e = .returned (.int .i64 (q : Int)) ∧ w' = w := by
  rw [hx]; exact nodes_val n q w hn hq
theorem below_drewN {B : Nat} {a w : World} (h : Below B a w) (n : Nat) : Below B a (w.drewN n) := h.trans ⟨rfl, rfl, rfl, Nat.le_refl _, fun _ _ => rfl⟩
/-- What markers answers. -/
def MarksOut (w : World) (R : Option (List Rec.Mk)) (e : Ending) (w' : World) : Prop :=
  Below w.heap.size w w' ∧ ((R = none ∧ e = .returned (.tuple #[.slice none 0 0, .int .i64 190])) ∨ ∃ ms v, R = some ms ∧ e = .returned (.tuple #[v, .int .i64 0]) ∧ w'.ownsRow w.heap.size 113 5 v ms.length (flatM ms))
def lastIt (l : List Rec.Mk) : Nat := (l.getLast?.map (·.items)).getD 0
/-- A marker that is none of the store's. -/
def badM (k : Int) (i ah : Nat) (m : Rec.Mk) : Prop := 65536 ≤ i ∨ m.size ≠ i + 1 ∨ m.k ≠ k ∨ m.items ≤ ah ∨ m.nodes ≠ 40 * Fl.nodes (i + 1)
theorem marks_step {k : Int} {M : ByteArray} {f i : Nat} {acc : List Rec.Mk} (h : acc.length = i) : Fl.markersF k M (f + 1) acc =
    if f = 0 ∧ Fl.isZero (M.extract (64 * i) (64 * i + 64)) = true then some acc
    else match Rec.readMarkB (M.extract (64 * i) (64 * i + 64)) with
      | none => none
      | some m => if 65536 ≤ i ∨ m.size ≠ i + 1 ∨ m.k ≠ k ∨ m.items ≤ lastIt acc ∨ m.nodes ≠ 40 * Fl.nodes (i + 1) then none else Fl.markersF k M f (acc ++ [m]) := by
  subst h; rfl
/-- What holds of the markers read so far. -/
def MarksAt (w : World) (k : Int) (M : ByteArray) (R : Option (List Rec.Mk)) (N i ah : Nat) (acc : List Rec.Mk) (v : Value) (wr : World) : Prop :=
  acc.length = i ∧ Fl.markersF k M (N - i) acc = R ∧ ah = lastIt acc ∧ ah < 18446744073709551616 ∧ wr.ownsRow w.heap.size 113 5 v i (flatM acc) ∧ Below w.heap.size w wr
set_option maxHeartbeats 8000000 in
set_option maxRecDepth 100000 in
theorem storeMarkers_val (T : Fl.Blk) (D : Dk.Blk) (s : Fl.St) (d : Dk.St) (k : Nat) (M : ByteArray) (R : Option (List Rec.Mk)) (w : World) (h : StoreAt w T D.g s) (hd : DiskAt w D d) (hk : k = s.k) (hM : M = (Dk.get d.files Fl.nMarks).now) (hup : d.down = false) (hR : Fl.markersF (k : Int) M (M.size / 64) [] = R) :
    Calls Tryz.prog 47 #[.pointer (some ⟨T.g, 0, none⟩)] w (MarksOut w R) := by
  have c0 := h.c0
  have hks := h.ok.strength
  rw [← hk] at hks
  have hMs : M.size ≤ 268435456 := by rw [hM]; exact (Dk.get_sizes hd.ok Fl.nMarks).1
  obtain ⟨N, hN⟩ : ∃ N, N = M.size / 64 := ⟨_, rfl⟩
  have hNs : N ≤ 4194304 := by omega
  rw [← hN] at hR
  have HD := hide hd
  have HT := hide h
  have HK := hide hk
  have HM := hide hM
  have HUP := hide hup
  have HR := hide hR
  have HN := hide hN
  have HMS := hide hMs
  have hsz : Dk.size d Fl.nMarks = (M.size : Int) := by unfold Dk.size; rw [if_neg (by rw [hup]; decide), hM]
  have HSZ := hide hsz
  have HDIV := hide (show ((M.size : Int) / 64) = (N : Int) by omega)
  clear h hd hk hM hup hR hN hMs hsz
  go_enter Tryz.func47, Tryz.ntmps47
  go_wp2_with fail
  refine (diskSize_any D d Fl.nMarks _ HD.out (by decide)).mono ?_
  rintro e w1 ⟨rfl, he⟩
  subst he
  rw [HSZ.out]
  have hMs := HMS.out
  go_upto_block 0 with (fail)
  rw [HDIV.out]
  clear hMs
  go_cut [4] from 5 to 93 (fun v4 wx => Hid (∃ ms, R = some ms ∧ wx.ownsRow w1.heap.size 113 5 v4 ms.length (flatM ms) ∧ Below w1.heap.size w1 wx))
  case first =>
    go_wp2_with fail
    go_loopg [4, 6, 18] N (fun g v4 v6 v18 wr => ∃ (i ah : Nat) (acc : List Rec.Mk), g = N - i ∧ i ≤ N ∧ v18 = .int .i64 (i : Int) ∧ v6 = .int .u64 (ah : Int) ∧ Hid (MarksAt w1 k M R N i ah acc v4 wr))
    case atStart => exact ⟨0, 0, [], rfl, Nat.zero_le _, rfl, rfl, rfl, HR.out, rfl, by decide, World.ownsRow_nil _ _ _ _, Below.refl _ _⟩
    case round =>
      obtain ⟨i, ah, acc, rfl, hiN, rfl, rfl, HL⟩ := hrel
      have hah := HL.out.2.2.2.1
      by_cases hlt : i < N
      · have hlt2 : (i : Int) < N := by omega
        have hDr := HD.out.past HL.out.2.2.2.2.2
        have hTr := HT.out.past HL.out.2.2.2.2.2
        have c0 := hTr.c0
        have c1 := hTr.c1
        rw [← HK.out] at c1
        obtain ⟨X, hX⟩ : ∃ X, X = M.extract (64 * i) (64 * i + 64) := ⟨_, rfl⟩
        have hXs : X.size ≤ 64 := by rw [hX, ByteArray.size_extract]; omega
        have hread : Dk.read d Fl.nMarks (64 * (i : Int)) 64 = (X, 0) := by
          rw [hX]
          exact Fl.read_in d Fl.nMarks M HM.out.symm HUP.out (by omega) (by have := HN.out; omega) _ _ (by omega) (by omega)
        obtain ⟨f, hf⟩ : ∃ f, N - i = f + 1 := ⟨N - i - 1, by omega⟩
        have hst := HL.out.2.1
        rw [hf, marks_step HL.out.1, ← hX] at hst
        have HST := hide hst
        have HF := hide hf
        have HDR := hide hDr
        have HRD := hide hread
        have HX := hide hX
        have hoff : (Lit.int .i64 (64 * (i : Int))).wf = true := Rec.wf_i64 (by omega) (by omega)
        clear hst hf hDr hTr hX hread
        go_wp2_with fail
        refine (diskRead_val D d Fl.nMarks _ _ X 0 _ HDR.out (by decide) hoff (by decide) HRD.out).mono ?_
        rintro e w2 ⟨rfl, he⟩
        subst he
        go_upto_region 10 with (fail)
        obtain ⟨brk, hbrk⟩ : ∃ b, b = (decide (f = 0) && Fl.isZero X) := ⟨_, rfl⟩
        have HBRK := hide hbrk
        clear hbrk
        go_cut [42] from 34 to 42 (fun v42 wx => Hid (v42 = .bool brk ∧ Below w2.heap.size w2 wx))
        case first =>
          by_cases hf0 : f = 0
          · have hb1 : ((i : Int) == (N : Int) - 1) = true := by rw [beq_iff_eq]; have := HF.out; omega
            have HF0 := hide hf0
            clear hf0
            go_wp2_with fail
            refine (trim_val X _ (by omega)).mono ?_
            rintro e w3 ⟨x, rfl, hx, hb3⟩
            have HB3 := hide hb3
            cases hz : Fl.isZero X with
            | true =>
              have hx2 : x.toList.isEmpty = true := by rw [hx.2 hz]; rfl
              have HR3 := hide (show Value.bool true = .bool brk by rw [HBRK.out, HF0.out, hz]; rfl)
              clear hx hz hb3
              go_wp2_with fail
              go_meet
              case rel => exact ⟨HR3.out, HB3.out⟩
            | false =>
              have hx2 : x.toList.isEmpty = false := by
                cases hc : x.toList with
                | nil => rw [hx.1 hc] at hz; cases hz
                | cons y l => rfl
              have HR3 := hide (show Value.bool false = .bool brk by rw [HBRK.out, HF0.out, hz]; rfl)
              clear hx hz hb3
              go_wp2_with fail
              go_meet
              case rel => exact ⟨HR3.out, HB3.out⟩
          · have hb1 : ((i : Int) == (N : Int) - 1) = false := by rw [beq_eq_false_iff_ne]; have := HF.out; omega
            have HR3 := hide (show Value.bool false = .bool brk by rw [HBRK.out, decide_eq_false hf0]; rfl)
            clear hf0
            go_wp2_with fail
            go_meet
            case rel => exact ⟨HR3.out, Below.refl _ _⟩
        case rest =>
          obtain ⟨h42, hb3⟩ := hcut.out
          subst h42
          have HB3 := hide hb3
          have HBW := hide (HL.out.2.2.2.2.2.trans (hb3.mono HL.out.2.2.2.2.2.size))
          clear hcut hb3
          cases brk with
          | true =>
            have hsome : some acc = R := by
              have h1 := HBRK.out
              have h2 := HST.out
              rw [if_pos (by
                have := h1.symm
                rw [Bool.and_eq_true, decide_eq_true_iff] at this
                exact this)] at h2
              exact h2
            have HSM := hide hsome
            clear hsome c0 c1
            go_wp2_with fail
            go_meet
            case rel => exact ⟨acc, HSM.out.symm, by rw [HL.out.1]; exact own_below HL.out.2.2.2.2.1 HB3.out, HBW.out⟩
          | false =>
            have h2 := HST.out
            rw [if_neg (by
              intro h3
              have h1 := HBRK.out
              rw [decide_eq_true h3.1, h3.2] at h1
              cases h1)] at h2
            have hTr := HT.out.past HBW.out
            have c0 := hTr.c0
            have c1 := hTr.c1
            rw [← HK.out] at c1
            clear hTr
            cases hrm : Rec.readMarkB X with
            | none =>
              rw [hrm] at h2
              have HNO := hide h2
              have HP := hide (show Rec.readMarkV X = .tuple #[.agg #[.int .i64 0, .int .u64 0, .int .u64 0, .int .u64 0, .int .u32 0], .int .i64 180] by unfold Rec.readMarkV; rw [hrm]; rfl)
              clear h2 hrm
              go_wp2_with fail
              refine (readMark_val X _ _ (by omega) HP.out).mono ?_
              rintro e w4 ⟨rfl, hb4⟩
              have HB4 := hide (HBW.out.trans (hb4.mono HBW.out.size))
              clear hb4
-- TAIL BEGIN
              go_upto_region 12 with (fail)
              go_quiet (fail)
              go_wp2_with fail
              go_ret2
              exact ⟨below_drewN (HB4.out.alloc HB4.out.size _) _, .inl ⟨HNO.out.symm, rfl⟩⟩
            | some m =>
              rw [hrm] at h2
              have hmo : m.ok := by
                unfold Rec.readMarkB at hrm
                split at hrm
                · split at hrm
                  · injection hrm with hrm
                    rw [← hrm]; exact Rec.markOf_ok _
                  · cases hrm
                · cases hrm
              obtain ⟨mk, ms, mi, mn, mc⟩ := m
              obtain ⟨hm1, hm2, hm3, hm4, hm5⟩ := hmo
              dsimp only at h2 hm1 hm2 hm3 hm4 hm5
              have HM1 := hide hm1
              obtain ⟨Q1, hQ1⟩ : ∃ q, q = Fl.nodes (i + 1) := ⟨_, rfl⟩
              have hQn : Q1 ≤ 2 * (i + 1) := by rw [hQ1]; exact nodes_le (i + 1)
              rw [← hQ1, ← HL.out.2.2.1] at h2
              have HQ1 := hide hQ1
              have HP := hide (show Rec.readMarkV X = .tuple #[.agg #[.int .i64 mk, .int .u64 (ms : Int), .int .u64 (mi : Int), .int .u64 (mn : Int), .int .u32 (mc : Int)], .int .i64 0] by unfold Rec.readMarkV; rw [hrm]; rfl)
              have H2 := hide h2
              clear h2 hrm hQ1 hm1
              go_wp2_with fail
              refine (readMark_val X _ _ (by omega) HP.out).mono ?_
              rintro e w4 ⟨rfl, hb4⟩
              have HB4 := hide (HBW.out.trans (hb4.mono HBW.out.size))
              have HB45 := hide hb4
              clear hb4 c0 c1
              go_upto_region 12 with (fail)
              obtain ⟨W, hW⟩ : ∃ u, u = w4.alloc (.cells #[.int .i64 mk, .int .u64 (ms : Int), .int .u64 (mi : Int), .int .u64 (mn : Int), .int .u32 (mc : Int)] 113) := ⟨_, rfl⟩
              obtain ⟨bm, hbm⟩ : ∃ b, b = w4.heap.size := ⟨_, rfl⟩
              have hWb : W.heap[bm]? = some (.cells #[.int .i64 mk, .int .u64 (ms : Int), .int .u64 (mi : Int), .int .u64 (mn : Int), .int .u32 (mc : Int)] 113 (0, 0)) := by rw [hW, hbm]; exact alloc_at _ _
              have hWB : Below w1.heap.size w1 W := by rw [hW]; exact HB4.out.alloc HB4.out.size _
              have hWo : W.ownsRow w1.heap.size 113 5 u4 i (flatM acc) := by
                have h1 := own_below HL.out.2.2.2.2.1 HB3.out
                rw [hW]
                exact own_below (own_below h1 HB45.out) ((Below.refl _ _).alloc (Nat.le_refl _) _)
              rw [← hW, ← hbm]
              have HW := hide (And.intro hWb (And.intro hWB hWo))
              have m0 : W.cell? ⟨bm, 0, none⟩ = some (.int .i64 mk) := (cell_blk hWb 0).trans rfl
              have m1 : W.cell? ⟨bm, 1, none⟩ = some (.int .u64 (ms : Int)) := (cell_blk hWb 1).trans rfl
              have m2 : W.cell? ⟨bm, 2, none⟩ = some (.int .u64 (mi : Int)) := (cell_blk hWb 2).trans rfl
              have m3 : W.cell? ⟨bm, 3, none⟩ = some (.int .u64 (mn : Int)) := (cell_blk hWb 3).trans rfl
              have m4 : W.cell? ⟨bm, 4, none⟩ = some (.int .u32 (mc : Int)) := (cell_blk hWb 4).trans rfl
              have c1 : W.cell? ⟨T.g, 1, none⟩ = some (.int .i64 (k : Int)) := by rw [(HT.out.past hWB).c1, HK.out]
              have hn1 : (i : Int) + 1 = ((i + 1 : Nat) : Int) := by omega
              have HN1 := hide hn1
              have HZ := hide (show IntKind.u64.wrap ((i : Int) + 1) = (i : Int) + 1 ∧ IntKind.i64.wrap ((i : Int) + 1) = (i : Int) + 1 ∧ IntKind.i64.wrap (40 * (Q1 : Int)) = 40 * (Q1 : Int) ∧ IntKind.u64.wrap (40 * (Q1 : Int)) = 40 * (Q1 : Int) ∧ IntKind.u64.wrap (i : Int) = (i : Int) from ⟨by rw [IntKind.wrap_u64]; omega, IntWalk.i64_in _ (by omega), IntWalk.i64_in _ (by omega), by rw [IntKind.wrap_u64]; omega, by rw [IntKind.wrap_u64]; omega⟩)
              clear hW hbm hWb hWB hWo hn1
              go_cut [86] from 48 to 86 (fun v86 wx => Hid (v86 = .bool (decide (65536 ≤ i ∨ ms ≠ i + 1 ∨ mk ≠ (k : Int) ∨ mi ≤ ah ∨ mn ≠ 40 * Q1)) ∧ Below W.heap.size W wx))
              case first =>
                by_cases p0 : 65536 ≤ i
                · have HV := hide (show Value.bool true = .bool (decide (65536 ≤ i ∨ ms ≠ i + 1 ∨ mk ≠ (k : Int) ∨ mi ≤ ah ∨ mn ≠ 40 * Q1)) by rw [decide_eq_true (by simp only [p0, true_or, or_true, not_false_eq_true, ne_eq])])
                  have g0 : decide ((65536 : Int) ≤ (i : Int)) = true := decide_eq_true (by omega)
                  clear p0
                  go_quiet (fail)
                  go_wp2_with fail
                  go_meet
                  case rel => exact ⟨HV.out, below_drewN (Below.refl _ _) _⟩
                · have g0 : decide ((65536 : Int) ≤ (i : Int)) = false := decide_eq_false (by omega)
                  by_cases p1 : ms ≠ i + 1
                  · have HV := hide (show Value.bool true = .bool (decide (65536 ≤ i ∨ ms ≠ i + 1 ∨ mk ≠ (k : Int) ∨ mi ≤ ah ∨ mn ≠ 40 * Q1)) by rw [decide_eq_true (by simp only [p1, true_or, or_true, not_false_eq_true, ne_eq])])
                    have g1 : ((ms : Int) != (i : Int) + 1) = true := by simp; omega
                    clear p0 p1
                    have z1 : IntKind.u64.wrap ((i : Int) + 1) = (i : Int) + 1 := HZ.out.1
                    go_quiet (fail)
                    go_wp2_with fail
                    go_meet
                    case rel => exact ⟨HV.out, below_drewN (Below.refl _ _) _⟩
                  · have g1 : ((ms : Int) != (i : Int) + 1) = false := by simp; omega
                    by_cases p2 : mk ≠ (k : Int)
                    · have HV := hide (show Value.bool true = .bool (decide (65536 ≤ i ∨ ms ≠ i + 1 ∨ mk ≠ (k : Int) ∨ mi ≤ ah ∨ mn ≠ 40 * Q1)) by rw [decide_eq_true (by simp only [p2, true_or, or_true, not_false_eq_true, ne_eq])])
                      have g2 : (mk != (k : Int)) = true := by simp; omega
                      clear p0 p1 p2
                      have z1 : IntKind.u64.wrap ((i : Int) + 1) = (i : Int) + 1 := HZ.out.1
                      go_quiet (fail)
                      go_wp2_with fail
                      go_meet
                      case rel => exact ⟨HV.out, below_drewN (Below.refl _ _) _⟩
                    · have g2 : (mk != (k : Int)) = false := by simp; omega
                      by_cases p3 : mi ≤ ah
                      · have HV := hide (show Value.bool true = .bool (decide (65536 ≤ i ∨ ms ≠ i + 1 ∨ mk ≠ (k : Int) ∨ mi ≤ ah ∨ mn ≠ 40 * Q1)) by rw [decide_eq_true (by simp only [p3, true_or, or_true, not_false_eq_true, ne_eq])])
                        have g3 : decide (mi ≤ ah) = true := decide_eq_true (by omega)
                        clear p0 p1 p2 p3
                        have z1 : IntKind.u64.wrap ((i : Int) + 1) = (i : Int) + 1 := HZ.out.1
                        go_quiet (fail)
                        go_wp2_with fail
                        go_meet
                        case rel => exact ⟨HV.out, below_drewN (Below.refl _ _) _⟩
                      · have g3 : decide (mi ≤ ah) = false := decide_eq_false (by omega)
                        by_cases p4 : mn ≠ 40 * Q1
                        · have HV := hide (show Value.bool true = .bool (decide (65536 ≤ i ∨ ms ≠ i + 1 ∨ mk ≠ (k : Int) ∨ mi ≤ ah ∨ mn ≠ 40 * Q1)) by rw [decide_eq_true (by simp only [p4, true_or, or_true, not_false_eq_true, ne_eq])])
                          have g4 : ((mn : Int) != 40 * (Q1 : Int)) = true := by simp; omega
                          clear p0 p1 p2 p3 p4
                          have z1 : IntKind.u64.wrap ((i : Int) + 1) = (i : Int) + 1 := HZ.out.1
                          have z2 : IntKind.i64.wrap ((i : Int) + 1) = (i : Int) + 1 := HZ.out.2.1
                          have z3 : IntKind.i64.wrap (40 * (Q1 : Int)) = 40 * (Q1 : Int) := HZ.out.2.2.1
                          go_quiet ((go_at_call 58; exact Calls.quiet_of_same (nodes_valI (i + 1) Q1 _ _ (by omega) HQ1.out HN1.out)))
                          go_wp2_with fail
                          go_meet
                          case rel => exact ⟨HV.out, below_drewN (Below.refl _ _) _⟩
                        · have g4 : ((mn : Int) != 40 * (Q1 : Int)) = false := by simp; omega
                          have HV := hide (show Value.bool false = .bool (decide (65536 ≤ i ∨ ms ≠ i + 1 ∨ mk ≠ (k : Int) ∨ mi ≤ ah ∨ mn ≠ 40 * Q1)) by rw [decide_eq_false (by omega)])
                          clear p0 p1 p2 p3 p4
                          have z1 : IntKind.u64.wrap ((i : Int) + 1) = (i : Int) + 1 := HZ.out.1
                          have z2 : IntKind.i64.wrap ((i : Int) + 1) = (i : Int) + 1 := HZ.out.2.1
                          have z3 : IntKind.i64.wrap (40 * (Q1 : Int)) = 40 * (Q1 : Int) := HZ.out.2.2.1
                          go_quiet ((go_at_call 58; exact Calls.quiet_of_same (nodes_valI (i + 1) Q1 _ _ (by omega) HQ1.out HN1.out)))
                          go_wp2_with fail
                          go_meet
                          case rel => exact ⟨HV.out, below_drewN (Below.refl _ _) _⟩
              case rest =>
                obtain ⟨h86, hb5⟩ := hcut.out
                subst h86
                have HB5 := hide hb5
                clear hcut hb5
                have h2 := H2.out
                by_cases hbad : 65536 ≤ i ∨ ms ≠ i + 1 ∨ mk ≠ (k : Int) ∨ mi ≤ ah ∨ mn ≠ 40 * Q1
                · rw [if_pos hbad] at h2
                  have HNO := hide h2
                  rw [decide_eq_true hbad]
                  clear h2 hbad m0 m1 m2 m3 m4 c1
                  go_wp2_with fail
                  go_ret2
                  exact ⟨HW.out.2.1.trans (HB5.out.mono HW.out.2.1.size), .inl ⟨HNO.out.symm, rfl⟩⟩
                · rw [if_neg hbad] at h2
                  have HOK := hide h2
                  rw [decide_eq_false hbad]
                  have hWc := (HB5.out.block bm (heap_lt HW.out.1)).trans HW.out.1
                  have hown := own_below HW.out.2.2 HB5.out
                  have hbw : Below w1.heap.size w1 wc := HW.out.2.1.trans (HB5.out.mono HW.out.2.1.size)
                  have HWC := hide (And.intro hWc (And.intro hown hbw))
                  have m0 : wc.cell? ⟨bm, 0, none⟩ = some (.int .i64 mk) := (cell_blk hWc 0).trans rfl
                  have m1 : wc.cell? ⟨bm, 1, none⟩ = some (.int .u64 (ms : Int)) := (cell_blk hWc 1).trans rfl
                  have m2 : wc.cell? ⟨bm, 2, none⟩ = some (.int .u64 (mi : Int)) := (cell_blk hWc 2).trans rfl
                  have m3 : wc.cell? ⟨bm, 3, none⟩ = some (.int .u64 (mn : Int)) := (cell_blk hWc 3).trans rfl
                  have m4 : wc.cell? ⟨bm, 4, none⟩ = some (.int .u32 (mc : Int)) := (cell_blk hWc 4).trans rfl
                  have HI := hide (show i < 1099511627776 by omega)
                  clear h2 hbad hWc hown hbw c1
                  go_wp2_with (at_builtin; refine wpList_append_mark rfl _ _ rfl w1.heap.size u4 i (flatM acc) rfl (own_below HWC.out.2.1 ((Below.refl _ _).alloc (Nat.le_refl _) _)) wc.heap.size ⟨mk, ms, mi, mn, mc⟩ rfl (alloc_at _ _) HI.out (by have := HWC.out.2.2.size; simp; omega) ?_)
                  intro v6 w6 hown6 hgr
                  have hal : Below wc.heap.size wc (wc.alloc (.cells (Rec.Mk.cells ⟨mk, ms, mi, mn, mc⟩) 113)) := (Below.refl _ _).alloc (Nat.le_refl _) _
                  have hb6 : Below w1.heap.size w1 w6 := by
                    have h1 : Below w1.heap.size w1 (wc.alloc (.cells (Rec.Mk.cells ⟨mk, ms, mi, mn, mc⟩) 113)) := HWC.out.2.2.trans (hal.mono HWC.out.2.2.size)
                    exact below_grown h1 (own_below HWC.out.2.1 hal) hgr (Nat.le_refl _) (by have := HWC.out.2.2.size; simp; omega)
                  have HO := hide (show MarksAt w1 (k : Int) M R N (i + 1) mi (acc ++ [⟨mk, ms, mi, mn, mc⟩]) v6 w6 from by
                    refine ⟨by rw [List.length_append, HL.out.1]; rfl, ?_, ?_, hm3, ?_, hb6⟩
                    · rw [show N - (i + 1) = f by have := HF.out; omega]; exact HOK.out
                    · unfold lastIt; rw [List.getLast?_append]; rfl
                    · rw [flatM_snoc]; exact hown6)
                  clear hown6 hgr hal hb6 m0 m1 m2 m3 m4
                  go_wp2_with fail
                  go_roundg (N - (i + 1))
                  case measure => omega
                  case rel => exact ⟨i + 1, mi, _, rfl, by omega, by go_num, rfl, HO.out⟩
      · obtain rfl : i = N := by omega
        have h2 := HL.out.2.1
        rw [Nat.sub_self] at h2
        have HSM := hide (show some acc = R from h2)
        clear h2
        go_wp2_with fail
        go_meet
        case rel => exact ⟨acc, HSM.out.symm, by rw [HL.out.1]; exact HL.out.2.2.2.2.1, HL.out.2.2.2.2.2⟩
  case rest =>
    go_wp2_with fail
    go_ret2
    obtain ⟨ms, h1, h2, h3⟩ := hcut.out
    exact ⟨h3, .inr ⟨ms, _, h1, rfl, h2⟩⟩
end Go.Proofs.YtbfbajfdlkgloaaGreatDoor
