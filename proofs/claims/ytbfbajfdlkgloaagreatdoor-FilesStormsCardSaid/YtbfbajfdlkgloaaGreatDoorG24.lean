/-
  The program's store: check.
-/
import Derived.Test.YtbfbajfdlkgloaaGreatDoorG23
import Derived.Shelf.Strings.OnBuilder
import Derived.Shelf.Strings.Trim
import Derived.Test.YtbfbajfdlkgloaaGreatDoorProg

namespace Go.Proofs.YtbfbajfdlkgloaaGreatDoor
open Go Go.RowKit Go.Maps
set_option maxHeartbeats 1600000 in
set_option maxRecDepth 100000 in
theorem storeCheck_val (T : Fl.Blk) (dg : Nat) (s : Fl.St) (item : ByteArray) (mv : Value) (made : List ByteArray) (r : Int) (w : World) (h : StoreAt w T dg s) (hi : item.size ≤ 140737488351232) (hmv : SlV w mv (made.map Value.string)) (hml : made.length ≤ 140737488351232) (hms : ∀ d ∈ made, d.size ≤ 140737488351232) (hr : r = Fl.checkA s item made) :
    Calls Tryz.prog 57 #[.pointer (some ⟨T.g, 0, none⟩), .string item, mv] w fun e w' => e = .returned (.int .i64 r) ∧ w' = w := by
  obtain ⟨ad, cap, hv, hc, hx⟩ := h.form
  obtain ⟨n, hn⟩ : ∃ n, n = s.ends.length := ⟨_, rfl⟩
  have c1 := h.c1
  have c2 := h.c2
  have c4 := h.c4
  rw [hv, ← hn] at c2
  rw [← hn] at hc
  have hm := h.ok.many
  have hk := h.ok.strength
  have hfin := h.ok.fin
  rw [← hn] at hm
  obtain ⟨k, hkk⟩ : ∃ k, k = s.k := ⟨_, rfl⟩
  rw [← hkk] at c1 hk
  obtain ⟨lm, hlm⟩ : ∃ l, l = s.lame := ⟨_, rfl⟩
  rw [← hlm] at c4
  obtain ⟨Q, hQ⟩ : ∃ q, q = Fl.nodes n := ⟨_, rfl⟩
  obtain ⟨Q1, hQ1⟩ : ∃ q, q = Fl.nodes (n + 1) := ⟨_, rfl⟩
  have hQn : Q ≤ 2 * n := by rw [hQ]; exact nodes_le n
  have hQn1 : Q1 ≤ 2 * (n + 1) := by rw [hQ1]; exact nodes_le (n + 1)
  have hQQ : Q ≤ Q1 := by rw [hQ, hQ1]; exact Fl.nodes_mono n
  obtain ⟨fin, hf⟩ : ∃ f, f = s.fin := ⟨_, rfl⟩
  rw [← hf] at hfin
  have hfini : (fin : Int) ≤ 268435456 := by omega
  clear hfin
  have HT := hide h
  have HQ := hide hQ
  have HQ1 := hide hQ1
  have HF := hide hf
  obtain ⟨ml, ma, mc, hmll, rfl, hmc, hmx⟩ := hmv.form
  rw [List.length_map] at hmll
  have HR := hide (show r = if lm = true then 191 else if 1048576 < item.size then 100 else if 65536 ≤ n then 101 else if made.length ≠ Q1 - Q then 192 else if (made.all fun d => decide (d.size = k)) = false then 192 else if 268435456 < fin + 8 + item.size then 172 else 0 by
    rw [hr]; unfold Fl.checkA; rw [← hn, ← hlm, ← hQ, ← hQ1, ← hkk, ← hf])
  have HMX := hide hmx
  have HML := hide hmll
  have HMS := hide hms
  have hml2 : ml ≤ 140737488351232 := by omega
  clear h hv hx hn hkk hlm hQ hQ1 hf hr hmv hmx hms
  go_enter Tryz.func57, Tryz.ntmps57
  cases lm with
  | true =>
    have e := HR.out
    rw [if_pos rfl] at e
    subst e
    clear hmll
    go_wp2_with fail
    go_ret
    exact ⟨rfl, rfl⟩
  | false =>
    have e := HR.out
    rw [if_neg (by decide)] at e
    by_cases h1 : 1048576 < item.size
    · rw [if_pos h1] at e
      subst e
      have h1i : (1048576 : Int) < item.size := by omega
      clear hmll h1
      go_wp2_with fail
      go_ret
      exact ⟨rfl, rfl⟩
    · rw [if_neg h1] at e
      have h1i : ¬ (1048576 : Int) < item.size := by omega
      clear h1
      by_cases h2 : 65536 ≤ n
      · rw [if_pos h2] at e
        subst e
        have h2i : (65536 : Int) ≤ n := by omega
        clear hmll h2
        go_wp2_with fail
        go_ret
        exact ⟨rfl, rfl⟩
      · rw [if_neg h2] at e
        have h2i : ¬ (65536 : Int) ≤ n := by omega
        clear h2
        have hn1 : ((n + 1 : Nat) : Int) = (n : Int) + 1 := by omega
        by_cases h3 : made.length ≠ Q1 - Q
        · rw [if_pos h3] at e
          subst e
          have hne : ((ml : Int) != (Q1 : Int) - Q) = true := by simp; omega
          clear hmll
          go_wp2_with fail
          rw [← hn1]
          refine (nodes_val (n + 1) Q1 _ (by omega) HQ1.out).mono ?_
          rintro e w1 ⟨rfl, he⟩
          subst he
          clear hn1
          go_wp2_with fail
          refine (nodes_val n Q _ (by omega) HQ.out).mono ?_
          rintro e w1 ⟨rfl, he⟩
          subst he
          go_wp2_with fail
          go_ret
          exact ⟨rfl, rfl⟩
        · rw [if_neg h3] at e
          have hne : ((ml : Int) != (Q1 : Int) - Q) = false := by simp; omega
          have HE := hide e
          clear e hmll h3
          go_wp2_with fail
          rw [← hn1]
          refine (nodes_val (n + 1) Q1 _ (by omega) HQ1.out).mono ?_
          rintro e w1 ⟨rfl, he⟩
          subst he
          clear hn1
          go_wp2_with fail
          refine (nodes_val n Q _ (by omega) HQ.out).mono ?_
          rintro e w1 ⟨rfl, he⟩
          subst he
          go_wp2_with fail
          clear hne
          go_loopg [39] ml (fun g v39 wr => ∃ i : Nat, i ≤ ml ∧ g = ml - i ∧ v39 = .int .i64 i ∧ wr = w1 ∧ Hid (((made.take i).all fun d => decide (d.size = k)) = true))
          case atStart => exact ⟨0, Nat.zero_le _, rfl, rfl, rfl, rfl⟩
          case round =>
            obtain ⟨i, hil, rfl, rfl, rfl, HA⟩ := hrel
            by_cases hlt : i < ml
            · have hlt2 : (i : Int) < ml := by omega
              obtain ⟨b, off, rfl, hbw, hcell⟩ := HMX.out i hlt
              obtain ⟨d, hd⟩ : ∃ d, made[i]? = some d := ⟨_, List.getElem?_eq_getElem (by rw [← HML.out]; exact hlt)⟩
              have hds := HMS.out d (List.mem_of_getElem? hd)
              rw [List.getD_eq_getElem?_getD, List.getElem?_map, hd] at hcell
              replace hcell : _ = some (Value.string d) := hcell
              have HD := hide hd
              clear hd
              by_cases hz : d.size = k
              · have hz2 : ((d.size : Int) != (k : Int)) = false := by simp [hz]
                have HZ := hide hz
                clear hz
                go_wp2_with fail
                go_roundg (ml - (i + 1))
                case measure => omega
                case rel =>
                  refine ⟨i + 1, by omega, rfl, by go_num, rfl, ?_⟩
                  show ((made.take (i + 1)).all fun d => decide (d.size = k)) = true
                  rw [List.take_add_one, HD.out, List.all_append, HA.out]
                  simp [HZ.out]
              · have hz2 : ((d.size : Int) != (k : Int)) = true := by simp; omega
                have hr := HE.out
                rw [if_pos (by
                  rw [List.all_eq_false]
                  exact ⟨d, List.mem_of_getElem? HD.out, by simp [hz]⟩)] at hr
                subst hr
                clear hz
                go_wp2_with fail
                go_ret
                exact ⟨rfl, rfl⟩
            · obtain rfl : i = ml := by omega
              have hr := HE.out
              rw [if_neg (by
                have h := HA.out
                rw [List.take_of_length_le (by rw [HML.out]; exact Nat.le_refl _)] at h
                rw [h]; decide)] at hr
              by_cases h5 : 268435456 < fin + 8 + item.size
              · rw [if_pos h5] at hr
                subst hr
                have h5i : (268435456 : Int) < (fin : Int) + 8 + item.size := by omega
                clear h5 hlt
                go_wp2_with fail
                refine (storeEnd_val T dg s fin _ HT.out HF.out).mono ?_
                rintro e w1 ⟨rfl, he⟩
                subst he
                go_wp2_with fail
                go_ret
                exact ⟨rfl, rfl⟩
              · rw [if_neg h5] at hr
                subst hr
                have h5b : ((268435456 : Int) < (fin : Int) + 8 + item.size) = False := eq_false (by omega)
                clear h5 hlt
                go_wp2_with fail
                refine (storeEnd_val T dg s fin _ HT.out HF.out).mono ?_
                rintro e w1 ⟨rfl, he⟩
                subst he
                go_wp2_with fail
                go_ret
                exact ⟨rfl, rfl⟩
end Go.Proofs.YtbfbajfdlkgloaaGreatDoor

/-
  strings.Join and strings.Trim: the library's contracts laid at this program.
-/
namespace Go.Proofs
open Go.Shelf
def Tryz.lays156_ren : Go.Shelf.Ren := ⟨fun | 156 => 66 | 165 => 103 | 166 => 104 | 169 => 105 | 240 => 135 | 241 => 136 | 276 => 155 | 277 => 156 | n => n, fun | 31 => 22 | 9 => 9 | 3 => 3 | 4 => 4 | 0 => 0 | 20 => 20 | 72 => 151 | 76 => 155 | 70 => 149 | 37 => 46 | 75 => 154 | 127 => 181 | 164 => 194 | 5 => 5 | 80 => 157 | n => n, fun | n => n⟩
theorem Tryz.lays156 : Go.Proofs.Lays.n156 Tryz.prog Tryz.lays156_ren := {
  mixed := by kernel_rfl
  f156 := Tryz.func66.trans (congrArg some (by kernel_rfl))
  f165 := Tryz.func103.trans (congrArg some (by kernel_rfl))
  f166 := Tryz.func104.trans (congrArg some (by kernel_rfl))
  f169 := Tryz.func105.trans (congrArg some (by kernel_rfl))
  f240 := Tryz.func135.trans (congrArg some (by kernel_rfl))
  f241 := Tryz.func136.trans (congrArg some (by kernel_rfl))
  f276 := Tryz.func155.trans (congrArg some (by kernel_rfl))
  f277 := Tryz.func156.trans (congrArg some (by kernel_rfl))
  t0 := Tryz.underlying0
  a0 := Tryz.isAgg0
  z0 := Tryz.sizeOf0
  v0 := Tryz.zeroValue0
  t3 := Tryz.underlying3
  a3 := Tryz.isAgg3
  z3 := Tryz.sizeOf3
  v3 := Tryz.zeroValue3
  t4 := Tryz.underlying4
  a4 := Tryz.isAgg4
  z4 := Tryz.sizeOf4
  v4 := Tryz.zeroValue4
  t9 := Tryz.underlying9
  a9 := Tryz.isAgg9
  z9 := Tryz.sizeOf9
  v9 := Tryz.zeroValue9
  t20 := Tryz.underlying20
  a20 := Tryz.isAgg20
  z20 := Tryz.sizeOf20
  v20 := Tryz.zeroValue20
  t31 := Tryz.underlying22
  a31 := Tryz.isAgg22
  z31 := Tryz.sizeOf22
  v31 := Tryz.zeroValue22
  t37 := Tryz.underlying46
  a37 := Tryz.isAgg46
  z37 := Tryz.sizeOf46
  v37 := Tryz.zeroValue46
  t70 := Tryz.underlying149
  a70 := Tryz.isAgg149
  z70 := Tryz.sizeOf149
  v70 := Tryz.zeroValue149
  t72 := Tryz.underlying151
  a72 := Tryz.isAgg151
  z72 := Tryz.sizeOf151
  v72 := Tryz.zeroValue151
  t75 := Tryz.underlying154
  a75 := Tryz.isAgg154
  z75 := Tryz.sizeOf154
  v75 := Tryz.zeroValue154
  t76 := Tryz.underlying155
  a76 := Tryz.isAgg155
  z76 := Tryz.sizeOf155
  v76 := Tryz.zeroValue155
  t127 := Tryz.underlying181
  a127 := Tryz.isAgg181
  z127 := Tryz.sizeOf181
  v127 := Tryz.zeroValue181
  t164 := Tryz.underlying194
  a164 := Tryz.isAgg194
  z164 := Tryz.sizeOf194
  v164 := Tryz.zeroValue194 }
theorem Tryz.Builder_Extra_156 : Builder.Extra Tryz.prog Tryz.lays156_ren := {
  sizeBuilder := by kernel_rfl
  liesBuilder := by kernel_rfl
  t5 := Tryz.underlying5
  a5 := Tryz.isAgg5
  z5 := Tryz.sizeOf5
  v5 := Tryz.zeroValue5
  infoByte := by kernel_rfl
  cellsByte := by kernel_rfl
  sizeByte := by kernel_rfl
  neB5 := by decide }
open Go.RowKit in
theorem Tryz.strings_Join_none (a : Option Addr) (c : Nat) (sep : ByteArray) (w : World) :
    Calls Tryz.prog 66 #[.slice a 0 c, .string sep] w fun e w' => e = .returned (.string ⟨#[]⟩) ∧ w' = w := Any.strings_Join_none Tryz.lays156 Tryz.Builder_Extra_156 a c sep w
open Go.RowKit in
theorem Tryz.strings_Join (bk o c : Nat) (xs : List ByteArray) (sep : ByteArray) (w : World) (hcells : ∀ (j : Nat) x, xs[j]? = some x → w.cell? ⟨bk, o + j, none⟩ = some (.string x)) (hbk : bk < w.heap.size) (hN : xs.length ≤ 140737488355328) (hcap : xs.length ≤ c) (hlen : (Lib.join (xs.map (·.data.toList)) sep.data.toList).length ≤ 140737488355328) :
    Calls Tryz.prog 66 #[.slice (some ⟨bk, o, none⟩) xs.length c, .string sep] w fun e w' => e = .returned (.string ⟨(Lib.join (xs.map (·.data.toList)) sep.data.toList).toArray⟩) ∧ Below w.heap.size w w' := Any.strings_Join Tryz.lays156 Tryz.Builder_Extra_156 bk o c xs sep w hcells hbk hN hcap hlen
def Tryz.lays160_ren : Go.Shelf.Ren := ⟨fun | 160 => 96 | 232 => 128 | 231 => 127 | 227 => 129 | 234 => 131 | 233 => 130 | 236 => 133 | 235 => 132 | 228 => 151 | 271 => 154 | 151 => 153 | 197 => 152 | 120 => 172 | 152 => 171 | 260 => 170 | 137 => 179 | 119 => 180 | 224 => 181 | 225 => 182 | 217 => 184 | 266 => 185 | n => n, fun | 9 => 9 | 4 => 4 | 3 => 3 | 5 => 5 | 117 => 176 | 116 => 175 | 0 => 0 | 124 => 179 | 21 => 21 | 105 => 191 | 46 => 66 | 119 => 213 | 139 => 216 | 138 => 215 | n => n, fun | 3 => 1 | 4 => 2 | n => n⟩
theorem Tryz.lays160 : Go.Proofs.Lays.n160 Tryz.prog Tryz.lays160_ren := {
  mixed := by kernel_rfl
  f119 := Tryz.func180.trans (congrArg some (by kernel_rfl))
  f120 := Tryz.func172.trans (congrArg some (by kernel_rfl))
  f137 := Tryz.func179.trans (congrArg some (by kernel_rfl))
  f151 := Tryz.func153.trans (congrArg some (by kernel_rfl))
  f152 := Tryz.func171.trans (congrArg some (by kernel_rfl))
  f160 := Tryz.func96.trans (congrArg some (by kernel_rfl))
  f197 := Tryz.func152.trans (congrArg some (by kernel_rfl))
  f217 := Tryz.func184.trans (congrArg some (by kernel_rfl))
  f224 := Tryz.func181.trans (congrArg some (by kernel_rfl))
  f225 := Tryz.func182.trans (congrArg some (by kernel_rfl))
  f227 := Tryz.func129.trans (congrArg some (by kernel_rfl))
  f228 := Tryz.func151.trans (congrArg some (by kernel_rfl))
  f231 := Tryz.func127.trans (congrArg some (by kernel_rfl))
  f232 := Tryz.func128.trans (congrArg some (by kernel_rfl))
  f233 := Tryz.func130.trans (congrArg some (by kernel_rfl))
  f234 := Tryz.func131.trans (congrArg some (by kernel_rfl))
  f235 := Tryz.func132.trans (congrArg some (by kernel_rfl))
  f236 := Tryz.func133.trans (congrArg some (by kernel_rfl))
  f260 := Tryz.func170.trans (congrArg some (by kernel_rfl))
  f266 := Tryz.func185.trans (congrArg some (by kernel_rfl))
  f271 := Tryz.func154.trans (congrArg some (by kernel_rfl))
  t0 := Tryz.underlying0
  a0 := Tryz.isAgg0
  z0 := Tryz.sizeOf0
  v0 := Tryz.zeroValue0
  t3 := Tryz.underlying3
  a3 := Tryz.isAgg3
  z3 := Tryz.sizeOf3
  v3 := Tryz.zeroValue3
  t4 := Tryz.underlying4
  a4 := Tryz.isAgg4
  z4 := Tryz.sizeOf4
  v4 := Tryz.zeroValue4
  t5 := Tryz.underlying5
  a5 := Tryz.isAgg5
  z5 := Tryz.sizeOf5
  v5 := Tryz.zeroValue5
  t9 := Tryz.underlying9
  a9 := Tryz.isAgg9
  z9 := Tryz.sizeOf9
  v9 := Tryz.zeroValue9
  t21 := Tryz.underlying21
  a21 := Tryz.isAgg21
  z21 := Tryz.sizeOf21
  v21 := Tryz.zeroValue21
  t46 := Tryz.underlying66
  a46 := Tryz.isAgg66
  z46 := Tryz.sizeOf66
  v46 := Tryz.zeroValue66
  t105 := Tryz.underlying191
  a105 := Tryz.isAgg191
  z105 := Tryz.sizeOf191
  v105 := Tryz.zeroValue191
  t116 := Tryz.underlying175
  a116 := Tryz.isAgg175
  z116 := Tryz.sizeOf175
  t117 := Tryz.underlying176
  a117 := Tryz.isAgg176
  z117 := Tryz.sizeOf176
  v117 := Tryz.zeroValue176
  t119 := Tryz.underlying213
  a119 := Tryz.isAgg213
  z119 := Tryz.sizeOf213
  t124 := Tryz.underlying179
  a124 := Tryz.isAgg179
  z124 := Tryz.sizeOf179
  v124 := Tryz.zeroValue179
  t138 := Tryz.underlying215
  a138 := Tryz.isAgg215
  z138 := Tryz.sizeOf215
  v138 := Tryz.zeroValue215
  t139 := Tryz.underlying216
  a139 := Tryz.isAgg216
  z139 := Tryz.sizeOf216
  v139 := Tryz.zeroValue216
  g3 := by kernel_rfl
  g4 := by kernel_rfl }
open Go.RowKit in
theorem Tryz.strings_Trim_one (s : ByteArray) (c : UInt8) (hc : c.toNat < 128) (w : World) (hs : s.size ≤ 9223372036854775807) :
    Calls Tryz.prog 96 #[.string s, .string ⟨#[c]⟩] w fun e w' => e = .returned (.string ⟨(Lib.trimB s.data.toList c).toArray⟩) ∧ (w' = w ∨ w' = w.drew) := Any.strings_Trim_one Tryz.lays160 s c hc w hs
end Go.Proofs

/-
  What an act leaves of a disk in any state, said of the world; the acts with their answers named; strings.Join of records.
-/
namespace Go.Proofs.YtbfbajfdlkgloaaGreatDoor
open Go Go.RowKit Go.Maps
def TurnAt (D : Dk.Blk) (s : Dk.St) (B : Nat) (u : World) (s' : Dk.St) : Prop :=
  ∃ D' : Dk.Blk, D'.g = D.g ∧ D'.kv = D.kv ∧ (D'.mb = D.mb ∨ B ≤ D'.mb) ∧ (¬ (Dk.kindNow s = 4 ∨ Dk.kindNow s = 5) → D' = D) ∧ DiskAt u D' s'
theorem TurnAt.past {D : Dk.Blk} {s s' : Dk.St} {B : Nat} {u u' : World} (h : TurnAt D s B u s') (hb : Below u.heap.size u u') : TurnAt D s B u' s' := by
  obtain ⟨D', h1, h2, h3, h4, h5⟩ := h
  exact ⟨D', h1, h2, h3, h4, h5.past hb⟩
theorem Turns.at {D : Dk.Blk} {s s' : Dk.St} {w w' : World} {B : Nat} (h : Turns D s w w' s') (hB : B ≤ w.heap.size) : TurnAt D s B w' s' := by
  obtain ⟨D', h1, h2, h3, h4, h5, _⟩ := h
  exact ⟨D', h1, h2, h3.imp id (Nat.le_trans hB), h4, h5⟩
theorem Turns.moved {D : Dk.Blk} {s s' : Dk.St} {w w' : World} (h : Turns D s w w' s') : Moved (Dk.own D) w w' := by
  obtain ⟨D', h1, h2, h3, h4, h5, h6⟩ := h
  exact h6
theorem TurnAt.turns {D : Dk.Blk} {s s' : Dk.St} {w w' : World} (h : TurnAt D s w.heap.size w' s') (hm : Moved (Dk.own D) w w') : Turns D s w w' s' := by
  obtain ⟨D', h1, h2, h3, h4, h5⟩ := h
  exact ⟨D', h1, h2, h3, h4, h5, hm⟩
theorem writeA_val (D : Dk.Blk) (s s' : Dk.St) (n : ByteArray) (off : Int) (x : ByteArray) (r : Int) (w : World) (h : DiskAt w D s) (hn : n.size ≤ 140737488351232) (hx : x.size ≤ 140737488351232) (hk : (Lit.int .i64 off).wf = true) (hacts : s.acts < 4611686018427387904) (hmany : s.files.length < 1099511627776) (hkl : s.keep.length ≤ 140737488351232) (hr : Dk.writeA s n off x = (r, s')) :
    Calls Tryz.prog 23 #[.pointer (some ⟨D.g, 0, none⟩), .string n, .int .i64 off, .string x] w fun e w' => e = .returned (.int .i64 r) ∧ Turns D s w w' s' := by
  have h := diskWrite_any D s n off x w h hn hx hk hacts hmany hkl
  rw [hr] at h; exact h
theorem cutA_val (D : Dk.Blk) (s s' : Dk.St) (n : ByteArray) (k : Int) (r : Int) (w : World) (h : DiskAt w D s) (hn : n.size ≤ 140737488351232) (hk : (Lit.int .i64 k).wf = true) (hacts : s.acts < 4611686018427387904) (hmany : s.files.length < 1099511627776) (hkl : s.keep.length ≤ 140737488351232) (hr : Dk.cutA s n k = (r, s')) :
    Calls Tryz.prog 98 #[.pointer (some ⟨D.g, 0, none⟩), .string n, .int .i64 k] w fun e w' => e = .returned (.int .i64 r) ∧ Turns D s w w' s' := by
  have h := diskCut_any D s n k w h hn hk hacts hmany hkl
  rw [hr] at h; exact h
theorem syncA_val (D : Dk.Blk) (s s' : Dk.St) (n : ByteArray) (r : Int) (w : World) (h : DiskAt w D s) (hn : n.size ≤ 140737488351232) (hacts : s.acts < 4611686018427387904) (hmany : s.files.length < 1099511627776) (hkl : s.keep.length ≤ 140737488351232) (hr : Dk.syncA s n = (r, s')) :
    Calls Tryz.prog 68 #[.pointer (some ⟨D.g, 0, none⟩), .string n] w fun e w' => e = .returned (.int .i64 r) ∧ Turns D s w w' s' := by
  have h := diskSync_any D s n w h hn hacts hmany hkl
  rw [hr] at h; exact h
theorem Fl.catAll_bytes (l : List ByteArray) : bytesOf (Fl.catAll l) = (l.map bytesOf).flatten := by
  have h : ∀ (l : List ByteArray) (s : ByteArray), bytesOf (Rec.catB s l) = bytesOf s ++ (l.map bytesOf).flatten := by
    intro l
    induction l with
    | nil => intro s; simp [Rec.catB]
    | cons x l ih =>
      intro s
      show bytesOf (Rec.catB (s ++ x) l) = _
      rw [ih, Rec.bytes_append]
      simp
  have := h l ⟨#[]⟩
  unfold Fl.catAll
  rw [this]
  rfl
theorem Fl.join_empty (xs : List (List UInt8)) : Lib.join xs [] = xs.flatten := by
  unfold Lib.join
  induction xs with
  | nil => rfl
  | cons x xs ih =>
    cases xs with
    | nil => simp [List.intercalate]
    | cons y ys =>
      simp only [List.intercalate, List.intersperse] at ih ⊢
      simp_all
theorem join_val (v : Value) (xs : List ByteArray) (x : ByteArray) (w : World) (hv : SlV w v (xs.map Value.string)) (hn : xs.length ≤ 140737488351232) (hx : x = Fl.catAll xs) (hz : x.size ≤ 140737488351232) :
    Calls Tryz.prog 66 #[v, .string ⟨#[]⟩] w fun e w' => e = .returned (.string x) ∧ Below w.heap.size w w' := by
  have e : bytesOf x = Lib.join (xs.map (·.data.toList)) [] := by rw [hx, Fl.catAll_bytes, Fl.join_empty]; rfl
  rcases hv with ⟨h0, a, cap, rfl, _⟩ | ⟨b, off, cap, rfl, hc, hb, hcell⟩
  · have hxs : xs = [] := by simpa using h0
    subst hxs
    refine (Tryz.strings_Join_none a cap ⟨#[]⟩ w).mono ?_
    rintro e2 w' ⟨rfl, rfl⟩
    refine ⟨?_, Below.refl _ _⟩
    rw [hx]; rfl
  · rw [List.length_map] at hc ⊢
    refine (Tryz.strings_Join b off cap xs ⟨#[]⟩ w (fun j y hy => ?_) hb (by omega) hc ?_).mono ?_
    · obtain ⟨hj, rfl⟩ := List.getElem?_eq_some_iff.1 hy
      rw [hcell j (by rw [List.length_map]; exact hj)]; simp
    · show (Lib.join (xs.map (·.data.toList)) []).length ≤ _
      rw [← e, Rec.bytes_length]; omega
    · rintro e2 w' ⟨rfl, hb2⟩
      refine ⟨?_, hb2⟩
      congr 2
      apply Rec.bytes_inj
      rw [e]; rfl
end Go.Proofs.YtbfbajfdlkgloaaGreatDoor
