/-
  slices.Sorted over maps.Keys of a map of texts answers the keys in order: the library's contracts laid at this program. Conditions: the map holds at most maxLen entries.
-/
import Derived.Shelf.SlIter.Nil
import Derived.Shelf.SortM.Plain
import Derived.Shelf.SortM.SortNone
import Derived.Ground.GgzProg
import Derived.Ground.SlgmProg
import Derived.Test.YtbfbajfdlkgloaaGreatDoorProg
import Derived.Test.YtbfbajfdlkgloaaGreatDoorG05
import Derived.Lib.SlicesS
import Derived.BigQuiet
import Derived.WalkSmall

namespace Go.Proofs
open Go.Shelf
def Tryz.keys94_ren : Go.Shelf.Ren := ⟨fun | 7 => 94 | 10 => 126 | n => n, fun | 23 => 85 | 26 => 9 | 3 => 96 | 28 => 139 | 0 => 0 | 27 => 138 | 33 => 164 | 4 => 4 | n => n, fun | n => n⟩
theorem Tryz.keys94 : Go.Proofs.SlLaysZ.n7 Tryz.prog Tryz.keys94_ren := {
  mixed := by kernel_rfl
  f7 := ⟨Tryz.f94.name, by decide, Tryz.func94.trans (congrArg some (by kernel_rfl))⟩
  f10 := ⟨Tryz.f126.name, by decide, Tryz.func126.trans (congrArg some (by kernel_rfl))⟩
  t0 := Tryz.underlying0
  a0 := Tryz.isAgg0
  z0 := Tryz.sizeOf0
  v0 := Tryz.zeroValue0
  t4 := Tryz.underlying4
  a4 := Tryz.isAgg4
  z4 := Tryz.sizeOf4
  v4 := Tryz.zeroValue4
  t23 := Tryz.underlying85
  a23 := Tryz.isAgg85
  z23 := Tryz.sizeOf85
  v23 := Tryz.zeroValue85
  t26 := Tryz.underlying9
  a26 := Tryz.isAgg9
  z26 := Tryz.sizeOf9
  v26 := Tryz.zeroValue9
  t27 := Tryz.underlying138
  a27 := Tryz.isAgg138
  z27 := Tryz.sizeOf138
  v27 := Tryz.zeroValue138
  t28 := Tryz.underlying139
  a28 := Tryz.isAgg139
  z28 := Tryz.sizeOf139
  v28 := Tryz.zeroValue139
  t33 := Tryz.underlying164
  a33 := Tryz.isAgg164
  z33 := Tryz.sizeOf164
  v33 := Tryz.zeroValue164 }
def Tryz.sorted93_ren : Go.Shelf.Ren := ⟨fun | 6 => 93 | 8 => 124 | 9 => 125 | 11 => 148 | 13 => 150 | 12 => 149 | 23 => 168 | 24 => 169 | 14 => 159 | 15 => 160 | 16 => 161 | 17 => 162 | 18 => 163 | 19 => 164 | 20 => 165 | 21 => 166 | 22 => 167 | 25 => 173 | 26 => 174 | 27 => 175 | 28 => 176 | 29 => 177 | 30 => 178 | 31 => 183 | n => n, fun | 26 => 9 | 28 => 139 | 24 => 22 | 0 => 0 | 3 => 3 | 37 => 66 | 48 => 91 | 50 => 45 | 4 => 4 | 40 => 200 | 39 => 199 | 45 => 82 | 5 => 5 | 9 => 9 | 51 => 208 | 55 => 211 | 57 => 220 | 58 => 221 | 33 => 164 | n => n, fun | n => n⟩
theorem Tryz.sorted93 : Go.Proofs.SlLaysZ.n6 Tryz.prog Tryz.sorted93_ren := {
  mixed := by kernel_rfl
  f6 := ⟨Tryz.f93.name, by decide, Tryz.func93.trans (congrArg some (by kernel_rfl))⟩
  f8 := ⟨Tryz.f124.name, by decide, Tryz.func124.trans (congrArg some (by kernel_rfl))⟩
  f11 := ⟨Tryz.f148.name, by decide, Tryz.func148.trans (congrArg some (by kernel_rfl))⟩
  t0 := Tryz.underlying0
  a0 := Tryz.isAgg0
  z0 := Tryz.sizeOf0
  v0 := Tryz.zeroValue0
  t24 := Tryz.underlying22
  a24 := Tryz.isAgg22
  z24 := Tryz.sizeOf22
  v24 := Tryz.zeroValue22
  t26 := Tryz.underlying9
  a26 := Tryz.isAgg9
  z26 := Tryz.sizeOf9
  v26 := Tryz.zeroValue9
  t28 := Tryz.underlying139
  a28 := Tryz.isAgg139
  z28 := Tryz.sizeOf139
  v28 := Tryz.zeroValue139
  i26 := by kernel_rfl }
def Tryz.sort125_ren : Go.Shelf.Ren := ⟨fun | 6 => 125 | 8 => 150 | 9 => 149 | 19 => 168 | 20 => 169 | 21 => 159 | 22 => 160 | 23 => 161 | 24 => 162 | 25 => 163 | 26 => 164 | 27 => 165 | 28 => 166 | 29 => 167 | 36 => 173 | 31 => 174 | 32 => 175 | 37 => 176 | 38 => 177 | 39 => 178 | 41 => 183 | n => n, fun | 27 => 22 | 29 => 9 | 3 => 3 | 32 => 66 | 26 => 22 | 0 => 0 | 44 => 91 | 46 => 45 | 4 => 4 | 36 => 200 | 35 => 199 | 41 => 82 | 5 => 5 | 9 => 9 | 53 => 208 | 57 => 211 | 63 => 220 | 64 => 221 | n => n, fun | n => n⟩
theorem Tryz.sort125 : Go.Proofs.SlLaysM.n6 Tryz.prog Tryz.sort125_ren := {
  mixed := by kernel_rfl
  f6 := ⟨Tryz.f125.name, by decide, Tryz.func125.trans (congrArg some (by kernel_rfl))⟩
  f8 := Tryz.func150.trans (congrArg some (by kernel_rfl))
  f9 := ⟨Tryz.f149.name, by decide, Tryz.func149.trans (congrArg some (by kernel_rfl))⟩
  f19 := Tryz.func168.trans (congrArg some (by kernel_rfl))
  f20 := Tryz.func169.trans (congrArg some (by kernel_rfl))
  f21 := ⟨Tryz.f159.name, by decide, Tryz.func159.trans (congrArg some (by kernel_rfl))⟩
  f22 := ⟨Tryz.f160.name, by decide, Tryz.func160.trans (congrArg some (by kernel_rfl))⟩
  f23 := ⟨Tryz.f161.name, by decide, Tryz.func161.trans (congrArg some (by kernel_rfl))⟩
  f24 := ⟨Tryz.f162.name, by decide, Tryz.func162.trans (congrArg some (by kernel_rfl))⟩
  f25 := ⟨Tryz.f163.name, by decide, Tryz.func163.trans (congrArg some (by kernel_rfl))⟩
  f26 := ⟨Tryz.f164.name, by decide, Tryz.func164.trans (congrArg some (by kernel_rfl))⟩
  f27 := ⟨Tryz.f165.name, by decide, Tryz.func165.trans (congrArg some (by kernel_rfl))⟩
  f28 := ⟨Tryz.f166.name, by decide, Tryz.func166.trans (congrArg some (by kernel_rfl))⟩
  f29 := ⟨Tryz.f167.name, by decide, Tryz.func167.trans (congrArg some (by kernel_rfl))⟩
  f31 := Tryz.func174.trans (congrArg some (by kernel_rfl))
  f32 := Tryz.func175.trans (congrArg some (by kernel_rfl))
  f36 := ⟨Tryz.f173.name, by decide, Tryz.func173.trans (congrArg some (by kernel_rfl))⟩
  f37 := ⟨Tryz.f176.name, by decide, Tryz.func176.trans (congrArg some (by kernel_rfl))⟩
  f38 := ⟨Tryz.f177.name, by decide, Tryz.func177.trans (congrArg some (by kernel_rfl))⟩
  f39 := ⟨Tryz.f178.name, by decide, Tryz.func178.trans (congrArg some (by kernel_rfl))⟩
  f41 := ⟨Tryz.f183.name, by decide, Tryz.func183.trans (congrArg some (by kernel_rfl))⟩
  t0 := Tryz.underlying0
  a0 := Tryz.isAgg0
  z0 := Tryz.sizeOf0
  v0 := Tryz.zeroValue0
  t3 := Tryz.underlying3
  a3 := Tryz.isAgg3
  z3 := Tryz.sizeOf3
  v3 := Tryz.zeroValue3
  t4 := Tryz.underlying4
  a4 := Tryz.isAgg4
  z4 := Tryz.sizeOf4
  v4 := Tryz.zeroValue4
  t5 := Tryz.underlying5
  a5 := Tryz.isAgg5
  z5 := Tryz.sizeOf5
  v5 := Tryz.zeroValue5
  t9 := Tryz.underlying9
  a9 := Tryz.isAgg9
  z9 := Tryz.sizeOf9
  v9 := Tryz.zeroValue9
  t26 := Tryz.underlying22
  a26 := Tryz.isAgg22
  z26 := Tryz.sizeOf22
  v26 := Tryz.zeroValue22
  t27 := Tryz.underlying22
  a27 := Tryz.isAgg22
  z27 := Tryz.sizeOf22
  v27 := Tryz.zeroValue22
  t29 := Tryz.underlying9
  a29 := Tryz.isAgg9
  z29 := Tryz.sizeOf9
  v29 := Tryz.zeroValue9
  t32 := Tryz.underlying66
  a32 := Tryz.isAgg66
  z32 := Tryz.sizeOf66
  v32 := Tryz.zeroValue66
  t35 := Tryz.underlying199
  a35 := Tryz.isAgg199
  z35 := Tryz.sizeOf199
  v35 := Tryz.zeroValue199
  t36 := Tryz.underlying200
  a36 := Tryz.isAgg200
  z36 := Tryz.sizeOf200
  v36 := Tryz.zeroValue200
  t41 := Tryz.underlying82
  a41 := Tryz.isAgg82
  z41 := Tryz.sizeOf82
  v41 := Tryz.zeroValue82
  t44 := Tryz.underlying91
  a44 := Tryz.isAgg91
  z44 := Tryz.sizeOf91
  v44 := Tryz.zeroValue91
  t46 := Tryz.underlying45
  a46 := Tryz.isAgg45
  z46 := Tryz.sizeOf45
  v46 := Tryz.zeroValue45
  t53 := Tryz.underlying208
  a53 := Tryz.isAgg208
  z53 := Tryz.sizeOf208
  v53 := Tryz.zeroValue208
  t57 := Tryz.underlying211
  a57 := Tryz.isAgg211
  z57 := Tryz.sizeOf211
  v57 := Tryz.zeroValue211
  t63 := Tryz.underlying220
  a63 := Tryz.isAgg220
  z63 := Tryz.sizeOf220
  v63 := Tryz.zeroValue220
  t64 := Tryz.underlying221
  a64 := Tryz.isAgg221
  z64 := Tryz.sizeOf221
  v64 := Tryz.zeroValue221 }
open Go.RowKit Go.Maps Go.Sort in
theorem Tryz.sorts93 (m : Nat) : AnyZ.SortsIn Tryz.prog Tryz.sorted93_ren Fence.wide m :=
  ⟨fun blk off cap ss W hH hblk hsz => callsIn_wide.2 (AnyM.slices_Sort_string Tryz.sort125 blk off cap ss W hH hblk hsz),
   fun p cap W => callsIn_wide.2 (AnyM.slices_Sort_string_none Tryz.sort125 p cap W)⟩
open Go.RowKit Go.Maps Go.Sort in
theorem Tryz.maps_Keys_94 (mb : Option Nat) (W : World) : CallsIn Fence.wide 5 Tryz.prog 94 #[.map mb] W fun e w' => e = .returned (.func (.func 126) #[] #[.pointer (some ⟨W.heap.size, 0, none⟩)]) ∧ w' = W.alloc (.cells #[.map mb] 85) :=
  AnyZ.keys_in Tryz.keys94 Fence.wide 5 trivial rfl mb W
open Go.RowKit Go.Maps Go.Sort in
theorem Tryz.slices_Sorted_keys_93_94 {H : Type} (b nn : Nat) (D0 : DataW H) (R : Value → Option (DataW H × List MemPlace)) (w : World) (hown : w.ownsMap Tryz.prog 9 R b nn D0) (hmax : Maps.size D0 ≤ maxLen) (hbytes : Maps.size D0 * 16 ≤ 140737488355328) :
    CallsIn Fence.wide 5 Tryz.prog 93 #[.func (.func 126) #[] #[.pointer (some ⟨w.heap.size, 0, none⟩)]] (w.alloc (.cells #[.map (some b)] 85)) fun e w' => ∃ (v : Value) (ss : List (List UInt8)), e = .returned v ∧ ss.Perm (strKeys D0) ∧
      w'.ownsRow (w.alloc (.cells #[.map (some b)] 85)).heap.size 9 1 v ss.length ((ss.mergeSort (fun x y => decide (x ≤ y))).map encStr) ∧ (v = .slice none 0 0 ↔ ss = []) ∧ Below (w.alloc (.cells #[.map (some b)] 85)).heap.size (w.alloc (.cells #[.map (some b)] 85)) w' := by
  have hbl := hown.lt
  have hseq : SeqGives Fence.wide 2 Tryz.prog 126 #[.pointer (some ⟨w.heap.size, 0, none⟩)] encStr (fun ss => ss.Perm (strKeys D0)) (Maps.size D0) (w.alloc (.cells #[.map (some b)] 85)) :=
    AnyZ.keys_gives (ρ := Tryz.keys94_ren) { Tryz.keys94 with } Fence.wide _ trivial rfl (by omega) w.heap.size b nn D0 _ (by simp) (by simp) (by
      obtain ⟨es, clock, hb, Ft, hs, hD⟩ := hown
      exact ⟨es, clock, (Below.heap_alloc _ _ b hbl).trans hb, Ft, hs, hD⟩)
  exact AnyZ.sorted_in Tryz.sorted93 Fence.wide 5 trivial trivial trivial trivial rfl (by omega) (Tryz.sorts93 _) (enters_of Tryz.func125 (by kernel_rfl) rfl) 126 #[.pointer (some ⟨w.heap.size, 0, none⟩)] trivial (enters_of Tryz.func126 (by kernel_rfl) rfl) _ _ hmax hbytes _ hseq
open Go.RowKit Go.Maps Go.Sort in
theorem Tryz.slices_Sorted_keys_nil_93_94 (w : World) :
    CallsIn Fence.wide 5 Tryz.prog 93 #[.func (.func 126) #[] #[.pointer (some ⟨w.heap.size, 0, none⟩)]] (w.alloc (.cells #[.map none] 85)) fun e w' => ∃ (v : Value) (ss : List (List UInt8)), e = .returned v ∧ ss = [] ∧
      w'.ownsRow (w.alloc (.cells #[.map none] 85)).heap.size 9 1 v ss.length ((ss.mergeSort (fun x y => decide (x ≤ y))).map encStr) ∧ (v = .slice none 0 0 ↔ ss = []) ∧ Below (w.alloc (.cells #[.map none] 85)).heap.size (w.alloc (.cells #[.map none] 85)) w' := by
  have hseq : SeqGives Fence.wide 2 Tryz.prog 126 #[.pointer (some ⟨w.heap.size, 0, none⟩)] encStr (fun ss : List (List UInt8) => ss = []) 0 (w.alloc (.cells #[.map none] 85)) :=
    AnyZ.keys_gives_nil (ρ := Tryz.keys94_ren) { Tryz.keys94 with } Fence.wide _ trivial rfl w.heap.size _ (by simp) (by simp)
  exact AnyZ.sorted_in Tryz.sorted93 Fence.wide 5 trivial trivial trivial trivial rfl (by omega) (Tryz.sorts93 _) (enters_of Tryz.func125 (by kernel_rfl) rfl) 126 #[.pointer (some ⟨w.heap.size, 0, none⟩)] trivial (enters_of Tryz.func126 (by kernel_rfl) rfl) _ 0 (Nat.zero_le _) (by omega) _ hseq
end Go.Proofs

/-
  The program's disk: told: the files of which a function makes a text with bytes, by the names, rising.
-/
namespace Go.Proofs.YtbfbajfdlkgloaaGreatDoor
open Go Go.RowKit Go.Maps
namespace Dk
theorem le_of_before : ∀ a b : List UInt8, bytesBefore a b = true → a ≤ b
  | [], b, _ => List.nil_le b
  | x :: r, [], h => by cases h
  | x :: r, y :: s, h => by
    unfold bytesBefore at h
    rw [Bool.or_eq_true, Bool.and_eq_true, beq_iff_eq] at h
    rcases h with h | ⟨rfl, h⟩
    · exact List.le_of_lt (List.Lex.rel (by simpa using h))
    · exact List.cons_le_cons_iff.2 (.inr ⟨rfl, le_of_before r s h⟩)
theorem keys_sorted {l : Fs} (h : Up l) : (l.map fun p => key p.1).Pairwise (fun a b => leB a b = true) := by
  rw [List.pairwise_map]
  exact List.Pairwise.imp (fun {p q} hb => decide_eq_true (le_of_before _ _ hb)) h
theorem strKeys_dat (l : Fs) : strKeys (dat l) = l.map fun p => key p.1 := by
  show (l.map litF).map (fun p => strOf p.1) = _
  rw [List.map_map]
  rfl
theorem sorted_keys {l : Fs} (h : Up l) {ss : List (List UInt8)} (hp : ss.Perm (strKeys (dat l))) : ss.mergeSort (fun x y => decide (x ≤ y)) = l.map fun p => key p.1 := by
  have e : ss.mergeSort leB = (strKeys (dat l)).mergeSort leB := mergeSort_of_perm hp
  show ss.mergeSort leB = _
  rw [e, strKeys_dat]
  exact List.mergeSort_of_pairwise (keys_sorted h)
theorem enc_key (l : Fs) : (l.map fun p => key p.1).map encStr = l.map fun p => Value.string p.1 := by
  rw [List.map_map]
  apply List.map_congr_left
  intro p _
  show Value.string ⟨p.1.data.toList.toArray⟩ = _
  simp
end Dk
/-! ### lists of files, two cells each -/
def flatF (l : List (ByteArray × ByteArray)) : List Value := l.flatMap fun p => [.string p.1, .string p.2]
theorem flatF_len (l : List (ByteArray × ByteArray)) : (flatF l).length = l.length * 2 := by
  unfold flatF
  induction l with
  | nil => rfl
  | cons p l ih => rw [List.flatMap_cons, List.length_append, ih]; simp; omega
theorem flatF_snoc (l : List (ByteArray × ByteArray)) (p : ByteArray × ByteArray) : flatF (l ++ [p]) = flatF l ++ [.string p.1, .string p.2] := by
  unfold flatF; rw [List.flatMap_append]; rfl
theorem info_file : (Tryz.prog.info? 51).map (fun i => (i.zero, i.size, i.bytes)) = some (some (.agg #[.string ByteArray.empty, .string ByteArray.empty]), 2, 32) := by kernel_rfl
theorem own_moved {w w' : World} {S : Nat → Prop} {base e size : Nat} {v : Value} {n : Nat} {xs : List Value} (h : w.ownsRow base e size v n xs) (hm : Moved S w w') (hs : ∀ k, base ≤ k → k < w.heap.size → ¬ S k) : w'.ownsRow base e size v n xs := by
  obtain ⟨h1, h2⟩ := h
  refine ⟨h1, ?_⟩
  rcases h2 with h2 | ⟨g, cap, cur, hv, hg, hh, r⟩
  · exact .inl h2
  · exact .inr ⟨g, cap, cur, hv, hg, (hm.block g (heap_lt hh) (hs g hg (heap_lt hh))).trans hh, r⟩
theorem own_base {w : World} {base base' e size : Nat} {v : Value} {n : Nat} {xs : List Value} (h : w.ownsRow base e size v n xs) (hb : base' ≤ base) : w.ownsRow base' e size v n xs := by
  obtain ⟨h1, h2⟩ := h
  refine ⟨h1, ?_⟩
  rcases h2 with h2 | ⟨g, cap, cur, hv, hg, r⟩
  · exact .inl h2
  · exact .inr ⟨g, cap, cur, hv, Nat.le_trans hb hg, r⟩
theorem wpList_append_file {ops : Array Oper} {rest : List Oper} {o : Oper} {a : Act} {w : World} {Q : Exit → Act → World → Prop} (hgd : o.guard = none) (s x : Operand)
    (ho : o.op = .call { callee := .builtin .append, args := #[s, x], argTypes := #[32, 32] })
    (base : Nat) (v : Value) (n : Nat) (xs : List Value) (hs : a.eval s = v) (hown : w.ownsRow base 51 2 v n xs) (B : Nat) (p q : ByteArray)
    (hx : a.eval x = .slice (some ⟨B, 0, none⟩) 1 1) (hB : w.heap[B]? = some (.cells #[.string p, .string q] 51)) (hn : n < 1099511627776) (hbase : base ≤ w.heap.size)
    (h : ∀ v' w', w'.ownsRow base 51 2 v' (n + 1) (xs ++ [.string p, .string q]) → w.grownBy w' v.ownBlock → wpList Tryz.prog ops Q rest (a.put o.dst v') w') : wpList Tryz.prog ops Q (o :: rest) a w := by
  obtain ⟨i, hi, hz0, hz1, hz2⟩ := info_parts info_file
  refine wpList_append_own (w := w) hgd s x 32 ho base 51 i _ 2 32 Tryz.underlying32 hi hz0 hz1 hz2 rfl (by decide) v n xs hs hown ⟨B, 0, none⟩ 1 1 [.string p, .string q] hx rfl ?_ ?_ (by unfold maxLen; omega) (by omega) hbase (fun v' w' h2 h3 _ => h v' w' h2 h3)
  · intro j u hj
    rw [Addr.add_lit, cell_blk hB]
    rcases j with _|_|j
    · simpa using hj
    · simpa using hj
    · simp at hj
  · intro u hu
    simp only [List.mem_cons, List.mem_nil_iff, or_false] at hu
    rcases hu with rfl | rfl <;> rfl
end Go.Proofs.YtbfbajfdlkgloaaGreatDoor

/-
  The program's disk: told: the walk, for whatever function value is handed in.
-/
namespace Go.Proofs.YtbfbajfdlkgloaaGreatDoor
open Go Go.RowKit Go.Maps
namespace Dk
/-- What is told where the files' texts are R. -/
def pick (l : Fs) (R : List ByteArray) : List (ByteArray × ByteArray) := ((l.map Prod.fst).zip R).filter fun q => !decide (q.2 = ⟨#[]⟩)
theorem pick_step {l : Fs} {R : List ByteArray} {j : Nat} {p : ByteArray × F} {r : ByteArray} (hp : l[j]? = some p) (hr : R[j]? = some r) :
    pick (l.take (j + 1)) (R.take (j + 1)) = pick (l.take j) (R.take j) ++ if r = ⟨#[]⟩ then [] else [(p.1, r)] := by
  obtain ⟨hj, rfl⟩ := List.getElem?_eq_some_iff.1 hp
  obtain ⟨hj2, rfl⟩ := List.getElem?_eq_some_iff.1 hr
  unfold pick
  rw [List.take_succ_eq_append_getElem hj, List.take_succ_eq_append_getElem hj2, List.map_append, List.zip_append (by simp; omega), List.filter_append]
  congr 1
  by_cases h : R[j] = ⟨#[]⟩
  · simp [h]
  · simp [h]
theorem get_at {l : Fs} (h : Up l) {p : ByteArray × F} (hp : p ∈ l) : get l p.1 = p.2 := by
  have hu := up_unique h
  unfold get
  induction l with
  | nil => cases hp
  | cons q l ih =>
    obtain ⟨h1, h2⟩ := List.pairwise_cons.1 hu
    rw [List.find?_cons]
    rcases List.mem_cons.1 hp with rfl | hp
    · simp
    · rw [decide_eq_false (h1 p hp)]
      exact ih (List.pairwise_cons.1 h).2 hp h2
theorem pick_le (l : Fs) (R : List ByteArray) : (pick l R).length ≤ l.length := by
  unfold pick
  refine Nat.le_trans (List.length_filter_le _ _) ?_
  rw [List.length_zip, List.length_map]; omega
end Dk
set_option maxHeartbeats 1600000 in
set_option maxRecDepth 100000 in
theorem diskTold_any {I : Nat → World → Prop} {S : Nat → Prop} (D : Dk.Blk) (s : Dk.St) (cf : Nat) (caps : Array Value) (R : List ByteArray) (w : World) (h : DiskAt w D s) (hRl : R.length = s.files.length)
    (hent : ∀ (args : Array Value) (u : World), (callFunc cf args).run Tryz.prog u = .ok (.enter cf args) u) (haway : Dk.Away D S) (hSlt : ∀ k, S k → k < w.heap.size)
    (hI0 : I 0 w) (hst : ∀ j u u', I j u → Below w.heap.size u u' → I j u')
    (hof : ∀ j p r u, s.files[j]? = some p → R[j]? = some r → I j u → Calls Tryz.prog cf (#[Dk.valF p.2] ++ caps) u fun e u' => e = .returned (.string r) ∧ I (j + 1) u' ∧ Moved S u u') :
    Calls Tryz.prog 44 #[.pointer (some ⟨D.g, 0, none⟩), .func (.func cf) #[] caps] w fun e w' => ∃ v, e = .returned v ∧ w'.ownsRow w.heap.size 51 2 v (Dk.pick s.files R).length (flatF (Dk.pick s.files R)) ∧ I s.files.length w' ∧ Moved S w w' := by
  have c1 := h.c1
  have HD := hide h
  have HOF := hide hof
  have HST := hide hst
  clear h hof hst
  go_enter Tryz.func44, Tryz.ntmps44
  go_wp2_with fail
  refine (callsIn_wide.1 (Tryz.maps_Keys_94 (some D.mb) w)).mono ?_
  rintro e w1 ⟨rfl, rfl⟩
  go_wp2_with fail
  refine (callsIn_wide.1 (Tryz.slices_Sorted_keys_93_94 D.mb s.files.length (Dk.dat s.files) Dk.R w HD.out.map ?_ ?_)).mono ?_
  · have := HD.out.ok.many
    show (s.files.map Dk.litF).length ≤ maxLen
    rw [List.length_map]; unfold maxLen; omega
  · have := HD.out.ok.many
    show (s.files.map Dk.litF).length * 16 ≤ _
    rw [List.length_map]; omega
  rintro e w2 ⟨v, ss, rfl, hperm, hrow, hnil, hb⟩
  rw [Dk.sorted_keys HD.out.ok.up hperm, Dk.enc_key] at hrow
  have hlen : ss.length = s.files.length := by rw [hperm.length_eq, Dk.strKeys_dat, List.length_map]
  rw [hlen] at hrow
  have hbw : Below w.heap.size w w2 := ((Below.refl _ _).alloc (Nat.le_refl _) _).trans (hb.mono (by simp))
  have hblk := hrow.lt
  obtain ⟨len, a, cap, hll, rfl, hlc, HCv⟩ := (slv_of_owns hrow).form
  have HBK := hide (show ∀ k, Value.ownBlock (.slice a len cap) = some k → w.heap.size ≤ k from fun k hk => by have := (hblk k hk).1; simp at this; omega)
  clear hblk
  rw [List.length_map] at hll
  have HCC := hide HCv
  have HL := hide hll
  have hmany : len ≤ 1099511627776 := by rw [hll]; exact HD.out.ok.many
  obtain ⟨B2, hB2⟩ : ∃ B, B = w2.heap.size := ⟨_, rfl⟩
  have HB2 := hide (show w.heap.size ≤ B2 ∧ B2 ≤ w2.heap.size from ⟨by rw [hB2]; exact hbw.size, by omega⟩)
  have HBW := hide hbw
  have HI := hide (HST.out 0 w w2 hI0 hbw)
  have HE2 := hide (show B2 = w2.heap.size from hB2)
  have HRL := hide hRl
  clear hperm hrow hnil hb hlen hbw HCv hll hI0 hB2 hRl
  go_wp2_with fail
  go_loopg [5, 16] len (fun q v5 v16 wr => ∃ j : Nat, j ≤ len ∧ q = len - j ∧ v16 = .int .i64 j ∧ Hid (wr.ownsRow B2 51 2 v5 (Dk.pick (s.files.take j) (R.take j)).length (flatF (Dk.pick (s.files.take j) (R.take j))) ∧ I j wr ∧ Moved S w wr ∧ Moved S w2 wr ∧ B2 ≤ wr.heap.size))
  case atStart => exact ⟨0, by omega, rfl, rfl, World.ownsRow_nil _ _ _ _, HI.out, Moved.of_below HBW.out, Moved.refl _ _, HB2.out.2⟩
  case round =>
    obtain ⟨j, hj, rfl, rfl, HQ⟩ := hrel
    by_cases hjl : j < len
    · have hjf : j < s.files.length := by rw [← HL.out]; exact hjl
      obtain ⟨p, hp⟩ : ∃ p, s.files[j]? = some p := ⟨_, List.getElem?_eq_getElem hjf⟩
      obtain ⟨r, hr⟩ : ∃ r, R[j]? = some r := ⟨_, List.getElem?_eq_getElem (by rw [HRL.out]; exact hjf)⟩
      obtain ⟨b, off, rfl, hbw, hcell⟩ := HCC.out j hjl
      have hbS : ¬ S b := fun hS => by
        have h1 := HBK.out b rfl
        have h2 := hSlt b hS
        omega
      have hc0 : wr.cell? ⟨b, off + j, none⟩ = some (.string p.1) := by
        rw [World.cell?_of_block (a := ⟨b, off + j, none⟩) (HQ.out.2.2.2.1.block b hbw hbS), hcell, getD_map _ _ _ p hjf]
        simp [List.getD, hp]
      have HDr := hide (HD.out.stay HQ.out.2.2.1 haway)
      have d1 := HDr.out.c1
      have hpm := List.mem_of_getElem? hp
      have hps := HD.out.ok.names p hpm
      have hlk := HDr.out.look p.1 hps
      rw [Dk.get_at HD.out.ok.up hpm] at hlk
      have HPR := hide (And.intro hp hr)
      have HC := hide (HOF.out j p r wr hp hr HQ.out.2.1)
      obtain ⟨nm, fo⟩ := p
      dsimp only at hc0 hlk hps HC
      unfold Dk.valF at HC
      clear hp hr hcell hbw hbS hpm
      go_wp2_with fail
      refine HC.out.mono ?_
      rintro e w3 ⟨rfl, hI3, hM3⟩
      have hown3 := own_moved HQ.out.1 hM3 (fun k hk _ hS => by have := hSlt k hS; have := HB2.out.1; omega)
      have HQ3 := hide (show w3.ownsRow B2 51 2 u5 (Dk.pick (s.files.take j) (R.take j)).length (flatF (Dk.pick (s.files.take j) (R.take j))) ∧ I (j + 1) w3 ∧ Moved S w w3 ∧ Moved S w2 w3 ∧ B2 ≤ w3.heap.size from
        ⟨hown3, hI3, HQ.out.2.2.1.then hM3, HQ.out.2.2.2.1.then hM3, Nat.le_trans HQ.out.2.2.2.2 hM3.size⟩)
      clear hown3 hI3 hM3
      by_cases hr0 : r = ⟨#[]⟩
      · have hst0 := Dk.pick_step HPR.out.1 HPR.out.2
        rw [if_pos hr0, List.append_nil] at hst0
        have HSTP := hide hst0
        subst hr0
        clear hst0
        go_wp2_with fail
        go_roundg (len - (j + 1))
        case measure => omega
        case rel => exact ⟨j + 1, by omega, rfl, by go_num, by rw [HSTP.out]; exact HQ3.out.1, HQ3.out.2⟩
      · have hst0 := Dk.pick_step HPR.out.1 HPR.out.2
        rw [if_neg hr0] at hst0
        have HSTP := hide hst0
        have hb0 : r.toList.isEmpty = false := by
          cases hc : r.toList with
          | nil => exact absurd ((Go.Lib.bytes_beq_iff r ⟨#[]⟩).1 (by rw [hc]; decide +kernel)) hr0
          | cons x l => rfl
        have hm0 : (Dk.pick (s.files.take j) (R.take j)).length ≤ j := Nat.le_trans (Dk.pick_le _ _) (by rw [List.length_take]; omega)
        have HM0 := hide hm0
        clear hst0 hr0 hm0
        go_wp2_with (at_builtin; refine wpList_append_file rfl _ _ rfl B2 u5 (Dk.pick (s.files.take j) (R.take j)).length _ rfl (own_below HQ3.out.1 (Below.alloc (Below.refl _ _) (Nat.le_refl _) _)) w3.heap.size nm r rfl (alloc_at _ _) ?_ ?_ ?_)
        · have := HM0.out; omega
        · have := HQ3.out.2.2.2.2; simp; omega
        · intro v7 w7 hown hgr
          have hal : Below w3.heap.size w3 (w3.alloc (.cells #[.string nm, .string r] 51)) := (Below.refl _ _).alloc (Nat.le_refl _) _
          have hb7 : Below B2 w3 w7 := below_grown (hal.mono HQ3.out.2.2.2.2) (own_below HQ3.out.1 hal) hgr (Nat.le_refl _) (by have := HQ3.out.2.2.2.2; simp; omega)
          have hm7 : Moved (fun k => B2 ≤ k) w3 w7 := Moved.of_belowB hb7
          have HQ7 := hide (show w7.ownsRow B2 51 2 v7 (Dk.pick (s.files.take (j + 1)) (R.take (j + 1))).length (flatF (Dk.pick (s.files.take (j + 1)) (R.take (j + 1)))) ∧ I (j + 1) w7 ∧ Moved S w w7 ∧ Moved S w2 w7 ∧ B2 ≤ w7.heap.size from
            ⟨by rw [HSTP.out, flatF_snoc, List.length_append]; exact hown, HST.out _ _ _ HQ3.out.2.1 (hb7.mono HB2.out.1), HQ3.out.2.2.1.trans hm7 (fun k hk => .inr (Nat.le_trans HB2.out.1 hk)), HQ3.out.2.2.2.1.trans hm7 (fun k hk => .inr (by rw [← HE2.out]; exact hk)), Nat.le_trans HQ3.out.2.2.2.2 hb7.size⟩)
          clear hown hgr hal hb7 hm7
          go_wp2_with fail
          go_roundg (len - (j + 1))
          case measure => omega
          case rel => exact ⟨j + 1, by omega, rfl, by go_num, HQ7.out⟩
    · have hj' : j = len := by omega
      have HJ := hide hj'
      clear hj'
      go_wp2_with fail
      go_ret
      have hq := HQ.out
      rw [show s.files.take j = s.files by rw [HJ.out, HL.out, List.take_length], show R.take j = R by rw [HJ.out, HL.out, ← HRL.out, List.take_length]] at hq
      exact ⟨_, rfl, own_base hq.1 HB2.out.1, by rw [← HL.out, ← HJ.out]; exact hq.2.1, hq.2.2.1⟩
end Go.Proofs.YtbfbajfdlkgloaaGreatDoor

/-
  The program's disk: Files, and the choosing of what stays (After's function values).
-/
namespace Go.Proofs.YtbfbajfdlkgloaaGreatDoor
open Go Go.RowKit Go.Maps
namespace Dk
def files (s : St) : List (ByteArray × ByteArray) := pick s.files (s.files.map fun p => p.2.now)
/-- The choice that comes next, and how many have been taken behind it. -/
def choose (keep : List Bool) (c : Nat) : Bool × Nat := if keep = [] then (false, c) else (keep.getD (c % keep.length) false, c + 1)
end Dk
theorem enters_files : Enters Tryz.prog 45 := enters_of Tryz.func45 (by kernel_rfl) rfl
set_option maxRecDepth 100000 in
theorem filesFn_any (f : Dk.F) (w : World) :
    Calls Tryz.prog 45 (#[Dk.valF f] ++ #[]) w fun e w' => e = .returned (.string f.now) ∧ Below w.heap.size w w' := by
  show Calls Tryz.prog 45 #[.agg #[.string f.now, .string f.was]] w _
  obtain ⟨a, b⟩ := f
  go_enter Tryz.func45, Tryz.ntmps45
  go_wp2_with fail
  go_ret
  exact ⟨rfl, (Below.refl _ _).alloc (Nat.le_refl _) _⟩
set_option maxRecDepth 100000 in
theorem diskFiles_any (D : Dk.Blk) (s : Dk.St) (w : World) (h : DiskAt w D s) :
    Calls Tryz.prog 19 #[.pointer (some ⟨D.g, 0, none⟩)] w fun e w' => ∃ v, e = .returned v ∧ w'.ownsRow w.heap.size 51 2 v (Dk.files s).length (flatF (Dk.files s)) ∧ Below w.heap.size w w' := by
  have HD := hide h
  clear h
  go_enter Tryz.func19, Tryz.ntmps19
  go_wp2_with fail
  refine (diskTold_any (I := fun _ u => True) (S := fun _ => False) D s 45 #[] (s.files.map fun p => p.2.now) w HD.out (by simp) enters_files ⟨id, id, fun _ _ => id⟩ (fun _ h => h.elim) trivial (fun _ _ _ _ _ => trivial)
    (fun j p r u hp hr _ => ?_)).mono ?_
  · have e : r = p.2.now := by
      rw [List.getElem?_map, hp] at hr
      exact (Option.some.inj hr).symm
    rw [e]
    refine (filesFn_any p.2 u).mono ?_
    rintro e u' ⟨rfl, hb⟩
    exact ⟨rfl, trivial, Moved.of_below hb⟩
  · rintro e w1 ⟨v, rfl, hown, _, hm⟩
    have H1 := hide (And.intro hown (hm.below (B := w.heap.size) (Nat.le_refl _) (fun _ h => h.elim)))
    clear hown hm
    go_wp2_with fail
    go_ret
    exact ⟨v, rfl, H1.out.1, H1.out.2⟩
theorem enters_choose : Enters Tryz.prog 50 := enters_of Tryz.func50 (by kernel_rfl) rfl
set_option maxHeartbeats 1600000 in
set_option maxRecDepth 100000 in
theorem choose_any (b3 b5 : Nat) (kv : Value) (keep : List Bool) (c : Nat) (w : World) (h3 : w.heap[b3]? = some (.cells #[kv] 71 (0, 0))) (h5 : w.heap[b5]? = some (.cells #[.int .i64 (c : Int)] 3 (0, 0))) (hk : SlV w kv (keep.map Value.bool))
    (hne : Dk.slBlk kv ≠ some b5) (hne2 : b3 ≠ b5) (hc : c ≤ 9223372036854775806) (hl : keep.length ≤ 140737488351232) :
    Calls Tryz.prog 50 #[.pointer (some ⟨b3, 0, none⟩), .pointer (some ⟨b5, 0, none⟩)] w fun e w' => e = .returned (.bool (Dk.choose keep c).1) ∧ w'.heap[b5]? = some (.cells #[.int .i64 ((Dk.choose keep c).2 : Int)] 3 (0, 0)) ∧ Moved (fun k => k = b5) w w' := by
  obtain ⟨len, a, cap, hll, rfl, hlc, HCv⟩ := hk.form
  rw [List.length_map] at hll
  have c3 : w.cell? ⟨b3, 0, none⟩ = some (.slice a len cap) := (cell_blk h3 0).trans rfl
  have c5 : w.cell? ⟨b5, 0, none⟩ = some (.int .i64 (c : Int)) := (cell_blk h5 0).trans rfl
  have f5 := frozen_blk h5 0
  have H5 := hide h5
  have HC := hide HCv
  have HL := hide hll
  have hll2 : len ≤ 140737488351232 := by omega
  clear hk h3 h5 HCv hll
  go_enter Tryz.func50, Tryz.ntmps50
  by_cases h0 : len = 0
  · have hk0 : keep = [] := List.eq_nil_of_length_eq_zero (by rw [← HL.out]; exact h0)
    subst hk0
    subst h0
    go_wp2_with fail
    go_ret
    exact ⟨rfl, H5.out, Moved.refl _ _⟩
  · have hk0 : keep ≠ [] := fun e => h0 (by rw [HL.out, e]; rfl)
    have hpos : 0 < len := by omega
    have HK := hide hk0
    clear hk0
    go_upto_region 4 with (fail)
    obtain ⟨W1, hW1⟩ : ∃ V, V = w.setCell ⟨b5, 0, none⟩ (.int .i64 ((c : Int) + 1)) := ⟨_, rfl⟩
    rw [← hW1]
    obtain ⟨i, hi⟩ : ∃ i, i = c % len := ⟨_, rfl⟩
    have hil : i < len := by rw [hi]; exact Nat.mod_lt _ hpos
    have him : (c : Int).tmod (len : Int) = (i : Int) := by rw [hi]; rfl
    obtain ⟨b, off, rfl, hbw, hcell⟩ := HC.out i hil
    have hbne : b ≠ b5 := fun e => hne (by rw [e, Dk.slBlk_some, if_neg h0])
    have hm1 : Moved (fun k => k = b5) w W1 := by rw [hW1]; exact Moved.setCell (S := fun k => k = b5) (Moved.refl _ _) (a := ⟨b5, 0, none⟩) rfl _
    have e3 : W1.cell? ⟨b3, 0, none⟩ = some (.slice (some ⟨b, off, none⟩) len cap) := by
      rw [World.cell?_of_block (a := ⟨b3, 0, none⟩) (hm1.block b3 (by
        rcases Nat.lt_or_ge b3 w.heap.size with h | h
        · exact h
        · simp [World.cell?, Array.getElem?_eq_none h] at c3) hne2)]; exact c3
    have e5 : W1.cell? ⟨b5, 0, none⟩ = some (.int .i64 ((c : Int) + 1)) := by rw [hW1]; exact World.cell?_setCell_same _ _ _ c5
    have ei : W1.cell? ⟨b, off + i, none⟩ = some (.bool (keep.getD i false)) := by
      rw [World.cell?_of_block (a := ⟨b, off + i, none⟩) (hm1.block b hbw hbne), hcell, getD_map _ _ _ false (by rw [← HL.out]; exact hil)]
    obtain ⟨ans, hans⟩ : ∃ v, v = keep.getD i false := ⟨_, rfl⟩
    rw [← hans] at ei
    have HR := hide (show Dk.choose keep c = (ans, c + 1) by unfold Dk.choose; rw [if_neg HK.out, hans, hi, HL.out])
    have H51 := hide (show W1.heap[b5]? = some (.cells #[.int .i64 ((c : Int) + 1)] 3 (0, 0)) by rw [hW1]; exact (heap_setCell_same _ _ _ _ _ _ H5.out).trans (by simp))
    have HM1 := hide hm1
    have hz0 : ((len : Int) == 0) = false := by rw [beq_eq_false_iff_ne]; omega
    clear hW1 hi hcell hbw hbne hm1 hans c3 c5 f5 hne
    go_quiet (fail)
    go_wp2_with fail
    go_ret
    refine ⟨by rw [HR.out]; rfl, ?_, HM1.out.then (Moved.of_below (below_drewN (Below.refl _ _) _))⟩
    rw [HR.out]
    simpa using H51.out
end Go.Proofs.YtbfbajfdlkgloaaGreatDoor
