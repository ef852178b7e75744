/-
  Plain words on memory that this seat's texts share: a slice value over cells that read as a list; rows of the call's own; blocks. No program in sight.
-/
import Derived.WalkKit
import Derived.ProofKit
import Derived.SizedLaws
import Derived.SliceStrings
import Derived.Laws.AppendOwnNone
import Derived.Maps.OwnOps
import Derived.Maps.Views
import Derived.Maps.RangeWalk
import Derived.Sort.KeysCollected
import Derived.Laws.IdiomStrings

namespace Go.Proofs.YtbfbajfdlkgloaaGreatDoor
open Go.RowKit

/-- A slice value over cells that read as a list of values (one cell each). -/
def SlV (w : World) (v : Value) (xs : List Value) : Prop :=
  (xs = [] ∧ ∃ a cap, v = .slice a 0 cap ∧ (a = none → cap = 0)) ∨ ∃ b off cap, v = .slice (some ⟨b, off, none⟩) xs.length cap ∧ xs.length ≤ cap ∧ b < w.heap.size ∧ ∀ j (h : j < xs.length), w.cell? ⟨b, off + j, none⟩ = some xs[j]
def bytesOf (s : ByteArray) : List UInt8 := s.data.toList

theorem alloc_at (w : World) (o : Obj) : (w.alloc o).heap[w.heap.size]? = some o := by
  show (w.heap.push o)[w.heap.size]? = some o
  simp
theorem cell_blk {w : World} {B : Nat} {cs : Array Value} {T : Nat} {f : Nat × Nat} (h : w.heap[B]? = some (.cells cs T f)) (k : Nat) : w.cell? ⟨B, k, none⟩ = cs[k]? := by
  simp [World.cell?, h]
theorem frozen_blk {w : World} {B : Nat} {cs : Array Value} {T : Nat} (h : w.heap[B]? = some (.cells cs T)) (k : Nat) : w.frozen? ⟨B, k, none⟩ = false := by
  simp [World.frozen?, h]

theorem SlV.below {w w' : World} {v : Value} {xs : List Value} (h : SlV w v xs) (hb : Below w.heap.size w w') : SlV w' v xs := by
  rcases h with h | ⟨b, off, cap, hv, hc, hlt, hx⟩
  · exact .inl h
  · exact .inr ⟨b, off, cap, hv, hc, Nat.lt_of_lt_of_le hlt hb.size, fun j hj => (hb.cell (p := ⟨b, off + j, none⟩) hlt).trans (hx j hj)⟩
theorem SlV.nil (w : World) : SlV w (.slice none 0 0) [] := .inl ⟨rfl, none, 0, rfl, fun _ => rfl⟩
theorem slv_new (w : World) (cs : List Value) (T : Nat) (n : Nat) (hn : n = cs.length) : SlV (w.alloc (.cells cs.toArray T)) (.slice (some ⟨w.heap.size, 0, none⟩) n n) cs := by
  subst hn
  refine .inr ⟨w.heap.size, 0, _, rfl, Nat.le_refl _, by simp, fun j h => ?_⟩
  rw [cell_blk (alloc_at _ _)]
  simp [h]
theorem slv_at (w : World) (cs : List Value) (T n B : Nat) (hn : n = cs.length) (hB : w.heap.size = B) : SlV (w.alloc (.cells cs.toArray T)) (.slice (some ⟨B, 0, none⟩) n n) cs := by
  subst hB
  exact slv_new w cs T n hn
/-- The form of such a value. -/
theorem SlV.form {w : World} {v : Value} {xs : List Value} (h : SlV w v xs) : ∃ len a cap, len = xs.length ∧ v = .slice a len cap ∧ len ≤ cap ∧ ∀ j, j < len → ∃ b off, a = some ⟨b, off, none⟩ ∧ b < w.heap.size ∧ w.cell? ⟨b, off + j, none⟩ = some (xs.getD j undef) := by
  rcases h with ⟨rfl, a, cap, rfl, _⟩ | ⟨b, off, cap, rfl, hc, hb, hx⟩
  · exact ⟨0, a, cap, rfl, rfl, Nat.zero_le _, fun j hj => absurd hj (Nat.not_lt_zero _)⟩
  · exact ⟨_, _, cap, rfl, rfl, hc, fun j hj => ⟨b, off, rfl, hb, by rw [hx j hj]; simp [List.getD, hj]⟩⟩
/-- A fact hidden from the walk. -/
theorem hide {p : Prop} (h : p) : Hid p := h
theorem getD_map {α : Type} (f : α → Value) (xs : List α) (j : Nat) (d : α) (h : j < xs.length) : (xs.map f).getD j undef = f (xs.getD j d) := by
  simp [List.getD, h]
/-- The first ones. -/
theorem SlV.take {w : World} {a : Option Addr} {len cap : Nat} {xs : List Value} (h : SlV w (.slice a len cap) xs) (n : Nat) (hn : n ≤ xs.length) : SlV w (.slice a n cap) (xs.take n) := by
  rcases h with ⟨rfl, a', cap', hv, h0⟩ | ⟨b, off, cap', hv, hc, hb, hx⟩
  · obtain rfl : n = 0 := by simpa using hn
    injection hv with h1 h2 h3; subst h1; subst h3
    exact .inl ⟨rfl, _, _, rfl, h0⟩
  · injection hv with h1 h2 h3; subst h1; subst h3
    have hl : (xs.take n).length = n := by simp; omega
    refine .inr ⟨b, off, cap, by rw [hl], by omega, hb, fun j hj => ?_⟩
    have hj2 : j < xs.length := by omega
    rw [hx j hj2]; simp
theorem slv_of_owns {w : World} {base e : Nat} {v : Value} {n : Nat} {xs : List Value} (h : w.ownsRow base e 1 v n xs) : SlV w v xs := by
  obtain ⟨hl, h2⟩ := h
  rw [Nat.mul_one] at hl
  rcases h2 with ⟨rfl, rfl⟩ | ⟨g, cap, cur, rfl, hg, hh, hn, hm, hc, hx⟩
  · exact .inl ⟨List.eq_nil_of_length_eq_zero hl, none, 0, rfl, fun _ => rfl⟩
  · refine .inr ⟨g, 0, cap, by rw [hl], by omega, ?_, fun j hj => ?_⟩
    · rcases Nat.lt_or_ge g w.heap.size with h | h
      · exact h
      · simp [Array.getElem?_eq_none h] at hh
    · rw [cell_blk hh]
      rw [Nat.mul_one] at hx
      have : cur.toList[j]? = some xs[j] := by
        rw [← List.getElem?_eq_getElem hj, ← hx, List.getElem?_take_of_lt (by omega)]
      simpa using this

/-- append onto a row of the call's own, the source a slice that reads as a list (one cell each; nil and empty ones too). -/
theorem wp_append_slv {P : Program} {w : World} {o : Oper} {a : Act} {K : Act → World → Prop} {Q : Exit → Act → World → Prop} (s x : Operand) (t : TypeId)
    (ho : o.op = .call { callee := .builtin .append, args := #[s, x], argTypes := #[t, t] })
    (base : Nat) (e : TypeId) (z : Value) (bytes : Nat) (ht : P.underlying t = some (.slice e)) (hi : (P.info? e).map (fun i => (i.zero, i.size, i.bytes)) = some (some z, 1, bytes)) (hzs : z.cells.size = 1)
    (v : Value) (n : Nat) (xs : List Value) (hs : a.eval s = v) (hown : w.ownsRow base e 1 v n xs)
    (y : Value) (news : List Value) (hx : a.eval x = y) (hy : SlV w y news) (h1 : ∀ u ∈ news, u.oneCell' = true)
    (h63 : n + news.length ≤ maxLen) (hbytes : (n + news.length) * bytes ≤ 140737488355328) (hbase : base ≤ w.heap.size)
    (h : ∀ v' w', w'.ownsRow base e 1 v' (n + news.length) (xs ++ news) → w.grownBy w' v.ownBlock → K (a.put o.dst v') w') : o.wp P a w K Q := by
  obtain ⟨i, hi, hz0, hz1, hz2⟩ := info_parts hi
  rcases hy with ⟨rfl, ad, cap, rfl, hnone⟩ | ⟨b, off, cap, rfl, hc, hb, hx2⟩
  · cases ad with
    | none =>
      obtain rfl := hnone rfl
      have hrun := run_append_owned_none (P := P) (w := w) base t o.type e i 1 ht hi v n xs hown
      unfold Oper.wp
      simp [execOp, ho, resolve, invoke, builtin, hs, hx, hrun, Result.andThen]
      exact h v w (by simpa using hown) ⟨rfl, rfl, rfl, Nat.le_refl _, fun _ _ _ => rfl⟩
    | some ad =>
      exact wp_append_own w s x t ho base e i z 1 bytes ht hi hz0 hz1 hz2 hzs (by decide) v n xs hs hown ad 0 cap [] hx rfl (by intro j u hj; simp at hj) h1 h63 hbytes hbase fun v' w' h2 h3 _ => h v' w' h2 h3
  · exact wp_append_own w s x t ho base e i z 1 bytes ht hi hz0 hz1 hz2 hzs (by decide) v n xs hs hown ⟨b, off, none⟩ news.length cap news hx (by simp) (by
      intro j u hj
      obtain ⟨hj1, rfl⟩ := List.getElem?_eq_some_iff.1 hj
      rw [Addr.add_lit]
      exact hx2 j hj1) h1 h63 hbytes hbase fun v' w' h2 h3 _ => h v' w' h2 h3
theorem wpList_append_slv {P : Program} {w : World} {ops : Array Oper} {rest : List Oper} {o : Oper} {a : Act} {Q : Exit → Act → World → Prop} (hgd : o.guard = none) (s x : Operand) (t : TypeId)
    (ho : o.op = .call { callee := .builtin .append, args := #[s, x], argTypes := #[t, t] })
    (base : Nat) (e : TypeId) (z : Value) (bytes : Nat) (ht : P.underlying t = some (.slice e)) (hi : (P.info? e).map (fun i => (i.zero, i.size, i.bytes)) = some (some z, 1, bytes)) (hzs : z.cells.size = 1)
    (v : Value) (n : Nat) (xs : List Value) (hs : a.eval s = v) (hown : w.ownsRow base e 1 v n xs)
    (y : Value) (news : List Value) (hx : a.eval x = y) (hy : SlV w y news) (h1 : ∀ u ∈ news, u.oneCell' = true)
    (h63 : n + news.length ≤ maxLen) (hbytes : (n + news.length) * bytes ≤ 140737488355328) (hbase : base ≤ w.heap.size)
    (h : ∀ v' w', w'.ownsRow base e 1 v' (n + news.length) (xs ++ news) → w.grownBy w' v.ownBlock → wpList P ops Q rest (a.put o.dst v') w') : wpList P ops Q (o :: rest) a w :=
  wpList_plain hgd fun _ hK => wp_append_slv s x t ho base e z bytes ht hi hzs v n xs hs hown y news hx hy h1 h63 hbytes hbase fun v' w' h2 h3 => hK _ _ (h v' w' h2 h3)
/-- What was grown lies from the base on. -/
theorem below_grown {w0 w w' : World} {B base e size : Nat} {v : Value} {n : Nat} {xs : List Value} (hb : Below B w0 w) (hown : w.ownsRow base e size v n xs) (hg : w.grownBy w' v.ownBlock) (hB : B ≤ base) (hs : B ≤ w.heap.size) : Below B w0 w' :=
  hb.grown hg hs fun k hk => Nat.le_trans hB (hown.lt k hk).1

/-! ### bytes -/
def byteV (b : UInt8) : Value := .int .u8 (b.toNat : Int)
theorem foldl_bytes : ∀ (bs : List UInt8) (r : ByteArray), (bs.map fun b => (b.toNat : Int)).foldl (fun r n => r.push (UInt8.ofNat n.toNat)) r = ⟨r.data ++ bs.toArray⟩
  | [], r => by simp
  | b :: bs, r => by
    simp only [List.map_cons, List.foldl_cons]
    rw [foldl_bytes bs]
    congr 1
    show (r.push (UInt8.ofNat (b.toNat : Int).toNat)).data ++ bs.toArray = _
    have : UInt8.ofNat (b.toNat : Int).toNat = b := by simp
    rw [this]
    show r.data.push b ++ bs.toArray = _
    apply Array.ext'
    simp
/-- 'string(b)' of bytes that read as a list. -/
theorem run_bytes_string {P : Program} {w : World} (src dst e : TypeId) (hs : P.underlying src = some (.slice e)) (he : P.underlying e = some (.int .u8)) (hd : P.underlying dst = some .string)
    {v : Value} {bs : List UInt8} (hv : SlV w v (bs.map byteV)) : (convert src dst v).run P w = .ok (.string ⟨bs.toArray⟩) w := by
  have hmap : bs.map byteV = (bs.map fun b => (b.toNat : Int)).map (Value.int .u8) := by rw [List.map_map]; rfl
  have main : ∀ a len cap, (loadCells a len).run P w = .ok ((bs.map fun b => (b.toNat : Int)).map (Value.int .u8)).toArray w → (convert src dst (.slice (some a) len cap)).run P w = .ok (.string ⟨bs.toArray⟩) w := by
    intro a len cap h
    rw [run_convert_bytes_string w src dst e _ _ _ hs he hd, run_bytesToString w a len cap _ h, foldl_bytes]
    congr 2
    simp
  rcases hv with ⟨h0, a, cap, rfl, hn⟩ | ⟨b, off, cap, rfl, hc, hb, hx⟩
  · have hb0 : bs = [] := by simpa using h0
    subst hb0
    cases a with
    | none =>
      obtain rfl := hn rfl
      rw [run_convert_bytes_string w src dst e _ _ _ hs he hd]; rfl
    | some a => exact main a 0 cap rfl
  · refine main _ _ _ ?_
    rw [hmap] at hx ⊢
    exact run_loadCells_list (P := P) w ⟨b, off, none⟩ _ (fun j v hv => by
      obtain ⟨hj, rfl⟩ := List.getElem?_eq_some_iff.1 hv
      rw [Addr.add_lit]; exact hx j hj)
theorem wp_bytes_string {P : Program} {w : World} {o : Oper} {a : Act} {K : Act → World → Prop} {Q : Exit → Act → World → Prop} (x : Operand) (src dst e : TypeId)
    (ho : o.op = .convert src dst x) (hs : P.underlying src = some (.slice e)) (he : P.underlying e = some (.int .u8)) (hd : P.underlying dst = some .string)
    (v : Value) (hx : a.eval x = v) (bs : List UInt8) (hv : SlV w v (bs.map byteV)) (h : K (a.put o.dst (.string ⟨bs.toArray⟩)) w) : o.wp P a w K Q := by
  unfold Oper.wp execOp
  simp only [ho, hx, Sem.run_bind, run_bytes_string src dst e hs he hd hv, Result.andThen_ok, Sem.run_pure]
  exact h
theorem wpList_bytes_string {P : Program} {w : World} {ops : Array Oper} {rest : List Oper} {o : Oper} {a : Act} {Q : Exit → Act → World → Prop} (hgd : o.guard = none) (x : Operand) (src dst e : TypeId)
    (ho : o.op = .convert src dst x) (hs : P.underlying src = some (.slice e)) (he : P.underlying e = some (.int .u8)) (hd : P.underlying dst = some .string)
    (v : Value) (hx : a.eval x = v) (bs : List UInt8) (hv : SlV w v (bs.map byteV)) (h : wpList P ops Q rest (a.put o.dst (.string ⟨bs.toArray⟩)) w) : wpList P ops Q (o :: rest) a w :=
  wpList_plain hgd fun _ hK => wp_bytes_string x src dst e ho hs he hd v hx bs hv (hK _ _ h)

/-! ### a []string among the arguments -/
open Go.ChangeShapes Go.WideShapes in
theorem open_strs_slv {H : Type} {enc : TypeId × Value → H} {P : Program} {W : World} {t e : TypeId} {a : Option Addr} {len cap : Nat} {d : DataW H} {p : List MemPlace} {ts : List TypeId} {ds : List (DataW H)} {j : Nat}
    (hsz : (DataW.weightsEach P ts ds).all (· ≤ reachBytes) = true) (htj : ts[j]? = some t) (hdj : ds[j]? = some d)
    (ht : P.underlying t = some (.slice e)) (he : P.underlying e = some .string) (hc : P.cellsOf e = 1) (hB : P.bytesOf e = 16)
    (h : DataW.Trod enc P W 0 (fun _ => true) true t (.slice a len cap) d p) :
    ∃ ps : List ByteArray, ps.length = len ∧ SlV W (.slice a len cap) (ps.map Value.string) ∧ ps.length * 16 ≤ 140737488351232 ∧ ∀ s ∈ ps, s.size ≤ 140737488351232 := by
  obtain ⟨fuel, hf⟩ := h
  rcases open_strings ht he hc hf with ⟨hcs, _⟩ | ⟨x, l, c, ss, hcs, _, hl, hm, hz, hx, hcell, hws⟩
  · simp [Value.cells] at hcs
    obtain ⟨rfl, rfl, rfl⟩ := hcs
    exact ⟨[], rfl, .inl ⟨rfl, none, 0, rfl, fun _ => rfl⟩, by simp, by simp⟩
  · simp [Value.cells] at hcs
    obtain ⟨rfl, rfl, rfl⟩ := hcs
    have hd : d = .slice (strs (ss.take len)) (strs (ss.drop len)) := congrArg Prod.fst hx
    subst hd
    simp only [if_true] at hz
    have hlen : (ss.take len).length = len := by simp; omega
    have hbyte : ss.length * 16 ≤ 140737488351232 := by
      have hz2 := sized_slice hsz htj hdj ht
      rw [hB] at hz2
      have hl3 : (strs (H := H) (ss.take len)).length + (strs (H := H) (ss.drop len)).length = ss.length := by simp [strs]; omega
      rw [hl3] at hz2
      exact hz2
    obtain ⟨b, off, spot⟩ := x
    refine ⟨ss.take len, hlen, ?_, by rw [hlen]; omega, ?_⟩
    · by_cases h0 : len = 0
      · subst h0
        exact .inl ⟨by simp, _, _, rfl, by simp⟩
      · have hlt : ∀ j, j < len → W.cell? ((⟨b, off, spot⟩ : Addr).add j) = some (.string (ss.getD j ByteArray.empty)) := fun j hj => hcell j (by omega)
        have hsp : spot = none := by
          have := hlt 0 (by omega)
          simp only [Addr.add, if_true] at this
          cases spot with
          | none => rfl
          | some s => simp [World.cell?] at this; split at this <;> simp at this
        subst hsp
        refine .inr ⟨b, off, cap, by rw [List.length_map, hlen], by rw [List.length_map, hlen]; omega, ?_, fun j hj => ?_⟩
        · have := hlt 0 (by omega)
          rw [Addr.add_lit] at this
          exact World.block_lt_of_cell? _ _ this
        · have hj' : j < len := by rw [List.length_map, hlen] at hj; exact hj
          have := hlt j hj'
          rw [Addr.add_lit] at this
          rw [this]
          have hj2 : j < ss.length := by omega
          simp [List.getD, hj2]
    · intro s hs
      have hs' : s ∈ ss := List.mem_of_mem_take hs
      have hmem := DataW.weights_mem_each (P := P) htj hdj (s.data.toList.length) (by
        simp only [DataW.weights, ht, List.mem_cons, List.mem_append]
        refine Or.inr (Or.inl ?_)
        have : ∀ (l : List ByteArray), s ∈ l → s.data.toList.length ∈ DataW.weightsAll P e (strs (H := H) l) := by
          intro l
          induction l with
          | nil => intro h; cases h
          | cons q l ih =>
            intro h
            simp only [strs, List.map_cons, DataW.weightsAll, List.mem_append]
            rcases List.mem_cons.1 h with rfl | h
            · exact .inl (by simp [DataW.weights])
            · exact .inr (ih h)
        exact this _ hs)
      have := List.all_eq_true.1 hsz _ hmem
      have h2 : s.size ≤ reachBytes := by simpa using this
      exact h2
end Go.Proofs.YtbfbajfdlkgloaaGreatDoor

/-
  The disk as plain data: files by their names, rising; what is read, put, told; how it reads as a map's datum. No program in sight.
-/
namespace Go.Proofs.YtbfbajfdlkgloaaGreatDoor
open Go Go.RowKit
namespace Dk
/-- A file's bytes as they are, and the synced ones. -/
structure F where
  now : ByteArray
  was : ByteArray
deriving DecidableEq
def F.none : F := ⟨⟨#[]⟩, ⟨#[]⟩⟩
abbrev Fs := List (ByteArray × F)
def key (n : ByteArray) : List UInt8 := n.data.toList
def get (l : Fs) (n : ByteArray) : F := ((l.find? (fun p => decide (p.1 = n))).map Prod.snd).getD F.none
def ins (x : ByteArray × F) : Fs → Fs
  | [] => [x]
  | y :: r => if bytesBefore (key x.1) (key y.1) then x :: y :: r else y :: ins x r
def put (l : Fs) (n : ByteArray) (f : F) : Fs := ins (n, f) (l.filter fun p => !decide (p.1 = n))
/-- The datum. -/
def datF (f : F) : DataW Unit := .agg [.lit (.string f.now.data.toList), .lit (.string f.was.data.toList)]
def litF (p : ByteArray × F) : Lit × DataW Unit := (.string (key p.1), datF p.2)
def dat (l : Fs) : DataW Unit := .map (l.map litF)
theorem key_inj {a b : ByteArray} (h : key a = key b) : a = b := by
  cases a; cases b
  simp only [key] at h
  rw [Array.toList_inj.1 h]
theorem key_beq (a b : ByteArray) : (key a == key b) = decide (a = b) := by
  rw [Bool.eq_iff_iff, beq_iff_eq, decide_eq_true_iff]
  exact ⟨key_inj, fun h => by rw [h]⟩
theorem ins_dat (x : ByteArray × F) : ∀ l : Fs, (ins x l).map litF = DataW.insert (litF x) (l.map litF)
  | [] => rfl
  | y :: r => by
    unfold ins
    rw [List.map_cons, DataW.insert]
    show _ = if Lit.before (.string (key x.1)) (.string (key y.1)) = true then _ else _
    unfold Lit.before
    split
    · rfl
    · rw [List.map_cons, ins_dat x r]
theorem put_dat (l : Fs) (n : ByteArray) (f : F) : dat (put l n f) = (dat l).put (.string (key n)) (datF f) := by
  show DataW.map ((ins (n, f) (l.filter fun p => !decide (p.1 = n))).map litF) = DataW.map (DataW.insert (litF (n, f)) ((l.map litF).filter fun p => !p.1.sameKey (.string (key n))))
  rw [ins_dat, List.filter_map]
  congr 2
  congr 1
  apply List.filter_congr
  intro p _
  show (!decide (p.1 = n)) = !(key p.1 == key n)
  rw [key_beq]
theorem get_dat (l : Fs) (n : ByteArray) : (dat l).atKey (.string (key n)) (datF F.none) = datF (get l n) := by
  unfold dat DataW.atKey
  dsimp only
  rw [List.find?_map]
  have e : ((fun p : Lit × DataW Unit => p.1.sameKey (.string (key n))) ∘ litF) = fun p => decide (p.1 = n) := by
    funext p
    show (key p.1 == key n) = _
    rw [key_beq]
  rw [e]
  unfold get
  cases l.find? (fun p => decide (p.1 = n)) with
  | none => rfl
  | some p => rfl
/-- How an element's value reads. -/
def R (v : Value) : Option (DataW Unit × List MemPlace) := match v with
  | .agg cs => match cs.toList with
    | [.string a, .string b] => some (.agg [.lit (.string a.data.toList), .lit (.string b.data.toList)], [])
    | _ => none
  | _ => none
def valF (f : F) : Value := .agg #[.string f.now, .string f.was]
theorem R_val (f : F) : R (valF f) = some (datF f, []) := rfl
theorem R_inv {v : Value} {d : DataW Unit} {ps : List MemPlace} (h : R v = some (d, ps)) : ∃ f, v = valF f ∧ d = datF f := by
  cases v with
  | agg cs =>
    change (match cs.toList with
      | [.string a, .string b] => some (DataW.agg [.lit (.string a.data.toList), .lit (.string b.data.toList)], ([] : List MemPlace))
      | _ => none) = some (d, ps) at h
    split at h
    · rename_i a b hc
      injection h with h
      injection h with h1 h2
      refine ⟨⟨a, b⟩, ?_, h1.symm⟩
      show Value.agg cs = .agg #[.string a, .string b]
      congr 1
      apply Array.toList_inj.1
      rw [hc]
    · cases h
  | _ => cases h
theorem datF_inj {f g : F} (h : datF f = datF g) : f = g := by
  unfold datF at h
  injection h with h
  injection h with h1 h2
  injection h2 with h2 _
  injection h1 with h1; injection h1 with h1
  injection h2 with h2; injection h2 with h2
  obtain ⟨⟨a⟩, ⟨b⟩⟩ := f
  obtain ⟨⟨c⟩, ⟨d⟩⟩ := g
  simp only at h1 h2
  rw [Array.toList_inj.1 h1, Array.toList_inj.1 h2]
/-! rising -/
def Up (l : Fs) : Prop := l.Pairwise (fun p q => bytesBefore (key p.1) (key q.1) = true)
/-- What is told: the files of which a function makes a text with bytes. -/
def told (of : F → ByteArray) (l : Fs) : List (ByteArray × ByteArray) := (l.map fun p => (p.1, of p.2)).filter fun q => !decide (q.2 = ⟨#[]⟩)
def used (l : Fs) : Nat := (l.map fun p => p.2.now.size).sum
end Dk
end Go.Proofs.YtbfbajfdlkgloaaGreatDoor

/-
  A writable array of the call's own, its first cells read as a list (one cell each). No program in sight.
-/
namespace Go.Proofs.YtbfbajfdlkgloaaGreatDoor
open Go.RowKit
def Arr (w : World) (g e : Nat) (xs : List Value) : Prop := ∃ C lo hi, w.heap[g]? = some (.cells C e (lo, hi)) ∧ (xs.length ≤ lo ∨ hi = 0) ∧ xs.length ≤ C.size ∧ C.toList.take xs.length = xs
theorem Arr.lt {w : World} {g e : Nat} {xs : List Value} (h : Arr w g e xs) : g < w.heap.size := by
  obtain ⟨C, lo, hi, h1, _⟩ := h
  rcases Nat.lt_or_ge g w.heap.size with h | h
  · exact h
  · simp [Array.getElem?_eq_none h] at h1
theorem Arr.at {w : World} {g e : Nat} {xs : List Value} (h : Arr w g e xs) (j : Nat) (hj : j < xs.length) : w.cell? ⟨g, j, none⟩ = some xs[j] := by
  obtain ⟨C, lo, hi, h1, h2, h3, h4⟩ := h
  rw [cell_blk h1]
  have : C.toList[j]? = some xs[j] := by
    rw [← List.getElem?_eq_getElem hj, ← List.getElem?_take_of_lt (l := C.toList) hj]
    rw [h4]
  simpa using this
theorem Arr.cell {w : World} {g e : Nat} {xs : List Value} (h : Arr w g e xs) (j : Nat) (hj : j < xs.length) : w.cell? ⟨g, j, none⟩ = some (xs.getD j undef) := by
  rw [h.at j hj]; simp [List.getD, hj]
theorem Arr.frozen {w : World} {g e : Nat} {xs : List Value} (h : Arr w g e xs) (j : Nat) (hj : j < xs.length) : w.frozen? ⟨g, j, none⟩ = false := by
  obtain ⟨C, lo, hi, h1, h2, h3, h4⟩ := h
  simp [World.frozen?, h1]
  omega
theorem Arr.set {w : World} {g e : Nat} {xs : List Value} (h : Arr w g e xs) (j : Nat) (_hj : j < xs.length) (v : Value) : Arr (w.setCell ⟨g, j, none⟩ v) g e (xs.set j v) := by
  obtain ⟨C, lo, hi, h1, h2, h3, h4⟩ := h
  refine ⟨C.setIfInBounds j v, lo, hi, ?_, by simpa using h2, by simpa using h3, ?_⟩
  · rw [World.setCell]
    show (w.heap.modify g _)[g]? = _
    rw [Array.getElem?_modify, if_pos rfl, h1]
    rfl
  · rw [List.length_set, Array.toList_setIfInBounds, List.take_set, h4]
theorem Arr.slv {w : World} {g e : Nat} {xs : List Value} (h : Arr w g e xs) {n cap : Nat} (hn : n = xs.length) (hc : n ≤ cap) : SlV w (.slice (some ⟨g, 0, none⟩) n cap) xs := by
  subst hn
  exact .inr ⟨g, 0, cap, rfl, hc, h.lt, fun j hj => by rw [Nat.zero_add]; exact h.at j hj⟩
theorem Arr.slv_sub {w : World} {g e : Nat} {xs : List Value} (h : Arr w g e xs) {off n cap : Nat} (hn : off + n ≤ xs.length) (hc : n ≤ cap) : SlV w (.slice (some ⟨g, off, none⟩) n cap) ((xs.drop off).take n) := by
  have hl : ((xs.drop off).take n).length = n := by simp; omega
  refine .inr ⟨g, off, cap, by rw [hl], by rw [hl]; exact hc, h.lt, fun j hj => ?_⟩
  rw [hl] at hj
  rw [h.at (off + j) (by omega)]
  simp
theorem Arr.below {w w' : World} {g e B : Nat} {xs : List Value} (h : Arr w g e xs) (hg : g < B) (hb : Below B w w') : Arr w' g e xs := by
  obtain ⟨C, lo, hi, h1, h2⟩ := h
  exact ⟨C, lo, hi, (hb.block g hg).trans h1, h2⟩
theorem Arr.past {w w' : World} {g e : Nat} {xs : List Value} (h : Arr w g e xs) (hb : Below w.heap.size w w') : Arr w' g e xs := h.below h.lt hb
theorem arr_new (w : World) (xs : List Value) (C : Array Value) (e lo hi : Nat) (h2 : xs.length ≤ lo) (h3 : C.toList.take xs.length = xs) (h4 : xs.length ≤ C.size) : Arr (w.alloc (.cells C e (lo, hi))) w.heap.size e xs :=
  ⟨C, lo, hi, alloc_at _ _, .inl h2, h4, h3⟩
theorem arr_bytes (w : World) (s : ByteArray) (cap e : Nat) : Arr (w.drew.alloc (.cells (bytesRow s cap) e ((bytesRow s cap).size, (bytesRow s cap).size + 1))) w.heap.size e ((bytesOf s).map byteV) := by
  have hl : ((bytesOf s).map byteV).length = s.size := by simp [bytesOf]
  have hb : s.size ≤ (bytesRow s cap).size := by unfold bytesRow; simp
  refine arr_new w.drew _ _ _ _ _ (by rw [hl]; exact hb) ?_ (by rw [hl]; exact hb)
  rw [hl]
  unfold bytesRow
  rw [Array.toList_append, List.take_append_of_le_length (by simp)]
  rw [List.take_of_length_le (by simp)]
  simp [bytesOf, byteV]
/-- A grown row that holds something is such an array. -/
theorem arr_of_owns {w : World} {base e : Nat} {v : Value} {n : Nat} {xs : List Value} (h : w.ownsRow base e 1 v n xs) (hn : 0 < n) : ∃ g cap, v = .slice (some ⟨g, 0, none⟩) n cap ∧ base ≤ g ∧ n ≤ cap ∧ cap ≤ maxLen ∧ Arr w g e xs := by
  obtain ⟨hl, h2⟩ := h
  rw [Nat.mul_one] at hl
  rcases h2 with ⟨rfl, rfl⟩ | ⟨g, cap, cur, rfl, hg, hh, hc, hm, hs, hx⟩
  · omega
  · refine ⟨g, cap, rfl, hg, hc, hm, cur, 0, 0, hh, .inr rfl, by rw [hl, hs]; omega, ?_⟩
    rw [hl]; rw [Nat.mul_one] at hx; exact hx
/-- A slice that holds something. -/
theorem SlV.pos {w : World} {v : Value} {xs : List Value} (h : SlV w v xs) (hn : 0 < xs.length) : ∃ b off cap, v = .slice (some ⟨b, off, none⟩) xs.length cap ∧ xs.length ≤ cap ∧ b < w.heap.size ∧ ∀ j, j < xs.length → w.cell? ⟨b, off + j, none⟩ = some (xs.getD j undef) := by
  rcases h with ⟨rfl, _⟩ | ⟨b, off, cap, rfl, hc, hb, hx⟩
  · exact absurd hn (by simp)
  · exact ⟨b, off, cap, rfl, hc, hb, fun j hj => by rw [hx j hj]; simp [List.getD, hj]⟩
/-- A uint32 is a word of 32 bits. -/
theorem u32_bv {a : Int} (h : (Lit.int .u32 a).wf = true) : ∃ c : BitVec 32, a = (c.toNat : Int) := by
  have h2 : IntKind.u32.min ≤ a ∧ a ≤ IntKind.u32.max := by simpa [Lit.wf] using h
  have h3 : 0 ≤ a ∧ a ≤ 4294967295 := h2
  refine ⟨BitVec.ofNat 32 a.toNat, ?_⟩
  rw [BitVec.toNat_ofNat]
  omega
end Go.Proofs.YtbfbajfdlkgloaaGreatDoor
