/-
  A record of which one byte is another one, or that is cut, is not read. No program in sight.
-/
import Derived.Test.YtbfbajfdlkgloaaGreatDoorG17

namespace Go.Proofs.YtbfbajfdlkgloaaGreatDoor
namespace Rec
theorem fold_inj (b : List UInt8) : ∀ x y : BitVec 32, Crc.fold x b = Crc.fold y b → x = y := by
  induction b with
  | nil => intro x y h; exact h
  | cons c b ih =>
    intro x y h
    have h2 := ih _ _ h
    have h3 := Crc.stepN_inj 8 h2
    have h4 : (x ^^^ Crc.bv8 c) ^^^ Crc.bv8 c = (y ^^^ Crc.bv8 c) ^^^ Crc.bv8 c := by rw [h3]
    rw [BitVec.xor_assoc, BitVec.xor_self, BitVec.xor_zero, BitVec.xor_assoc, BitVec.xor_self, BitVec.xor_zero] at h4
    exact h4
theorem byteStep_inj {x : BitVec 32} {c d : UInt8} (h : Crc.byteStep x c = Crc.byteStep x d) : c = d := by
  have h3 := Crc.stepN_inj 8 h
  have h4 : x ^^^ (x ^^^ Crc.bv8 c) = x ^^^ (x ^^^ Crc.bv8 d) := by rw [h3]
  rw [← BitVec.xor_assoc, ← BitVec.xor_assoc, BitVec.xor_self, BitVec.zero_xor, BitVec.zero_xor] at h4
  have h5 := congrArg BitVec.toNat h4
  have hc := c.toNat_lt
  have hd := d.toNat_lt
  simp only [Crc.bv8, BitVec.toNat_ofNat] at h5
  apply UInt8.toNat_inj.1
  omega
theorem fold_set {l : List UInt8} {k : Nat} {c : UInt8} (hk : k < l.length) (hc : c ≠ l[k]) (x : BitVec 32) : Crc.fold x (l.set k c) ≠ Crc.fold x l := by
  intro h
  have e1 : l = l.take k ++ l[k] :: l.drop (k + 1) := by
    conv => lhs; rw [← List.take_append_drop k l, List.drop_eq_getElem_cons hk]
  have e2 : l.set k c = l.take k ++ c :: l.drop (k + 1) := by rw [List.set_eq_take_append_cons_drop, if_pos hk]
  rw [e2] at h
  conv at h => rhs; rw [e1]
  unfold Crc.fold at h
  rw [List.foldl_append, List.foldl_append, List.foldl_cons, List.foldl_cons] at h
  exact hc (byteStep_inj (fold_inj _ _ _ h))
theorem big_inj4 {a b : Nat} (ha : a < 4294967296) (hb : b < 4294967296) (h : big a 4 = big b 4) : a = b := by
  have h2 := congrArg small h
  rw [small_big, small_big] at h2
  have p4 : (256 : Nat) ^ 4 = 4294967296 := rfl
  rw [p4] at h2
  omega
/-- A sealed text of which one byte is another one is not sealed. -/
theorem turned_whole (s t : ByteArray) (k : Nat) (c : UInt8) (hs : wholeB s = true) (h4 : 4 ≤ s.size) (hk : k < (bytesOf s).length) (hc : c ≠ (bytesOf s)[k]) (ht : bytesOf t = (bytesOf s).set k c) : wholeB t = false := by
  rw [Bool.eq_false_iff]
  intro hw
  rw [wholeB_iff] at hs hw
  have hsz : t.size = s.size := by rw [← bytes_length, ht, List.length_set, bytes_length]
  have hbs := congrArg bytesOf hs
  have hbt := congrArg bytesOf hw
  rw [bytes_sealB, bytes_extract, List.drop_zero] at hbs hbt
  rw [hsz, ht] at hbt
  rw [bytes_length] at hk
  have hl : (bytesOf s).length = s.size := bytes_length s
  -- the four bytes behind
  have hS : (bytesOf s).drop (s.size - 4) = big (sumB (s.extract 0 (s.size - 4))) 4 := by
    conv => lhs; rw [← hbs]
    rw [drop_left (by simp; omega)]
  have hT : ((bytesOf s).set k c).drop (s.size - 4) = big (sumB (t.extract 0 (s.size - 4))) 4 := by
    conv => lhs; rw [← hbt]
    rw [drop_left (by simp; omega)]
  by_cases hlt : k < s.size - 4
  · rw [List.drop_set_of_lt (by omega), hS] at hT
    have hsum := big_inj4 (sumB_lt _) (sumB_lt _) hT
    unfold sumB at hsum
    have hx : (t.extract 0 (s.size - 4)).data.toList = ((s.extract 0 (s.size - 4)).data.toList).set k c := by
      have e1 := bytes_extract t 0 (s.size - 4)
      have e2 := bytes_extract s 0 (s.size - 4)
      rw [List.drop_zero, ht, List.take_set] at e1
      rw [List.drop_zero] at e2
      show bytesOf (t.extract 0 (s.size - 4)) = (bytesOf (s.extract 0 (s.size - 4))).set k c
      rw [e1, e2]
    rw [hx] at hsum
    have hb := BitVec.eq_of_toNat_eq hsum
    unfold Crc.more at hb
    have hb2 : Crc.fold (~~~0#32) ((s.extract 0 (s.size - 4)).data.toList) = Crc.fold (~~~0#32) (((s.extract 0 (s.size - 4)).data.toList).set k c) := by
      have := congrArg (fun z => ~~~ z) hb
      simpa using this
    have e2 : (s.extract 0 (s.size - 4)).data.toList = (bytesOf s).take (s.size - 4) := by
      have := bytes_extract s 0 (s.size - 4)
      rw [List.drop_zero] at this
      exact this
    rw [e2] at hb2
    exact fold_set (k := k) (by simp; omega) (by rw [List.getElem_take]; exact hc) _ hb2.symm
  · have hx : t.extract 0 (s.size - 4) = s.extract 0 (s.size - 4) := by
      apply bytes_inj
      rw [bytes_extract, bytes_extract, ht, List.take_set_of_le (by omega)]
    rw [hx, ← hS] at hT
    have h5 := congrArg (fun l => l[k - (s.size - 4)]?) hT
    simp only [List.getElem?_drop] at h5
    rw [show s.size - 4 + (k - (s.size - 4)) = k by omega, List.getElem?_set_self (by omega), List.getElem?_eq_getElem (by omega)] at h5
    exact hc (Option.some.inj h5)
theorem payB_seal {item : ByteArray} (h : item.size ≤ 1048576) : payB item = sealB (numB item.size 4 ++ item) := by unfold payB; rw [if_neg (by omega)]
theorem pay_head {item : ByteArray} (h : item.size ≤ 1048576) : (bytesOf (payB item)).take 4 = big item.size 4 := by
  rw [payB_seal h, bytes_sealB, bytes_append, bytes_numB, List.append_assoc, take_left (by rw [big_length])]
theorem readPay_cut {item : ByteArray} (h : item.size ≤ 1048576) {c : Nat} (hc : c < item.size + 8) : readPayB ((payB item).extract 0 c) = none := by
  have hsz : ((payB item).extract 0 c).size = c := by rw [ByteArray.size_extract, payB_size item h]; omega
  unfold readPayB
  by_cases h4 : c < 4
  · rw [if_pos (by omega)]
  · have hk : small (bytesOf (((payB item).extract 0 c).extract 0 4)) = item.size := by
      rw [bytes_extract, bytes_extract, List.drop_zero, List.drop_zero, List.take_take, show min 4 c = 4 by omega, pay_head h, small_big]
      omega
    rw [if_neg (by omega), hk, if_pos (.inr (by omega))]
theorem readPay_turned {item t : ByteArray} (h : item.size ≤ 1048576) {k : Nat} {c : UInt8} (h4 : 4 ≤ k) (hk : k < (bytesOf (payB item)).length) (hc : c ≠ (bytesOf (payB item))[k]) (ht : bytesOf t = (bytesOf (payB item)).set k c) : readPayB t = none := by
  have hw := turned_whole (payB item) t k c (by rw [payB_seal h]; exact whole_seal _) (by rw [payB_size item h]; omega) hk hc ht
  have hts : t.size = item.size + 8 := by rw [← bytes_length, ht, List.length_set, bytes_length, payB_size item h]
  have hsm : small (bytesOf (t.extract 0 4)) = item.size := by
    rw [bytes_extract, List.drop_zero, ht, List.take_set_of_le (by omega), pay_head h, small_big]
    omega
  have hex : t.extract 0 (item.size + 8) = t := by
    apply bytes_inj
    rw [bytes_extract, List.drop_zero, List.take_of_length_le (by rw [bytes_length]; omega)]
  unfold readPayB
  rw [if_neg (by omega), hsm, if_neg (by omega), hex, hw]
  rfl
theorem readNode_err {k : Int} {p : Nat} {s : ByteArray} (h1 : 1 ≤ k) (h2 : k ≤ 32) (h : s.size ≠ 40 ∨ wholeB s = false) : readNodeV k p s = .tuple #[.string ⟨#[]⟩, .int .i64 180] := by
  unfold readNodeV
  rw [if_neg (by omega), if_neg]
  unfold nodeOk
  rcases h with h | h
  · simp [h]
  · simp [h]
theorem readMark_err {s : ByteArray} (h : s.size ≠ 64 ∨ wholeB s = false) : readMarkV s = .tuple #[mkV zeroMk, .int .i64 180] := by
  unfold readMarkV readMarkB
  by_cases h64 : s.size = 64
  · have hw : wholeB s = false := by rcases h with h | h; exact absurd h64 h; exact h
    rw [if_pos h64, if_neg]
    rw [beqB, decide_eq_true_iff]
    intro hm
    by_cases hr : 1 ≤ (markOf s).k ∧ (markOf s).k ≤ 32
    · have : wholeB s = true := by
        rw [← hm]
        unfold markB
        rw [if_neg (by omega)]
        exact whole_seal _
      rw [this] at hw; cases hw
    · have : markB (markOf s) = ⟨#[]⟩ := by unfold markB; rw [if_pos (by omega)]
      rw [this] at hm
      rw [← hm] at h64
      exact absurd h64 (by decide)
  · rw [if_neg h64]
theorem byte_xor (a b : UInt8) : bits .xor .u8 (a.toNat : Int) (b.toNat : Int) = ((a ^^^ b).toNat : Int) := by
  unfold bits
  simp only [BitVec.ofInt_natCast]
  rw [IntKind.wrap_u8]
  show ((BitVec.ofNat 8 a.toNat ^^^ BitVec.ofNat 8 b.toNat).toNat : Int) % 256 = _
  have ha := a.toNat_lt
  have hb := b.toNat_lt
  rw [UInt8.toNat_xor, BitVec.toNat_xor, BitVec.toNat_ofNat, BitVec.toNat_ofNat, Nat.mod_eq_of_lt (by omega), Nat.mod_eq_of_lt (by omega)]
  have := Nat.xor_lt_two_pow (n := 8) ha hb
  omega
theorem xor_ne (a : UInt8) {c : UInt8} (h : c ≠ 0) : a ^^^ c ≠ a := by
  intro e
  apply h
  have := congrArg (fun x => a ^^^ x) e
  simpa [← UInt8.xor_assoc] using this
theorem turned_all {it d' X0 X1 X2 s t : ByteArray} {p i kk : Nat} {m : Mk} {c : UInt8} (h0 : X0 = payB it) (h1 : X1 = nodeB p d') (h2 : X2 = markB m) (hit : it.size ≤ 2000) (hd1 : 1 ≤ d'.size) (hd2 : d'.size ≤ 32) (hk1 : 1 ≤ m.k) (hk2 : m.k ≤ 32)
    (hs : s = [X0, X1, X2].getD i ByteArray.empty) (hkk : kk < s.size) (h8 : 8 ≤ s.size) (hc : c ≠ 0) (ht : bytesOf t = (bytesOf s).set kk ((bytesOf s).getD kk 0 ^^^ c)) :
    (i = 0 → 4 ≤ kk → payV (readPayB t) = .tuple #[.string ⟨#[]⟩, .int .i64 0, .int .i64 180]) ∧ (i = 1 → readNodeV (d'.size : Int) p t = .tuple #[.string ⟨#[]⟩, .int .i64 180]) ∧ (i = 2 → readMarkV t = .tuple #[.agg #[.int .i64 0, .int .u64 0, .int .u64 0, .int .u64 0, .int .u32 0], .int .i64 180]) := by
  have hl : kk < (bytesOf s).length := by rw [bytes_length]; exact hkk
  have hne : (bytesOf s).getD kk 0 ^^^ c ≠ (bytesOf s)[kk] := by
    have e : (bytesOf s).getD kk 0 = (bytesOf s)[kk] := by simp [List.getD, hl]
    rw [e]; exact xor_ne _ hc
  refine ⟨fun hi h4 => ?_, fun hi => ?_, fun hi => ?_⟩
  · subst hi
    have e : s = payB it := hs.trans h0
    subst e
    rw [readPay_turned (by omega) h4 hl hne ht]
    rfl
  · subst hi
    have e : s = nodeB p d' := hs.trans h1
    refine readNode_err (by omega) (by omega) (.inr (turned_whole s t kk _ ?_ (by omega) hl hne ht))
    rw [e, node_body rfl hd2]; exact whole_seal _
  · subst hi
    have e : s = markB m := hs.trans h2
    refine readMark_err (.inr (turned_whole s t kk _ ?_ (by omega) hl hne ht))
    rw [e]; unfold markB; rw [if_neg (by omega)]; exact whole_seal _
end Rec
end Go.Proofs.YtbfbajfdlkgloaaGreatDoor
