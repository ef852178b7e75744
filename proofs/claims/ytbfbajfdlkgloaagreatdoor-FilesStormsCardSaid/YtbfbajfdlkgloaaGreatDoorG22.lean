/-
  A disk of a list of items: what is added, told, opened anew, where no fate lies, in plain Lean. No program in sight.
-/
import Derived.Test.YtbfbajfdlkgloaaGreatDoorG21

namespace Go.Proofs.YtbfbajfdlkgloaaGreatDoor
open Go Go.RowKit
namespace Fl
def mL (k : Nat) (L : List It) : ByteArray := mB (ms k L 0 0 0)
/-- The disk of a list: its three files, all synced. -/
def dOf (b : Dk.St) (k : Nat) (L : List It) (acts : Nat) : Dk.St := d3 b ⟨aF L, aF L⟩ ⟨mL k L, mL k L⟩ ⟨nF 0 L, nF 0 L⟩ acts
theorem mL_size {k : Nat} (hk1 : 1 ≤ k) (hk : k ≤ 32) (L : List It) : (mL k L).size = 64 * L.length := by
  unfold mL
  rw [mB_size hk1 hk _ (ms_k k L 0 0 0), ms_len]
theorem nL_size {k : Nat} (hk : k ≤ 32) {L : List It} (h : okL k 0 L) : (nF 0 L).size = 40 * nodes L.length := by
  have := nF_size hk L 0 h
  rw [nodes_zero, Nat.zero_add] at this
  omega
theorem aF_snoc (L : List It) (x : It) : aF (L ++ [x]) = aF L ++ Rec.payB x.1 := by
  rw [aF_append]; show _ ++ (Rec.payB x.1 ++ ⟨#[]⟩) = _; rw [apnil]
theorem nF_snoc (L : List It) (x : It) : nF 0 (L ++ [x]) = nF 0 L ++ catAll (rF L.length x) := by
  rw [nF_append, Nat.zero_add]; show _ ++ (catAll (rF L.length x) ++ ⟨#[]⟩) = _; rw [apnil]
theorem mL_snoc (k : Nat) (L : List It) (x : It) : mL k (L ++ [x]) = mL k L ++ Rec.markB (mkOf k x L.length (aF L).size (cE L 0 0)) := by
  unfold mL
  rw [ms_append, mB_append, Nat.zero_add, Nat.zero_add]; show _ ++ (Rec.markB _ ++ ⟨#[]⟩) = _; rw [apnil]
theorem stOf_snoc (k : Nat) (L : List It) (x : It) : stOf k (L ++ [x]) = { stOf k L with ends := (stOf k L).ends ++ [(aF L).size + (Rec.payB x.1).size], chain := cN L.length (cE L 0 0) x } := by
  unfold stOf
  rw [endsF_append, cE_append, Nat.zero_add, Nat.zero_add]
  rfl
/-- What an Add makes of a list's disk. -/
theorem add_good {b : Dk.St} (hb : calm b) {k : Nat} (hk1 : 1 ≤ k) (hk : k ≤ 32) (L : List It) (x : It) (acts : Nat) (hL : okL k 0 (L ++ [x])) (hn : L.length < 65536)
    (hA : (aF (L ++ [x])).size ≤ 268435456) (hu : (((aF (L ++ [x])).size + 64 * (L.length + 1) + 40 * nodes (L.length + 1) : Nat) : Int) ≤ b.room) (hr : b.room ≤ 9223372036854775807) :
    addA (stOf k L) (dOf b k L acts) x.1 x.2 = (0, stOf k (L ++ [x]), dOf b k (L ++ [x]) (acts + 6)) := by
  obtain ⟨hL1, ⟨hx1, hx2, hx3⟩, _⟩ := (okL_append L [x] 0).1 hL
  rw [Nat.zero_add] at hx2
  have hlen : (stOf k L).ends.length = L.length := endsF_len L 0
  have hps := Rec.payB_size x.1 hx1
  have hsA : (aF (L ++ [x])).size = (aF L).size + (Rec.payB x.1).size := by rw [aF_snoc, ByteArray.size_append]
  have hck : checkA (stOf k L) x.1 x.2 = 0 := by
    unfold checkA
    rw [if_neg (by show ¬ false = true; decide), if_neg (by omega), hlen, if_neg (by omega), if_neg (by omega), if_neg (by
      rw [Bool.not_eq_false, List.all_eq_true]
      intro d hd
      exact decide_eq_true (hx3 d hd)), fin_stOf, if_neg (by omega)]
  have hrs := rF_size (i := L.length) hk hx3
  have hN := nL_size hk hL1
  have hM := mL_size hk1 hk L
  have hm64 := Rec.mark_size (mkOf k x L.length (aF L).size (cE L 0 0)) (by show (1 : Int) ≤ (k : Int); omega) (by show (k : Int) ≤ 32; omega)
  have hmono := nodes_mono L.length
  have hnle := nodes_le (L.length + 1)
  have hacts : actsOf (stOf k L) x.1 x.2 = [.write nItems (aF L).size (Rec.payB x.1), .write nNodes (nF 0 L).size (catAll (rF L.length x)), .sync nItems, .sync nNodes, .write nMarks (mL k L).size (Rec.markB (mkOf k x L.length (aF L).size (cE L 0 0))), .sync nMarks] := by
    unfold actsOf markOfAdd fin' chain'
    rw [fin_stOf, hlen, hN, hM]
    rfl
  have h6 := six_calm (b := b) hb (aF L) (mL k L) (nF 0 L) (Rec.payB x.1) (catAll (rF L.length x)) (Rec.markB (mkOf k x L.length (aF L).size (cE L 0 0))) acts (by omega) (by omega) (by omega) (by omega) hr
  unfold addA
  rw [if_neg (by rw [hck]; decide), hacts]
  unfold dOf
  rw [h6]
  rw [if_neg (fun h => h rfl), aF_snoc, nF_snoc, mL_snoc, stOf_snoc]
  unfold fin' chain'
  rw [fin_stOf, hlen]
  rfl
/-! what is told -/
theorem read_in (d : Dk.St) (n : ByteArray) (f : ByteArray) (hf : (Dk.get d.files n).now = f) (hd : d.down = false) {i j : Nat} (hij : i ≤ j) (hj : j ≤ f.size) (o l : Int) (ho : o = (i : Int)) (hl : l = (j : Int) - i) :
    Dk.read d n o l = (f.extract i j, 0) := by
  subst ho; subst hl
  unfold Dk.read
  rw [if_neg (by rw [hd]; decide), hf, if_neg (by omega), show ((i : Int) + ((j : Int) - i)) = (j : Int) by omega, Int.toNat_natCast, Int.toNat_natCast]
theorem bytes_in (d : Dk.St) (n : ByteArray) (f : ByteArray) (hf : (Dk.get d.files n).now = f) (hd : d.down = false) {i j : Nat} (hij : i ≤ j) (hj : j ≤ f.size) (o l : Int) (ho : o = (i : Int)) (hl : l = (j : Int) - i) :
    bytesA d n o l = (f.extract i j, 0) := by
  unfold bytesA
  rw [read_in d n f hf hd hij hj o l ho hl, if_pos (.inl rfl)]
theorem pay_of {b : ByteArray} (h : b.size ≤ 1048576) : payOf (Rec.payB b) = (b, 0) := by
  have := Rec.readPay_back b ⟨#[]⟩ h
  rw [apnil] at this
  unfold payOf
  rw [this]
  dsimp only
  rw [if_pos (Rec.payB_size b h).symm]
theorem node_of {d : ByteArray} {k p : Nat} (hd : d.size = k) (hk : k ≤ 32) : nodeOf k p (Rec.nodeB p d) = (d, 0) := by
  subst hd
  unfold nodeOf
  rw [if_pos (node_ok hk)]
  congr 1
  apply Rec.bytes_inj
  have h := node_take (p := p) hk
  have h2 : bytesOf ((Rec.nodeB p d).extract 0 d.size) = bytesOf d := by rw [h]
  rw [Rec.bytes_extract, List.drop_zero] at h2
  rw [← h2]
  simp [bytesOf]
theorem item_good {k : Nat} (L1 L2 : List It) (x : It) (d : Dk.St) (ta : ByteArray) (hd : d.down = false) (hf : (Dk.get d.files nItems).now = aF (L1 ++ x :: L2) ++ ta) (hx : x.1.size ≤ 1048576) :
    itemA (stOf k (L1 ++ x :: L2)) d L1.length = (x.1, 0) := by
  have hlen : (stOf k (L1 ++ x :: L2)).ends.length = L1.length + (L2.length + 1) := by rw [show (stOf k (L1 ++ x :: L2)).ends = endsF (L1 ++ x :: L2) 0 from rfl, endsF_len]; simp
  have hsz : (aF (L1 ++ x :: L2) ++ ta).size = (aF L1).size + ((Rec.payB x.1).size + ((aF L2).size + ta.size)) := by
    rw [ByteArray.size_append, aF_append, ByteArray.size_append]
    show _ + (Rec.payB x.1 ++ aF L2).size + _ = _
    rw [ByteArray.size_append]; omega
  have he : (stOf k (L1 ++ x :: L2)).ends.getD L1.length 0 = (aF L1).size + (Rec.payB x.1).size := ends_get L1 L2 x 0
  have hbb := bytes_in d nItems _ hf hd (i := (aF L1).size) (j := (aF L1).size + (Rec.payB x.1).size) (by omega) (by omega) (begins (stOf k (L1 ++ x :: L2)) L1.length : Nat) (((stOf k (L1 ++ x :: L2)).ends.getD L1.length 0 : Nat) - (begins (stOf k (L1 ++ x :: L2)) L1.length : Nat)) (by rw [begins_get]) (by rw [begins_get, he])
  have hex : (aF (L1 ++ x :: L2) ++ ta).extract (aF L1).size ((aF L1).size + (Rec.payB x.1).size) = Rec.payB x.1 := by
    rw [aF_append]
    show (aF L1 ++ (Rec.payB x.1 ++ aF L2) ++ ta).extract _ _ = _
    rw [apass, apass]
    exact ext_mid _ _ _ rfl rfl
  rw [hex] at hbb
  unfold itemA
  rw [if_neg (by omega), hbb, if_neg (fun h => h rfl), pay_of hx]
theorem item_out (k : Nat) (L : List It) (d : Dk.St) (i : Nat) (h : L.length ≤ i) : itemA (stOf k L) d i = (⟨#[]⟩, 31) := by
  unfold itemA
  rw [if_pos (by rw [show (stOf k L).ends = endsF L 0 from rfl, endsF_len]; exact h)]
theorem node_good {k : Nat} (hk : k ≤ 32) (L1 L2 : List It) (x : It) (d : Dk.St) (tn : ByteArray) (hd : d.down = false) (hf : (Dk.get d.files nNodes).now = nF 0 (L1 ++ x :: L2) ++ tn) (hL : okL k 0 (L1 ++ x :: L2)) (j : Nat) (y : ByteArray) (hj : x.2[j]? = some y) :
    nodeA (stOf k (L1 ++ x :: L2)) d (nodes L1.length + j) = (y, 0) := by
  have hlen : (stOf k (L1 ++ x :: L2)).ends.length = L1.length + (L2.length + 1) := by rw [show (stOf k (L1 ++ x :: L2)).ends = endsF (L1 ++ x :: L2) 0 from rfl, endsF_len]; simp
  obtain ⟨h1, ⟨hx1, hx2, hx3⟩, h2⟩ := (okL_append L1 (x :: L2) 0).1 hL
  rw [Nat.zero_add] at hx2 h2
  have hN1 := nL_size hk h1
  have hall := nL_size hk hL
  have hN2 := nF_size hk L2 (L1.length + 1) h2
  have hlt := (List.getElem?_eq_some_iff.1 hj).1
  have hmono := nodes_mono L1.length
  rw [List.length_append, List.length_cons, show L1.length + (L2.length + 1) = L1.length + 1 + L2.length by omega] at hall
  have hp : nodes L1.length + j < nodes (L1.length + (L2.length + 1)) := by rw [show L1.length + (L2.length + 1) = L1.length + 1 + L2.length by omega]; omega
  have hsz : (nF 0 (L1 ++ x :: L2) ++ tn).size = (nF 0 (L1 ++ x :: L2)).size + tn.size := ByteArray.size_append ..
  have hex := (made_good hk x.2 (nodes L1.length) (nF 0 L1) (nF (L1.length + 1) L2 ++ tn) hN1 hx3).2 j y hj
  have hbb := bytes_in d nNodes _ hf hd (i := 40 * (nodes L1.length + j)) (j := 40 * (nodes L1.length + j) + 40) (by omega) (by omega) (40 * (nodes L1.length + j) : Nat) 40 rfl (by omega)
  have hre : (nF 0 (L1 ++ x :: L2) ++ tn) = nF 0 L1 ++ (catAll (recsB (nodes L1.length) x.2) ++ (nF (L1.length + 1) L2 ++ tn)) := by
    rw [nF_append, Nat.zero_add]
    show nF 0 L1 ++ (catAll (rF L1.length x) ++ nF (L1.length + 1) L2) ++ tn = _
    rw [apass, apass]; rfl
  rw [hre, hex] at hbb
  unfold nodeA
  rw [hlen, if_neg (by omega), hbb, if_neg (fun h => h rfl)]
  exact node_of (hx3 y (List.mem_of_getElem? hj)) hk
theorem node_out (k : Nat) (L : List It) (d : Dk.St) (p : Nat) (h : nodes L.length ≤ p) : nodeA (stOf k L) d p = (⟨#[]⟩, 31) := by
  unfold nodeA
  rw [if_pos (by rw [show (stOf k L).ends = endsF L 0 from rfl, endsF_len]; exact h)]
/-! what is opened -/
/-- The files of a list, with whatever stands behind the ends. -/
structure Behind (d : Dk.St) (k : Nat) (L : List It) (ta tm tn : ByteArray) : Prop where
  up : d.down = false
  items : (Dk.get d.files nItems).now = aF L ++ ta
  nodes : (Dk.get d.files nNodes).now = nF 0 L ++ tn
  marks : (Dk.get d.files nMarks).now = mL k L ++ tm
  few : tm.size < 64
theorem open_good {d : Dk.St} {k : Nat} (hk1 : 1 ≤ k) (hk : k ≤ 32) {L : List It} {ta tm tn : ByteArray} (hB : Behind d k L ta tm tn) (hL : okL k 0 L) (hn : L.length ≤ 65536) (hA : (aF L).size < 18446744073709551616) :
    openA d (k : Int) = if (settleA d (aF L).size L.length).1 ≠ 0 then ((settleA d (aF L).size L.length).1, none, (settleA d (aF L).size L.length).2) else (0, some (stOf k L), (settleA d (aF L).size L.length).2) := by
  have hM := mL_size hk1 hk L
  have hN := nL_size hk hL
  have hfew := hB.few
  have hmk : (mL k L ++ tm).size / 64 = (ms k L 0 0 0).length := by rw [ByteArray.size_append, ms_len]; omega
  have hmarks := markers_good hk1 hk tm (ms k L 0 0 0) [] (by intro m hm; cases hm) (ms_ok hk L 0 0 0 hL (by omega) (by omega))
  rw [List.nil_append, show mB [] ++ (mB (ms k L 0 0 0) ++ tm) = mL k L ++ tm from nilap _] at hmarks
  have hlook := look_good hk L 0 0 0 ⟨#[]⟩ ⟨#[]⟩ ta tn rfl (by rw [nodes_zero]; rfl) hL
  rw [nilap, nilap] at hlook
  have hshort : tooShort (aF L ++ ta) (nF 0 L ++ tn) (ms k L 0 0 0) = false := by
    rcases List.eq_nil_or_concat L with rfl | ⟨M, y, rfl⟩
    · rfl
    · rw [List.concat_eq_append] at hN ⊢
      unfold tooShort
      rw [ms_append, List.getLast?_append]
      show decide (_ ∨ _) = false
      apply decide_eq_false
      intro h
      rcases h with h | h
      · have h : (aF (M ++ [y]) ++ ta).size < 0 + (aF M).size + (Rec.payB y.1).size := h
        rw [ByteArray.size_append, aF_snoc, ByteArray.size_append] at h
        omega
      · have h : (nF 0 (M ++ [y]) ++ tn).size < 40 * nodes (0 + M.length + 1) := h
        rw [ByteArray.size_append, hN, List.length_append, List.length_singleton, Nat.zero_add] at h
        omega
  have hlast : ((ms k L 0 0 0).map (·.items)).getLastD 0 = (aF L).size := by rw [ms_items, endsF_last, Nat.zero_add]
  unfold openA
  rw [if_neg (by omega), if_neg (by rw [hB.up]; decide), hB.marks, hmk, hmarks]
  dsimp only
  rw [hB.items, hB.nodes, if_neg (by rw [hshort]; decide), Int.toNat_natCast, hlook]
  dsimp only
  rw [hlast, ms_len, ms_items]
  rfl
/-- The files' list, when all three have been put. -/
def Three (fs : Dk.Fs) : Prop := ∀ a b c, Dk.put (Dk.put (Dk.put fs nItems a) nNodes b) nMarks c = [(nItems, a), (nMarks, c), (nNodes, b)]
theorem three_nil : Three [] := fun _ _ _ => rfl
theorem three_d3 (a b c : Dk.F) : Three [(nItems, a), (nMarks, b), (nNodes, c)] := fun _ _ _ => rfl
theorem syncs_calm {d : Dk.St} (hd : calm d) (h3 : Three d.files) (A N M : ByteArray) (hA : (Dk.get d.files nItems).now = A) (hN : (Dk.get d.files nNodes).now = N) (hM : (Dk.get d.files nMarks).now = M)
    (e1 : ∀ f, Dk.get (Dk.put d.files nItems f) nNodes = Dk.get d.files nNodes) (e2 : ∀ f g, Dk.get (Dk.put (Dk.put d.files nItems f) nNodes g) nMarks = Dk.get d.files nMarks) :
    doAll d [.sync nItems, .sync nNodes, .sync nMarks] = (0, d3 d ⟨A, A⟩ ⟨M, M⟩ ⟨N, N⟩ (d.acts + 3)) := by
  have s1 : doV d (.sync nItems) = (0, { d with files := Dk.put d.files nItems ⟨A, A⟩, acts := d.acts + 1 }) := by
    show Dk.syncA _ _ = _; rw [sync_calm hd, hA]
  have s2 : doV { d with files := Dk.put d.files nItems ⟨A, A⟩, acts := d.acts + 1 } (.sync nNodes) = (0, { d with files := Dk.put (Dk.put d.files nItems ⟨A, A⟩) nNodes ⟨N, N⟩, acts := d.acts + 1 + 1 }) := by
    show Dk.syncA _ _ = _
    rw [sync_calm (by exact hd)]
    dsimp only
    rw [e1, hN]
  have s3 : doV { d with files := Dk.put (Dk.put d.files nItems ⟨A, A⟩) nNodes ⟨N, N⟩, acts := d.acts + 1 + 1 } (.sync nMarks) = (0, d3 d ⟨A, A⟩ ⟨M, M⟩ ⟨N, N⟩ (d.acts + 3)) := by
    show Dk.syncA _ _ = _
    rw [sync_calm (by exact hd)]
    dsimp only
    rw [e2, hM, h3]
    rfl
  simp only [doAll, s1, s2, s3, if_true]
theorem cut_calm {d : Dk.St} (h : calm d) (n : ByteArray) (k : Nat) (X T : ByteArray) (hf : (Dk.get d.files n).now = X ++ T) (hk : k = X.size) :
    cutIf d n k = (0, if T.size = 0 then d else { d with files := Dk.put d.files n ⟨X, (Dk.get d.files n).was⟩, acts := d.acts + 1 }) := by
  have hsz : Dk.size d n = ((X.size + T.size : Nat) : Int) := by unfold Dk.size; rw [if_neg (by rw [h.1]; decide), hf, ByteArray.size_append]
  unfold cutIf
  rw [hsz]
  by_cases h0 : T.size = 0
  · rw [if_neg (by omega), if_pos h0]
  · rw [if_pos (by omega), if_neg h0]
    unfold Dk.cutA
    rw [if_neg (by rw [h.1]; decide), hf, if_neg (by rw [ByteArray.size_append]; omega), actC_calm h.2, Int.toNat_natCast]
    congr 5
    have := ext_mid ⟨#[]⟩ X T (i := 0) (j := k) rfl (by omega)
    rwa [nilap] at this
def more (t : ByteArray) : Nat := if t.size = 0 then 0 else 1
/-- What settling leaves of a disk of the three files. -/
theorem settle_three {b : Dk.St} (hb : calm b) (A M N ta tm tn wa wm wn : ByteArray) (acts e n : Nat) (hA : e = A.size) (hN : N.size = 40 * nodes n) (hM : M.size = 64 * n) :
    settleA (d3 b ⟨A ++ ta, wa⟩ ⟨M ++ tm, wm⟩ ⟨N ++ tn, wn⟩ acts) e n = (0, d3 b ⟨A, A⟩ ⟨M, M⟩ ⟨N, N⟩ (acts + more ta + more tm + more tn + 3)) := by
  have hc : ∀ fi fm fn a, calm (d3 b fi fm fn a) := fun _ _ _ _ => hb
  have z : ∀ (X T : ByteArray), T.size = 0 → X ++ T = X := by
    intro X T h
    apply Rec.bytes_inj
    rw [Rec.bytes_append, List.eq_nil_of_length_eq_zero ((Rec.bytes_length T).trans h), List.append_nil]
  have c1 : cutIf (d3 b ⟨A ++ ta, wa⟩ ⟨M ++ tm, wm⟩ ⟨N ++ tn, wn⟩ acts) nItems e = (0, d3 b ⟨A, wa⟩ ⟨M ++ tm, wm⟩ ⟨N ++ tn, wn⟩ (acts + more ta)) := by
    rw [cut_calm (hc _ _ _ _) nItems e A ta rfl hA]
    unfold more
    split
    · rename_i h; rw [z A ta h]; rfl
    · rfl
  have c2 : cutIf (d3 b ⟨A, wa⟩ ⟨M ++ tm, wm⟩ ⟨N ++ tn, wn⟩ (acts + more ta)) nNodes (40 * nodes n : Nat) = (0, d3 b ⟨A, wa⟩ ⟨M ++ tm, wm⟩ ⟨N, wn⟩ (acts + more ta + more tn)) := by
    rw [cut_calm (hc _ _ _ _) nNodes _ N tn rfl hN.symm]
    unfold more
    split
    · rename_i h; rw [z N tn h]; rfl
    · rfl
  have c3 : cutIf (d3 b ⟨A, wa⟩ ⟨M ++ tm, wm⟩ ⟨N, wn⟩ (acts + more ta + more tn)) nMarks (64 * n : Nat) = (0, d3 b ⟨A, wa⟩ ⟨M, wm⟩ ⟨N, wn⟩ (acts + more ta + more tn + more tm)) := by
    rw [cut_calm (hc _ _ _ _) nMarks _ M tm rfl hM.symm]
    unfold more
    split
    · rename_i h; rw [z M tm h]; rfl
    · rfl
  have s := syncs_calm (d := d3 b ⟨A, wa⟩ ⟨M, wm⟩ ⟨N, wn⟩ (acts + more ta + more tn + more tm)) (hc _ _ _ _) (three_d3 _ _ _) A N M rfl rfl rfl (fun _ => rfl) (fun _ _ => rfl)
  unfold settleA
  rw [c1]
  dsimp only
  rw [if_neg (by decide), c2]
  dsimp only
  rw [if_neg (by decide), c3]
  dsimp only
  rw [if_neg (by decide), s]
  have e : acts + more ta + more tn + more tm + 3 = acts + more ta + more tm + more tn + 3 := by omega
  show (0, d3 b _ _ _ (acts + more ta + more tn + more tm + 3)) = _
  rw [e]
/-- Opening a list's disk, whatever stands behind its ends. -/
theorem open_three {b : Dk.St} (hb : calm b) {k : Nat} (hk1 : 1 ≤ k) (hk : k ≤ 32) (L : List It) (ta tm tn wa wm wn : ByteArray) (acts : Nat) (hL : okL k 0 L) (hn : L.length ≤ 65536) (hA : (aF L).size < 18446744073709551616) (ht : tm.size < 64) :
    openA (d3 b ⟨aF L ++ ta, wa⟩ ⟨mL k L ++ tm, wm⟩ ⟨nF 0 L ++ tn, wn⟩ acts) (k : Int) = (0, some (stOf k L), dOf b k L (acts + more ta + more tm + more tn + 3)) := by
  have hs := settle_three hb (aF L) (mL k L) (nF 0 L) ta tm tn wa wm wn acts (aF L).size L.length rfl (nL_size hk hL) (mL_size hk1 hk L)
  rw [open_good hk1 hk (d := d3 b ⟨aF L ++ ta, wa⟩ ⟨mL k L ++ tm, wm⟩ ⟨nF 0 L ++ tn, wn⟩ acts) (L := L) (ta := ta) (tm := tm) (tn := tn) ⟨hb.1, rfl, rfl, rfl, ht⟩ hL hn hA, hs]
  rfl
theorem open_dOf {b : Dk.St} (hb : calm b) {k : Nat} (hk1 : 1 ≤ k) (hk : k ≤ 32) (L : List It) (acts : Nat) (hL : okL k 0 L) (hn : L.length ≤ 65536) (hA : (aF L).size < 18446744073709551616) :
    openA (dOf b k L acts) (k : Int) = (0, some (stOf k L), dOf b k L (acts + 3)) := by
  have h := open_three hb hk1 hk L ⟨#[]⟩ ⟨#[]⟩ ⟨#[]⟩ (aF L) (mL k L) (nF 0 L) acts hL hn hA (by decide)
  rw [apnil, apnil, apnil] at h
  exact h
/-- Opening an empty disk. -/
theorem open_new {b : Dk.St} (hb : calm b) (hf : b.files = []) {k : Nat} (hk1 : 1 ≤ k) (hk : k ≤ 32) : openA b (k : Int) = (0, some (stOf k []), dOf b k [] (b.acts + 3)) := by
  have hg : ∀ n, (Dk.get b.files n).now = ⟨#[]⟩ := by intro n; rw [hf]; rfl
  have s := syncs_calm (d := b) hb (by rw [hf]; exact three_nil) ⟨#[]⟩ ⟨#[]⟩ ⟨#[]⟩ (hg _) (hg _) (hg _) (by rw [hf]; exact fun _ => rfl) (by rw [hf]; exact fun _ _ => rfl)
  have c : ∀ n, cutIf b n 0 = (0, b) := by
    intro n
    have := cut_calm hb n 0 ⟨#[]⟩ ⟨#[]⟩ (hg n) rfl
    rw [if_pos (show (⟨#[]⟩ : ByteArray).size = 0 from rfl)] at this
    exact this
  have hs : settleA b 0 0 = (0, d3 b ⟨⟨#[]⟩, ⟨#[]⟩⟩ ⟨⟨#[]⟩, ⟨#[]⟩⟩ ⟨⟨#[]⟩, ⟨#[]⟩⟩ (b.acts + 3)) := by
    unfold settleA
    rw [c]
    dsimp only
    rw [if_neg (by decide), show 40 * nodes 0 = 0 from rfl, c]
    dsimp only
    rw [if_neg (by decide), show 64 * 0 = 0 from rfl, c]
    dsimp only
    rw [if_neg (by decide), s]
  have h := open_good hk1 hk (d := b) (L := []) (ta := ⟨#[]⟩) (tm := ⟨#[]⟩) (tn := ⟨#[]⟩) ⟨hb.1, hg _, hg _, hg _, by decide⟩ trivial (Nat.zero_le _) (by decide)
  rw [h]
  show (if (settleA b 0 0).1 ≠ 0 then _ else _) = _
  rw [show (settleA b (aF []).size ([] : List It).length) = settleA b 0 0 from rfl, hs]
  rfl
end Fl
end Go.Proofs.YtbfbajfdlkgloaaGreatDoor

/-
  What the law's own functions say, as plain data: strengths, lists, digests made of nothing; the lists of items that come of them. No program in sight.
-/
namespace Go.Proofs.YtbfbajfdlkgloaaGreatDoor
open Go Go.RowKit
namespace Fl
def strN (k : Int) : Nat := 1 + (k % 32).toNat
theorem strN_le (k : Int) : 1 ≤ strN k ∧ strN k ≤ 32 := by unfold strN; omega
def cut500 (s : ByteArray) : ByteArray := if 500 < s.size then s.extract 0 500 else s
theorem cut500_size (s : ByteArray) : (cut500 s).size ≤ 500 := by
  unfold cut500
  split
  · rw [ByteArray.size_extract]; omega
  · omega
def listL (l : List ByteArray) : List ByteArray := (l.take 12).map cut500
theorem listL_len (l : List ByteArray) : (listL l).length ≤ 12 := by unfold listL; rw [List.length_map, List.length_take]; omega
theorem listL_size {l : List ByteArray} {x : ByteArray} (h : x ∈ listL l) : x.size ≤ 500 := by
  unfold listL at h
  obtain ⟨y, _, rfl⟩ := List.mem_map.1 h
  exact cut500_size y
/-- The ones at a number's end. -/
def trailF : Nat → Nat → Nat
  | 0, _ => 0
  | f + 1, n => if n % 2 = 1 then 1 + trailF f (n / 2) else 0
def trail (n : Nat) : Nat := trailF 64 n
theorem trailF_le : ∀ f n, trailF f n ≤ f
  | 0, _ => Nat.le_refl _
  | f + 1, n => by unfold trailF; split <;> have := trailF_le f (n / 2) <;> omega
theorem ones_key (m j : Nat) : onesTo m (j + 1) = m % 2 + onesTo (m / 2) j := by
  unfold onesTo
  rw [List.range_succ_eq_map, List.map_cons, List.sum_cons, List.map_map]
  congr 1
  · simp
  · congr 1
    apply List.map_congr_left
    intro a _
    show m / 2 ^ (a + 1) % 2 = m / 2 / 2 ^ a % 2
    rw [Nat.pow_succ, Nat.mul_comm, Nat.div_div_eq_div_mul]
theorem trail_ones : ∀ (f n : Nat), n + 1 < 2 ^ f → onesTo (n + 1) f + trailF f n = onesTo n f + 1
  | 0, n, h => by omega
  | f + 1, n, h => by
    rw [ones_key, ones_key]
    unfold trailF
    rcases Nat.mod_two_eq_zero_or_one n with h2 | h2
    · rw [if_neg (by omega), show (n + 1) / 2 = n / 2 by omega]; omega
    · have h3 : n / 2 + 1 < 2 ^ f := by rw [Nat.pow_succ] at h; omega
      have := trail_ones f (n / 2) h3
      rw [if_pos h2, show (n + 1) / 2 = n / 2 + 1 by omega]; omega
theorem trail_nodes (n : Nat) (h : n < 18446744073709551615) : nodes (n + 1) - nodes n = 1 + trail n := by
  have h1 := trail_ones 64 n (by show n + 1 < 18446744073709551616; omega)
  have h2 : ones (n + 1) + trail n = ones n + 1 := h1
  have h3 := (ones_le (n + 1)).1
  have h4 := (ones_le n).1
  unfold nodes
  omega
def digOne (size k i : Nat) : ByteArray := ⟨((List.range k).map fun j => UInt8.ofNat (size + (7 * i + j))).toArray⟩
def digs (size k : Nat) : List ByteArray := (List.range (1 + trail size)).map (digOne size k)
theorem digOne_size (size k i : Nat) : (digOne size k i).size = k := by
  show ((List.range k).map _).toArray.size = k
  simp
theorem digs_len (size k : Nat) : (digs size k).length = 1 + trail size := by unfold digs; simp
theorem digs_size {size k : Nat} {d : ByteArray} (h : d ∈ digs size k) : d.size = k := by
  unfold digs at h
  obtain ⟨i, _, rfl⟩ := List.mem_map.1 h
  exact digOne_size size k i
/-- The items of a list with the digests that are made of nothing. -/
def its (k : Nat) : Nat → List ByteArray → List It
  | _, [] => []
  | i, x :: r => (x, digs i k) :: its k (i + 1) r
theorem its_len (k : Nat) : ∀ (l : List ByteArray) (i : Nat), (its k i l).length = l.length
  | [], _ => rfl
  | x :: r, i => by show (its k (i + 1) r).length + 1 = _; rw [its_len k r]; rfl
theorem its_append (k : Nat) : ∀ (l m : List ByteArray) (i : Nat), its k i (l ++ m) = its k i l ++ its k (i + l.length) m
  | [], m, i => rfl
  | x :: r, m, i => by
    show _ :: its k (i + 1) (r ++ m) = _ :: (its k (i + 1) r ++ its k (i + (r.length + 1)) m)
    rw [its_append k r m, show i + (r.length + 1) = i + 1 + r.length by omega]
theorem its_ok (k : Nat) : ∀ (l : List ByteArray) (i : Nat), i + l.length < 18446744073709551615 → (∀ x ∈ l, x.size ≤ 1048576) → okL k i (its k i l)
  | [], _, _, _ => trivial
  | x :: r, i, h, hx => by
    rw [List.length_cons] at h
    refine ⟨⟨hx x (by simp), ?_, fun d hd => digs_size hd⟩, its_ok k r (i + 1) (by omega) (fun y hy => hx y (by simp [hy]))⟩
    rw [digs_len, trail_nodes i (by omega)]
theorem its_size : ∀ (k : Nat) (l : List ByteArray) (i : Nat), (∀ x ∈ l, x.size ≤ 500) → (aF (its k i l)).size ≤ 508 * l.length
  | _, [], _, _ => Nat.le_refl _
  | k, x :: r, i, h => by
    have h1 := h x (by simp)
    have h2 := its_size k r (i + 1) (fun y hy => h y (by simp [hy]))
    show (Rec.payB x ++ aF (its k (i + 1) r)).size ≤ _
    rw [ByteArray.size_append, Rec.payB_size x (by omega), List.length_cons]
    omega
theorem its_get (k : Nat) (l : List ByteArray) (i : Nat) (x : ByteArray) (h : l[i]? = some x) : ∃ L1 L2, its k 0 l = L1 ++ (x, digs i k) :: L2 ∧ L1.length = i := by
  have hlt := (List.getElem?_eq_some_iff.1 h).1
  refine ⟨its k 0 (l.take i), its k (i + 1) (l.drop (i + 1)), ?_, by rw [its_len, List.length_take]; omega⟩
  have h1 : l = l.take i ++ x :: l.drop (i + 1) := by
    rw [List.getElem?_eq_getElem hlt] at h
    injection h with h
    rw [← h, ← List.drop_eq_getElem_cons hlt, List.take_append_drop]
  conv => lhs; rw [h1]
  rw [its_append, Nat.zero_add, List.length_take, Nat.min_eq_left (by omega)]
  rfl
theorem its_snoc (k : Nat) (l : List ByteArray) (x : ByteArray) : its k 0 (l ++ [x]) = its k 0 l ++ [(x, digs l.length k)] := by
  rw [its_append, Nat.zero_add]; rfl
theorem nodes_twelve (n : Nat) (h : n ≤ 13) : nodes n ≤ 26 := by have := nodes_le n; omega
/-- What a store tells of a list made so. -/
structure Has (d : Dk.St) (k : Nat) (l : List ByteArray) : Prop where
  up : d.down = false
  items : ∃ ta, (Dk.get d.files nItems).now = aF (its k 0 l) ++ ta
  nodes : ∃ tn, (Dk.get d.files nNodes).now = nF 0 (its k 0 l) ++ tn
theorem Has.item {d : Dk.St} {k : Nat} {l : List ByteArray} (h : Has d k l) {i : Nat} {x : ByteArray} (hi : l[i]? = some x) (hx : x.size ≤ 1048576) : itemA (stOf k (its k 0 l)) d i = (x, 0) := by
  obtain ⟨L1, L2, e, rfl⟩ := its_get k l i x hi
  obtain ⟨ta, ht⟩ := h.items
  rw [e] at ht ⊢
  exact item_good L1 L2 (x, digs L1.length k) d ta h.up ht hx
theorem Has.itemOut {d : Dk.St} {k : Nat} {l : List ByteArray} (i : Nat) (h : l.length ≤ i) : itemA (stOf k (its k 0 l)) d i = (⟨#[]⟩, 31) := item_out k _ d i (by rw [its_len]; exact h)
theorem Has.node {d : Dk.St} {k : Nat} (hk : k ≤ 32) {l : List ByteArray} (h : Has d k l) (hl : l.length ≤ 65536) (hs : ∀ x ∈ l, x.size ≤ 1048576) {i j : Nat} {y : ByteArray} (hi : i < l.length) (hj : (digs i k)[j]? = some y) : nodeA (stOf k (its k 0 l)) d (Fl.nodes i + j) = (y, 0) := by
  obtain ⟨x, hx⟩ : ∃ x, l[i]? = some x := ⟨_, List.getElem?_eq_getElem hi⟩
  obtain ⟨L1, L2, e, rfl⟩ := its_get k l i x hx
  obtain ⟨tn, ht⟩ := h.nodes
  have hok := its_ok k l 0 (by omega) hs
  rw [e] at ht hok ⊢
  exact node_good hk L1 L2 (x, digs L1.length k) d tn h.up ht hok j y hj
theorem Has.nodeOut {d : Dk.St} {k : Nat} {l : List ByteArray} (p : Nat) (h : Fl.nodes l.length ≤ p) : nodeA (stOf k (its k 0 l)) d p = (⟨#[]⟩, 31) := node_out k _ d p (by rw [its_len]; exact h)
theorem made_step {b : Dk.St} (hb : calm b) (hroom : 10000 ≤ b.room ∧ b.room ≤ 9223372036854775807) {k : Nat} (hk1 : 1 ≤ k) (hk : k ≤ 32) {l : List ByteArray} (hl : l.length ≤ 13) (hs : ∀ x ∈ l, x.size ≤ 500) {i : Nat} {x : ByteArray} (hi : l[i]? = some x) (acts : Nat) :
    addA (stOf k (its k 0 (l.take i))) (dOf b k (its k 0 (l.take i)) acts) x (digs i k) = (0, stOf k (its k 0 (l.take (i + 1))), dOf b k (its k 0 (l.take (i + 1))) (acts + 6)) := by
  have hlt := (List.getElem?_eq_some_iff.1 hi).1
  have hlen : (l.take i).length = i := by rw [List.length_take]; omega
  have e : its k 0 (l.take (i + 1)) = its k 0 (l.take i) ++ [(x, digs i k)] := by
    rw [List.take_add_one, hi]
    show its k 0 (l.take i ++ [x]) = _
    rw [its_snoc, hlen]
  have hsz : ∀ y ∈ l.take (i + 1), y.size ≤ 500 := fun y hy => hs y (List.mem_of_mem_take hy)
  have hlen1 : (l.take (i + 1)).length = i + 1 := by rw [List.length_take]; omega
  have hA := its_size k (l.take (i + 1)) 0 hsz
  have hok := its_ok k (l.take (i + 1)) 0 (by omega) (fun y hy => by have := hsz y hy; omega)
  rw [hlen1] at hA
  rw [e] at hA hok ⊢
  have hL : (its k 0 (l.take i)).length = i := by rw [its_len, hlen]
  have hn := nodes_twelve (i + 1) (by omega)
  have h := add_good hb hk1 hk (its k 0 (l.take i)) (x, digs i k) acts hok (by omega) (by omega) (by rw [hL]; omega) hroom.2
  exact h
/-- Another strength is refused where there are items. -/
theorem open_other {b : Dk.St} (hb : calm b) {k k2 : Nat} (hk1 : 1 ≤ k) (hk : k ≤ 32) (hk3 : 1 ≤ k2) (hk4 : k2 ≤ 32) (hne : k2 ≠ k) (x : It) (r : List It) (acts : Nat) (hL : okL k 0 (x :: r)) (hlen : (x :: r).length ≤ 65536) (hA : (aF (x :: r)).size < 18446744073709551616) :
    openA (dOf b k (x :: r) acts) (k2 : Int) = (190, none, dOf b k (x :: r) acts) := by
  have hM := mL_size hk1 hk (x :: r)
  have hmk : (Dk.get (dOf b k (x :: r) acts).files nMarks).now = mL k (x :: r) := rfl
  have hsz : (mL k (x :: r)).size / 64 = r.length + 1 := by rw [hM, List.length_cons]; omega
  obtain ⟨h1, h2, h3, h4, h5, h6⟩ := (ms_ok hk (x :: r) 0 0 0 hL (by omega) (by omega)).1
  have hex : (mL k (x :: r)).extract (64 * ([] : List Rec.Mk).length) (64 * ([] : List Rec.Mk).length + 64) = Rec.markB (mkOf k x 0 0 0) := by
    have h := ext_mid ⟨#[]⟩ (Rec.markB (mkOf k x 0 0 0)) (mB (ms k r 1 (0 + (Rec.payB x.1).size) (cN 0 0 x))) (i := 0) (j := 64) rfl (by rw [Rec.mark_size _ (by show (1 : Int) ≤ (k : Int); omega) (by show (k : Int) ≤ 32; omega)])
    rw [nilap] at h
    exact h
  have hno : markersF (k2 : Int) (mL k (x :: r)) (r.length + 1) [] = none := by
    show (if _ then _ else _) = _
    rw [hex, if_neg (by rw [mark_notZero _ (by show (1 : Int) ≤ (k : Int); omega) (by show (k : Int) ≤ 32; omega)]; intro h; exact absurd h.2 (by decide)), Rec.readMark_back _ h1 (by show (1 : Int) ≤ (k : Int); omega) (by show (k : Int) ≤ 32; omega)]
    dsimp only
    rw [if_pos (.inr (.inr (.inl (by show (k : Int) ≠ (k2 : Int); omega))))]
  unfold openA
  rw [if_neg (by omega), if_neg (by show ¬ b.down = true; rw [hb.1]; decide), hmk, hsz, hno]
end Fl
end Go.Proofs.YtbfbajfdlkgloaaGreatDoor
