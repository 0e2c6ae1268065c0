/- archipelagolaw7.HuffBack: the walk. -/
import Derived.Test.YtmenmmgfdakeeaaH11g
namespace Go.Proofs.Ytmenmmgfdakeeaa
open Go Go.V Go.RowKit
set_option linter.unusedVariables false
set_option linter.unusedSimpArgs false
set_option maxHeartbeats 4000000
set_option maxRecDepth 100000

theorem putH_len {b : List Int} (hb : BytesB b) (hl : b.length ≤ 2 ^ 11) : (putH b).length ≤ 2 ^ 14 := by
  unfold putH
  split
  · have := putV_len10 (v := 0) (by omega); omega
  · rename_i hne
    obtain ⟨l1, r1, s1, v1⟩ := lsB_facts hb hne
    have h1 := putV_len10 (v := b.length) (by omega)
    have hp := posN_le (lsB b)
    have h2 := putV_len10 (v := posN (lsB b)) (by omega)
    have h3 := headR_length (lsB b) 0 0 v1 (by omega)
    have h4 := encL_length r1 (symB b)
    have h5 := sizeL_bound r1 (symB b)
    have h6 : (symB b).length = b.length := by simp
    simp only [List.length_append, packB_length]
    omega
theorem putH_pos (b : List Int) : 0 < (putH b).length := by
  unfold putH
  split
  · exact putV_pos 0
  · have := putV_pos b.length
    simp only [List.length_append]; omega

theorem walkHuffBack {w : World} {A B : Option Addr} {n c m d : Nat} {l more : List Int} {k cut : Int} (hrow : Row w A (u8s l)) (hn : n = l.length) (hb : BytesB l) (hk : 0 ≤ k ∧ k ≤ 255) (hcut : 0 ≤ cut ∧ cut ≤ 65535) (hmore : Row w B (u8s more)) (hm : m = more.length) (hmb : BytesB more) :
    Calls P 10 #[.slice A n c, .int .u8 k, .int .u16 cut, .slice B m d] w fun ev w' => ev = .returned (.bool true) ∧ w.grownBy w' none := by
  apply vc10; unfold VC10
  simp only [InK]
  refine known7_calls.mono fun ev w1 hh => ?_
  obtain ⟨rfl, g1⟩ := hh
  refine ⟨true, rfl, fun h => absurd h (by simp), fun _ => ⟨fun _ => ⟨by trivial, g1⟩, fun h60 => ⟨fun _ => ⟨by trivial, g1⟩, fun h8 => ⟨fun _ => ⟨by trivial, g1⟩, fun h0 => ?_⟩⟩⟩⟩
  have hB : ∃ b, B = some b := by
    obtain ⟨b, e, _⟩ := hmore.blk (by simp; intro e; subst e; simp at hm; omega)
    exact ⟨b, e⟩
  obtain ⟨bB, rfl⟩ := hB
  refine (text_calls (hrow.kept_none g1) hn hb hk (by omega)).mono fun ev w2 hh => ?_
  obtain ⟨A2, n2, c2, b, rfl, o2, hbb, hbl, g2⟩ := hh
  have hn2 := u8_len o2
  refine ⟨_, _, _, rfl, ?_⟩
  refine (hput_calls o2.row hn2 hbb (by omega)).mono fun ev w3 hh => ?_
  obtain ⟨A3, n3, c3, rfl, o3, g3⟩ := hh
  have hn3 := u8_len o3
  have hpl := putH_len hbb (by omega)
  have hpp := putH_pos b
  have hc3 := owned_le o3
  refine ⟨_, _, _, rfl, fun h => absurd h (by omega), fun _ => ?_⟩
  refine (hread_calls o3.row hn3 hc3 (putH_bytes _) (by omega)).mono fun ev w4 hh => ?_
  obtain ⟨g4, hr4⟩ := hh
  obtain ⟨A4, n4, c4, rfl, r4, hn4⟩ := read_good hbb (by omega) rfl hr4
  refine ⟨_, _, _, _, rfl, ?_⟩
  obtain ⟨A5, n5, c5, w5, e1, e2, e3, e4⟩ := append_bytes (n := 0) (c := 0) (A := none) (xs := []) (OwnedK.nil w4 w4.heap.size 5 1) ((o3.kept g4).row) hn3 (owned_cap o3) (by omega) (Nat.le_refl _)
  have g5 : w4.grownBy w5 none := grown_own (grown_refl w4 none) e3 (fun k hk => by simp [Value.ownBlock] at hk)
  have g15 := grown_trans (grown_trans (grown_trans g2 g3) g4) g5
  obtain ⟨A6, n6, c6, w6, f1, f2, f3, f4⟩ := append_bytes e2 ((hmore.kept_none g1).kept_none g15) hm (fun h => by cases h) (by omega) g5.size
  have g6 := grown_own g5 f3 e2.block_ge
  rw [List.nil_append] at f2
  refine ⟨_, _, _, w5, e1, _, _, _, w6, f1, ?_⟩
  have hxb : BytesB (putH b ++ more) := fun y hy => by
    rcases List.mem_append.1 hy with e | e
    · exact putH_bytes b y e
    · exact hmb y e
  refine (hread_calls f2.row (u8_len f2) (owned_le f2) hxb (by rw [List.length_append]; omega)).mono fun ev w7 hh => ?_
  obtain ⟨g7, hr7⟩ := hh
  have hbad := read_bad (fun o h1 h2 h3 => by
    have := putH_pre (s := []) (t := more) h1 hbb h2 (by omega) (by rw [h3]; simp)
    subst this
    have := congrArg List.length h3
    rw [List.length_append] at this
    omega) hr7
  subst hbad
  refine ⟨_, _, _, _, rfl, by omega, ⟨by omega, by omega⟩, ?_⟩
  have hm0 := Int.emod_nonneg cut (show (n3 : Int) ≠ 0 by omega)
  have hm1 := Int.emod_lt_of_pos cut (show (0 : Int) < (n3 : Int) by omega)
  obtain ⟨q, hq⟩ : ∃ q : Nat, cut % (n3 : Int) = (q : Int) := ⟨(cut % (n3 : Int)).toNat, by omega⟩
  rw [hq] at hm0 hm1 ⊢
  have tq : (q : Int).toNat = q := by omega
  rw [tq]
  refine ⟨⟨by omega, by omega⟩, ?_⟩
  have g47 := grown_trans g6 g7
  have r3 : Row w7 A3 (u8s ((putH b).take q)) := by
    intro j u hj
    have h1 := ((o3.kept g4).kept g47).row
    rw [show u8s ((putH b).take q) = (u8s (putH b)).take q by rw [u8s, List.map_take], List.getElem?_take] at hj
    split at hj
    · exact h1 j u hj
    · cases hj
  refine (hread_calls r3 (by rw [List.length_take]; omega) (by omega) (fun y hy => putH_bytes b y (List.mem_of_mem_take hy)) (by rw [List.length_take]; omega)).mono fun ev w8 hh => ?_
  obtain ⟨g8, hr8⟩ := hh
  have hbad := read_bad (fun o h1 h2 h3 => by
    have := putH_pre (s := (putH b).drop q) (t := []) h1 hbb h2 (by omega) (by rw [h3]; simp)
    subst this
    have := congrArg List.length h3
    rw [List.length_take] at this
    omega) hr8
  subst hbad
  have g48 := grown_trans g47 g8
  refine ⟨_, _, _, _, rfl, fun _ => ⟨_, convert_calls (r4.kept_none g48) hn4, _, convert_calls (((o2.kept g3).kept g4).kept g48).row hn2, _, fun w => run_eqlS _ _ _ _ w, fun _ => ⟨fun _ => ⟨rfl, ?_⟩, fun h => absurd rfl h⟩, fun h => ?_⟩, fun h => absurd rfl h⟩
  · exact grown_trans g1 (grown_trans (grown_trans (grown_trans g2 g3) g4) g48)
  · simp at h
end Go.Proofs.Ytmenmmgfdakeeaa
