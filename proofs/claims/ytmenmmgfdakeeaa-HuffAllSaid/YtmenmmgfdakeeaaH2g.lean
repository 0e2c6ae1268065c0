/- Numbers in few bytes, counts, bytes held against bytes: both texts. -/
import Derived.Test.YtmenmmgfdakeeaaH1g
import Derived.Test.YtmenmmgfdakeeaaGGg
import Derived.Test.YtmenmmgfdakeeaaXVg
namespace Go.Proofs.Ytmenmmgfdakeeaa
open Go Go.V Go.RowKit
set_option linter.unusedVariables false
set_option linter.unusedSimpArgs false
set_option maxHeartbeats 4000000
set_option maxRecDepth 100000

abbrev u64s (xs : List Nat) : List Value := xs.map fun x : Nat => Value.int .u64 (x : Int)

theorem append_byte {w : World} {base : Nat} {A : Option Addr} {n c : Nat} {xs : List Int} {x : Int} (ho : OwnedK w base 5 1 A n c (u8s xs)) (hn : n ≤ 2 ^ 39) (hb : base ≤ w.heap.size) :
    ∃ (A' : Option Addr) (n' c' : Nat) (w' : World), Sem.run P (Builtin.append_ #[39, 39] 39 #[.slice A n c, .slice (some ⟨w.heap.size, 0, none⟩) 1 1]) (w.alloc (.cells #[.int .u8 x] 5)) = .ok (.slice A' n' c') w' ∧
      OwnedK w' base 5 1 A' n' c' (u8s (xs ++ [x])) ∧ w.grownBy w' (Value.slice A n c).ownBlock ∧ n' = n + 1 := by
  have g := World.grownBy_alloc w (.cells #[.int .u8 x] 5) none
  have ro := row_alloc w #[.int .u8 x] 5
  obtain ⟨A', n', c', w', h1, h2, h3, h4, _⟩ := (ho.kept g).appends (ty := 39) elemByte (by omega) (a := ⟨w.heap.size, 0, none⟩) (m := 1) (cc := 1) (us := u8s [x]) rfl (fun j u hj => by obtain ⟨b, q1, q2⟩ := ro j u hj; cases q1; exact q2) (fun u hu => by simp at hu; rw [hu]; rfl) (by omega) (Nat.le_trans hb g.size)
  exact ⟨A', n', c', w', h1, by simpa using h2, grown_trans (grown_none g) h4, h3⟩

theorem append_bytes {w : World} {base : Nat} {A B : Option Addr} {n c m d : Nat} {xs ys : List Int} (ho : OwnedK w base 5 1 A n c (u8s xs)) (hB : Row w B (u8s ys)) (hm : m = ys.length) (hd : B = none → d = 0) (hn : n + m ≤ 2 ^ 39) (hb : base ≤ w.heap.size) :
    ∃ (A' : Option Addr) (n' c' : Nat) (w' : World), Sem.run P (Builtin.append_ #[39, 39] 39 #[.slice A n c, .slice B m d]) w = .ok (.slice A' n' c') w' ∧
      OwnedK w' base 5 1 A' n' c' (u8s (xs ++ ys)) ∧ w.grownBy w' (Value.slice A n c).ownBlock ∧ n' = n + m := by
  cases B with
  | none =>
    have : ys = [] := by
      cases ys with
      | nil => rfl
      | cons x l => obtain ⟨a, e, _⟩ := hB 0 _ rfl; cases e
    subst this
    have hd0 := hd rfl
    subst hd0
    have hm0 : m = 0 := by simpa using hm
    subst hm0
    exact ⟨A, n, c, w, ho.appends_nil elemByte, by simpa using ho, grown_refl _ _, rfl⟩
  | some a =>
    obtain ⟨A', n', c', w', h1, h2, h3, h4, _⟩ := ho.appends (ty := 39) elemByte (by omega) (a := a) (m := m) (cc := d) (us := u8s ys) (by simp [hm]) (fun j u hj => by obtain ⟨b, q1, q2⟩ := hB j u hj; cases q1; exact q2) (fun u hu => by obtain ⟨x, _, rfl⟩ := List.mem_map.1 hu; rfl) (by omega) hb
    exact ⟨A', n', c', w', h1, by simpa using h2, h4, h3⟩

theorem or128 : ∀ x : Nat, x < 256 → x ||| 128 = x % 128 + 128 := by decide +kernel
theorem byte_more (v : Nat) : bop .or .u8 (((v % 256 : Nat)) : Int) 128 = ((v % 128 + 128 : Nat) : Int) := by
  have e1 : (BitVec.ofInt 8 ((v % 256 : Nat) : Int)).toNat = v % 256 := ofInt_nat (by omega)
  have e2 : (BitVec.ofInt 8 ((128 : Nat) : Int)).toNat = 128 := ofInt_nat (by omega)
  show IntKind.u8.wrap (((BitVec.ofInt 8 ((v % 256 : Nat) : Int) ||| BitVec.ofInt 8 ((128 : Nat) : Int)).toNat : Nat) : Int) = _
  rw [BitVec.toNat_or, e1, e2, or128 _ (by omega), show v % 256 % 128 = v % 128 by omega]
  exact wrap_in (k := .u8) (show 0 ≤ _ ∧ _ ≤ (255 : Int) by omega)
theorem wrap_u8 (v : Nat) : IntKind.u8.wrap (v : Int) = ((v % 256 : Nat) : Int) := by
  show ((v : Int) % 2 ^ 8) = _
  omega
theorem and127_u64 (v : Nat) (h : v < 2 ^ 64) : bop .and .u64 (v : Int) 127 = ((v % 128 : Nat) : Int) := by
  have e1 : (BitVec.ofInt 64 (v : Int)).toNat = v := ofInt_nat h
  have e2 : (BitVec.ofInt 64 ((127 : Nat) : Int)).toNat = 127 := ofInt_nat (by omega)
  show IntKind.u64.wrap (((BitVec.ofInt 64 (v : Int) &&& BitVec.ofInt 64 ((127 : Nat) : Int)).toNat : Nat) : Int) = _
  rw [BitVec.toNat_and, e1, e2, show (127 : Nat) = 2 ^ 7 - 1 from rfl, Nat.and_two_pow_sub_one_eq_mod]
  exact wrap_in (k := .u64) (show 0 ≤ _ ∧ _ ≤ (18446744073709551615 : Int) by omega)
theorem and127_u8 {v : Int} (h : 0 ≤ v ∧ v ≤ 255) : bop .and .u8 v 127 = v % 128 := by
  obtain ⟨n, rfl⟩ : ∃ n : Nat, v = n := ⟨v.toNat, by omega⟩
  have e1 : (BitVec.ofInt 8 (n : Int)).toNat = n := ofInt_nat (by omega)
  have e2 : (BitVec.ofInt 8 ((127 : Nat) : Int)).toNat = 127 := ofInt_nat (by omega)
  show IntKind.u8.wrap (((BitVec.ofInt 8 (n : Int) &&& BitVec.ofInt 8 ((127 : Nat) : Int)).toNat : Nat) : Int) = _
  rw [BitVec.toNat_and, e1, e2, show (127 : Nat) = 2 ^ 7 - 1 from rfl, Nat.and_two_pow_sub_one_eq_mod]
  rw [wrap_in (k := .u8) (show 0 ≤ _ ∧ _ ≤ (255 : Int) by omega)]
  omega
theorem or_u64g {x c : Int} {j : Nat} (h0 : 0 ≤ x) (hx : x < 2 ^ j) (hc : 0 ≤ c) (h : x + c * 2 ^ j < 18446744073709551616) : bop .or .u64 x (c * 2 ^ j) = x + c * 2 ^ j := by
  obtain ⟨n, rfl⟩ : ∃ n : Nat, x = n := ⟨x.toNat, by omega⟩
  obtain ⟨m, rfl⟩ : ∃ n : Nat, c = n := ⟨c.toNat, by omega⟩
  have ep : ((2 ^ j : Nat) : Int) = 2 ^ j := by simp
  have em : ((m * 2 ^ j : Nat) : Int) = (m : Int) * 2 ^ j := by rw [Int.natCast_mul, ep]
  rw [← em] at h ⊢
  have e1 : (BitVec.ofInt 64 (n : Int)).toNat = n := ofInt_nat (by omega)
  have e2 : (BitVec.ofInt 64 ((m * 2 ^ j : Nat) : Int)).toNat = m * 2 ^ j := ofInt_nat (by omega)
  show IntKind.u64.wrap (((BitVec.ofInt 64 (n : Int) ||| BitVec.ofInt 64 ((m * 2 ^ j : Nat) : Int)).toNat : Nat) : Int) = _
  rw [BitVec.toNat_or, e1, e2, or_nat (by omega)]
  rw [wrap_in (k := .u64) (show 0 ≤ _ ∧ _ ≤ (18446744073709551615 : Int) by omega)]
  omega

/-- The bytes of numbers, one behind another. -/
def putVs (l : List Nat) : List Int := l.flatMap putV
theorem putV_len (v : Nat) (k : Nat) : v < 2 ^ (7 * k) → 0 < k → (putV v).length ≤ k := by
  induction k generalizing v with
  | zero => intro _ h; omega
  | succ k ih =>
    intro h _
    by_cases hv : v < 128
    · rw [putV_small hv]; simp
    · rw [putV_big hv, List.length_cons]
      have : 0 < k := by
        rcases Nat.eq_zero_or_pos k with e | e
        · subst e; simp at h; omega
        · exact e
      have := ih (v / 128) (by
        rw [show 7 * (k + 1) = 7 * k + 7 by omega, Nat.pow_add] at h
        exact Nat.div_lt_of_lt_mul (by omega)) this
      omega
theorem putV_len10 {v : Nat} (h : v < 2 ^ 64) : (putV v).length ≤ 10 := putV_len v 10 (Nat.lt_of_lt_of_le h (by decide)) (by omega)
theorem putVs_len {l : List Nat} (h : ∀ x ∈ l, x < 2 ^ 64) : (putVs l).length ≤ 10 * l.length := by
  induction l with
  | nil => simp [putVs]
  | cons x l ih =>
    have h1 := putV_len10 (h x (by simp))
    have h2 := ih (fun y hy => h y (by simp [hy]))
    simp only [putVs, List.flatMap_cons, List.length_append, List.length_cons] at h2 ⊢
    omega

theorem vput_calls {w : World} {A : Option Addr} {n c : Nat} {l : List Nat} (hr : Row w A (u64s l)) (hn : n = l.length) (hb : ∀ x ∈ l, x < 2 ^ 64) (hl : n ≤ 2 ^ 20) :
    Calls P 99 #[.slice A n c] w fun ev w' => ∃ (A' : Option Addr) (n' c' : Nat), ev = .returned (.slice A' n' c') ∧ OwnedK w' w.heap.size 5 1 A' n' c' (u8s (putVs l)) ∧ w.grownBy w' none := by
  apply vc99; unfold VC99
  simp only [InK]
  refine ⟨fun m Ao no co i w1 => ∃ j : Nat, i = (j : Int) ∧ j ≤ l.length ∧ m = l.length - j ∧ OwnedK w1 w.heap.size 5 1 Ao no co (u8s (putVs (l.take j))) ∧ w.grownBy w1 none, ⟨_, 0, rfl, by omega, rfl, OwnedK.nil _ _ _ _, grown_refl _ _⟩, ?_⟩
  rintro m Ao no co i w1 ⟨j, rfl, hj, rfl, ho, hg⟩
  have tj : (j : Int).toNat = j := by omega
  rw [tj]
  refine ⟨fun hlt => ?_, fun hge => ?_⟩
  · have lj : j < l.length := by omega
    obtain ⟨a, ha1, ha2⟩ := (hr.kept_none hg) j (.int .u64 (l[j] : Int)) (by simp [lj])
    have hx := hb _ (List.getElem_mem lj)
    have hpl := putVs_len (l := l.take j) (fun x hx => hb x (List.mem_of_mem_take hx))
    have hlj : (l.take j).length = j := by simp; omega
    have hx10 := putV_len10 hx
    refine ⟨a, ha1, by omega, by omega, _, ha2, ?_⟩
    refine ⟨fun m Ao no co v w2 => ∃ (u : Nat) (bs : List Int), v = (u : Int) ∧ m = u ∧ u < 2 ^ 64 ∧ bs ++ putV u = putV l[j] ∧ OwnedK w2 w.heap.size 5 1 Ao no co (u8s (putVs (l.take j) ++ bs)) ∧ w.grownBy w2 none, ⟨_, l[j], [], rfl, rfl, hx, rfl, by simpa using ho, hg⟩, ?_⟩
    rintro m Ao no co v w2 ⟨u, bs, rfl, hmu, hu, hbs, ho2, hg2⟩
    subst hmu
    have hbl : bs.length ≤ 10 := by
      have := congrArg List.length hbs
      rw [List.length_append] at this; omega
    have hno : no = (putVs (l.take j) ++ bs).length := by have := ho2.cases.1; rw [List.length_map] at this; omega
    have hno2 : no ≤ 2 ^ 39 := by rw [hno, List.length_append]; omega
    refine ⟨fun hge => ?_, fun hlt2 => ?_⟩
    · have h128 : ¬ m < 128 := by omega
      rw [wrap_u8, byte_more]
      obtain ⟨A3, n3, c3, w3, e1, e2, e3, _⟩ := append_byte (x := ((m % 128 + 128 : Nat) : Int)) ho2 hno2 hg2.size
      refine ⟨A3, n3, c3, w3, e1, by omega, m / 128, by omega, m / 128, bs ++ [((m % 128 + 128 : Nat) : Int)], by omega, rfl, by omega, ?_, by simpa using e2, grown_own hg2 e3 ho2.block_ge⟩
      rw [← hbs, putV_big h128]; simp
    · have h128 : m < 128 := by omega
      obtain ⟨A3, n3, c3, w3, e1, e2, e3, _⟩ := append_byte (x := (m : Int)) ho2 hno2 hg2.size
      refine ⟨by omega, A3, n3, c3, w3, e1, by omega, l.length - (j + 1), by omega, j + 1, by omega, by omega, rfl, ?_, grown_own hg2 e3 ho2.block_ge⟩
      have : putVs (l.take (j + 1)) = putVs (l.take j) ++ bs ++ [(m : Int)] := by
        rw [putV_small h128] at hbs
        rw [List.take_succ_eq_append_getElem lj, putVs, List.flatMap_append, List.append_assoc, hbs]
        simp [putVs]
      rw [this]; exact e2
  · have : j = l.length := by omega
    subst this
    rw [List.take_length] at ho
    exact ⟨_, _, _, rfl, ho, hg⟩

theorem rvput_calls {w : World} {A : Option Addr} {n c : Nat} {l : List Nat} (hr : Row w A (u64s l)) (hn : n = l.length) (hb : ∀ x ∈ l, x < 2 ^ 64) (hl : n ≤ 2 ^ 20) :
    Calls P 98 #[.slice A n c] w fun ev w' => ∃ (A' : Option Addr) (n' c' : Nat), ev = .returned (.slice A' n' c') ∧ OwnedK w' w.heap.size 5 1 A' n' c' (u8s (putVs l)) ∧ w.grownBy w' none := by
  apply vc98; unfold VC98
  simp only [InK]
  refine ⟨fun m Ao no co i w1 => ∃ j : Nat, i = (j : Int) ∧ j ≤ l.length ∧ m = l.length - j ∧ OwnedK w1 w.heap.size 5 1 Ao no co (u8s (putVs (l.take j))) ∧ w.grownBy w1 none, ⟨_, 0, rfl, by omega, rfl, OwnedK.nil _ _ _ _, grown_refl _ _⟩, ?_⟩
  rintro m Ao no co i w1 ⟨j, rfl, hj, rfl, ho, hg⟩
  have tj : (j : Int).toNat = j := by omega
  rw [tj]
  refine ⟨fun hlt => ?_, fun hge => ?_⟩
  · have lj : j < l.length := by omega
    obtain ⟨a, ha1, ha2⟩ := (hr.kept_none hg) j (.int .u64 (l[j] : Int)) (by simp [lj])
    have hx := hb _ (List.getElem_mem lj)
    have hpl := putVs_len (l := l.take j) (fun x hx => hb x (List.mem_of_mem_take hx))
    have hlj : (l.take j).length = j := by simp; omega
    have hx10 := putV_len10 hx
    refine ⟨a, ha1, by omega, by omega, _, ha2, ?_⟩
    refine ⟨fun m Ao no co v w2 => ∃ (u : Nat) (bs : List Int), v = (u : Int) ∧ m = u ∧ u < 2 ^ 64 ∧ bs ++ putV u = putV l[j] ∧ OwnedK w2 w.heap.size 5 1 Ao no co (u8s (putVs (l.take j) ++ bs)) ∧ w.grownBy w2 none, ⟨_, l[j], [], rfl, rfl, hx, rfl, by simpa using ho, hg⟩, ?_⟩
    rintro m Ao no co v w2 ⟨u, bs, rfl, hmu, hu, hbs, ho2, hg2⟩
    subst hmu
    have hbl : bs.length ≤ 10 := by
      have := congrArg List.length hbs
      rw [List.length_append] at this; omega
    have hno : no = (putVs (l.take j) ++ bs).length := by have := ho2.cases.1; rw [List.length_map] at this; omega
    have hno2 : no ≤ 2 ^ 39 := by rw [hno, List.length_append]; omega
    refine ⟨fun hge => ?_, fun hlt2 => ?_⟩
    · have h128 : ¬ m < 128 := by omega
      rw [and127_u64 m hu]
      have hbm := byte_more (m % 128)
      rw [show m % 128 % 256 = m % 128 by omega, show m % 128 % 128 = m % 128 by omega] at hbm
      rw [hbm]
      obtain ⟨A3, n3, c3, w3, e1, e2, e3, _⟩ := append_byte (x := ((m % 128 + 128 : Nat) : Int)) ho2 hno2 hg2.size
      refine ⟨by omega, A3, n3, c3, w3, e1, by omega, m / 128, by omega, m / 128, bs ++ [((m % 128 + 128 : Nat) : Int)], by omega, rfl, by omega, ?_, by simpa using e2, grown_own hg2 e3 ho2.block_ge⟩
      rw [← hbs, putV_big h128]; simp
    · have h128 : m < 128 := by omega
      obtain ⟨A3, n3, c3, w3, e1, e2, e3, _⟩ := append_byte (x := (m : Int)) ho2 hno2 hg2.size
      refine ⟨by omega, A3, n3, c3, w3, e1, by omega, l.length - (j + 1), by omega, j + 1, by omega, by omega, rfl, ?_, grown_own hg2 e3 ho2.block_ge⟩
      have : putVs (l.take (j + 1)) = putVs (l.take j) ++ bs ++ [(m : Int)] := by
        rw [putV_small h128] at hbs
        rw [List.take_succ_eq_append_getElem lj, putVs, List.flatMap_append, List.append_assoc, hbs]
        simp [putVs]
      rw [this]; exact e2
  · have : j = l.length := by omega
    subst this
    rw [List.take_length] at ho
    exact ⟨_, _, _, rfl, ho, hg⟩

abbrev takeVal (t : Int × Nat × Int) : Value := .tuple #[.int .u64 t.1, .int .i64 (t.2.1 : Int), .int .i64 t.2.2]

theorem pow_pos_le {i : Nat} (h : i ≤ 9) : (0 : Int) < 2 ^ (7 * i) ∧ (2 : Int) ^ (7 * i) ≤ 2 ^ 63 := by
  have e1 : ((2 ^ (7 * i) : Nat) : Int) = 2 ^ (7 * i) := by simp
  have := Nat.pow_le_pow_right (n := 2) (by omega) (show 7 * i ≤ 63 by omega)
  have := Nat.two_pow_pos (7 * i)
  omega

theorem vstep {v c : Int} {i : Nat} (hi : i ≤ 9) (hc : 0 ≤ c ∧ c ≤ 255) (h9 : i = 9 → c ≤ 1) (hv : 0 ≤ v ∧ v < 2 ^ (7 * i)) : bop .or .u64 v (c % 128 * 2 ^ (7 * i)) = v + c % 128 * 2 ^ (7 * i) ∧ 0 ≤ c % 128 * 2 ^ (7 * i) ∧ c % 128 * 2 ^ (7 * i) ≤ 18446744073709551615 ∧ v + c % 128 * 2 ^ (7 * i) < 2 ^ (7 * (i + 1)) := by
  obtain ⟨p1, p2⟩ := pow_pos_le hi
  have hm : 0 ≤ c % 128 ∧ c % 128 ≤ 127 := by omega
  have h0 : 0 ≤ c % 128 * 2 ^ (7 * i) := Int.mul_nonneg hm.1 (Int.le_of_lt p1)
  have hle : c % 128 * 2 ^ (7 * i) ≤ 127 * 2 ^ (7 * i) := Int.mul_le_mul_of_nonneg_right hm.2 (Int.le_of_lt p1)
  have e1 : (2 : Int) ^ (7 * (i + 1)) = 128 * 2 ^ (7 * i) := by rw [show 7 * (i + 1) = 7 * i + 7 by omega, Int.pow_add]; omega
  have hb : v + c % 128 * 2 ^ (7 * i) < 18446744073709551616 := by
    by_cases h : i = 9
    · subst h
      have := h9 rfl
      have hc1 : c % 128 ≤ 1 := by omega
      have : c % 128 * 2 ^ (7 * 9) ≤ 1 * 2 ^ (7 * 9) := Int.mul_le_mul_of_nonneg_right hc1 (by decide)
      have e : (2 : Int) ^ (7 * 9) = 9223372036854775808 := by decide
      rw [e] at this hv ⊢
      omega
    · have h8 : i ≤ 8 := by omega
      have e2 : ((2 ^ (7 * i) : Nat) : Int) = 2 ^ (7 * i) := by simp
      have := Nat.pow_le_pow_right (n := 2) (by omega) (show 7 * i ≤ 56 by omega)
      omega
  exact ⟨or_u64g hv.1 hv.2 hm.1 hb, h0, by omega, by rw [e1]; omega⟩

theorem vtake_calls {w : World} {A : Option Addr} {n c : Nat} {b : List Int} {most : Int} (hr : Row w A (u8s b)) (hn : n = b.length) (hb : ∀ x ∈ b, 0 ≤ x ∧ x ≤ 255) (hl : n ≤ 2 ^ 40) :
    Calls P 136 #[.slice A n c, .int .u64 most] w fun ev w' => ev = .returned (takeVal (takeV most b)) ∧ w.grownBy w' none := by
  apply vc136; unfold VC136
  simp only [InK]
  refine ⟨fun m v i w1 => ∃ j : Nat, i = (j : Int) ∧ j ≤ b.length ∧ m = b.length - j ∧ j ≤ 9 ∧ 0 ≤ v ∧ v < 2 ^ (7 * j) ∧ takeV most b = takeG most (b.drop j) j v ∧ w.grownBy w1 none, ⟨_, 0, rfl, by omega, rfl, by omega, by omega, by simp, rfl, grown_refl _ _⟩, ?_⟩
  rintro m v i w1 ⟨j, rfl, hj, rfl, hj9, hv0, hv1, htk, hg⟩
  have tj : (j : Int).toNat = j := by omega
  have t7 : (7 * (j : Int)).toNat = 7 * j := by omega
  have m64 : min (7 * j) 64 = 7 * j := by omega
  rw [tj, t7, m64]
  refine ⟨fun hlt => ?_, fun hge => ?_⟩
  · have lj : j < b.length := by omega
    obtain ⟨a, ha1, ha2⟩ := (hr.kept_none hg) j (.int .u8 b[j]) (by simp [lj])
    have hc := hb _ (List.getElem_mem lj)
    rw [List.drop_eq_getElem_cons lj] at htk
    rw [takeG] at htk
    refine ⟨a, ha1, by omega, by omega, _, ha2, fun q w2 => w2 = w1 ∧ (q = true ↔ (j = 9 ∧ b[j] > 1) ∨ (j > 0 ∧ b[j] = 0)), ⟨fun h9 => ⟨fun h1 => ⟨rfl, by simp; omega⟩, fun h1 => ⟨fun h0 => ⟨rfl, by simp; omega⟩, fun h0 => ⟨rfl, by simp; omega⟩⟩⟩, fun h9 => ⟨fun h0 => ⟨rfl, by simp; omega⟩, fun h0 => ⟨rfl, by simp; omega⟩⟩⟩, ?_⟩
    rintro q w2 ⟨rfl, hq⟩
    refine ⟨fun h => ⟨?_, hg⟩, fun h => ?_⟩
    · rw [if_pos (hq.1 h)] at htk
      rw [htk]; rfl
    · have hnq : ¬ ((j = 9 ∧ b[j] > 1) ∨ (j > 0 ∧ b[j] = 0)) := fun e => by rw [hq.2 e] at h; cases h
      rw [if_neg hnq] at htk
      rw [and127_u8 hc]
      obtain ⟨s1, s2, s3, s4⟩ := vstep hj9 hc (fun e => by omega) ⟨hv0, hv1⟩
      rw [s1]
      refine ⟨by omega, by omega, ⟨by omega, by omega, by omega⟩, fun hge => ?_, fun hlt2 => ⟨fun hm => ⟨?_, hg⟩, fun hm => ⟨by omega, ?_, hg⟩⟩⟩
      · rw [if_pos hge] at htk
        exact ⟨by omega, b.length - (j + 1), by omega, j + 1, by omega, by omega, rfl, by omega, by omega, s4, htk, hg⟩
      · rw [if_neg hlt2, if_pos hm] at htk
        rw [htk]; rfl
      · rw [if_neg hlt2, if_neg hm] at htk
        rw [htk]; rfl
  · have : j = b.length := by omega
    subst this
    rw [List.drop_length] at htk
    rw [htk]
    exact ⟨rfl, hg⟩

theorem rvtake_calls {w : World} {A : Option Addr} {n c : Nat} {b : List Int} {most : Int} (hr : Row w A (u8s b)) (hn : n = b.length) (hb : ∀ x ∈ b, 0 ≤ x ∧ x ≤ 255) (hl : n ≤ 2 ^ 40) :
    Calls P 103 #[.slice A n c, .int .u64 most] w fun ev w' => ev = .returned (takeVal (takeV most b)) ∧ w.grownBy w' none := by
  apply vc103; unfold VC103
  simp only [InK]
  refine ⟨fun m v i w1 => ∃ j : Nat, i = (j : Int) ∧ j ≤ b.length ∧ m = b.length - j ∧ j ≤ 9 ∧ 0 ≤ v ∧ v < 2 ^ (7 * j) ∧ takeV most b = takeG most (b.drop j) j v ∧ w.grownBy w1 none, ⟨_, 0, rfl, by omega, rfl, by omega, by omega, by simp, rfl, grown_refl _ _⟩, ?_⟩
  rintro m v i w1 ⟨j, rfl, hj, rfl, hj9, hv0, hv1, htk, hg⟩
  have tj : (j : Int).toNat = j := by omega
  have t7 : (7 * (j : Int)).toNat = 7 * j := by omega
  have m64 : min (7 * j) 64 = 7 * j := by omega
  rw [tj, t7, m64]
  refine ⟨fun hlt => ?_, fun hge => ?_⟩
  · have lj : j < b.length := by omega
    obtain ⟨a, ha1, ha2⟩ := (hr.kept_none hg) j (.int .u8 b[j]) (by simp [lj])
    have hc := hb _ (List.getElem_mem lj)
    rw [List.drop_eq_getElem_cons lj] at htk
    rw [takeG] at htk
    refine ⟨fun q w2 => w2 = w1 ∧ (q = true ↔ j = 9 ∧ b[j] > 1), ⟨fun h9 => ⟨a, ha1, by omega, by omega, _, ha2, rfl, by simp; omega⟩, fun h9 => ⟨rfl, by simp; omega⟩⟩, ?_⟩
    rintro q w2 ⟨rfl, hq⟩
    refine ⟨fun h => ⟨?_, hg⟩, fun h => ?_⟩
    · rw [if_pos (.inl (hq.1 h))] at htk
      rw [htk]; rfl
    · have hnq : ¬ (j = 9 ∧ b[j] > 1) := fun e => by rw [hq.2 e] at h; cases h
      obtain ⟨s1, s2, s3, s4⟩ := vstep hj9 hc (fun e => by omega) ⟨hv0, hv1⟩
      refine ⟨a, ha1, by omega, by omega, _, ha2, ?_⟩
      rw [and127_u8 hc, s1]
      refine ⟨by omega, by omega, ⟨by omega, by omega, by omega⟩, a, ha1, by omega, by omega, _, ha2, fun hlt2 => ?_, fun hge => ?_⟩
      · refine ⟨fun q w3 => w3 = w2 ∧ (q = true ↔ j > 0 ∧ b[j] = 0), ⟨a, ha1, by omega, by omega, _, ha2, fun h0 => ⟨rfl, by simp; omega⟩, fun h0 => ⟨rfl, by simp; omega⟩⟩, ?_⟩
        rintro q2 w3 ⟨rfl, hq2⟩
        refine ⟨fun h => ⟨?_, hg⟩, fun h => ?_⟩
        · rw [if_pos (.inr (hq2.1 h))] at htk
          rw [htk]; rfl
        · have hn2 : ¬ (j > 0 ∧ b[j] = 0) := fun e => by rw [hq2.2 e] at h; cases h
          rw [if_neg (by rintro (e | e); exact hnq e; exact hn2 e), if_neg (by omega)] at htk
          refine ⟨fun hm => ⟨?_, hg⟩, fun hm => ⟨by omega, ?_, hg⟩⟩
          · rw [if_pos hm] at htk
            rw [htk]; rfl
          · rw [if_neg hm] at htk
            rw [htk]; rfl
      · rw [if_neg (by rintro (e | e); exact hnq e; omega), if_pos (by omega)] at htk
        exact ⟨by omega, b.length - (j + 1), by omega, j + 1, by omega, by omega, rfl, by omega, by omega, s4, htk, hg⟩
  · have : j = b.length := by omega
    subst this
    rw [List.drop_length] at htk
    rw [htk]
    exact ⟨rfl, hg⟩

theorem ints_at {zs : List Int} {k : Nat} (h : k < zs.length) : (ints zs)[k]? = some (.int .i64 (zs.getD k 0)) := by
  simp [List.getD_eq_getElem?_getD, h]
theorem ints_set (zs : List Int) (k : Nat) (v : Int) : (ints zs).set k (.int .i64 v) = ints (zs.set k v) := by simp [List.map_set]

/-- How often each byte is there. -/
def cntB (b : List Int) : List Int := addL (b.map Int.toNat) (List.replicate 256 0)
theorem cntB_length (b : List Int) : (cntB b).length = 256 := by rw [cntB, addL_length]; simp

theorem hcounts_calls {w : World} {A : Option Addr} {n c : Nat} {b : List Int} (hr : Row w A (u8s b)) (hn : n = b.length) (hb : ∀ x ∈ b, 0 ≤ x ∧ x ≤ 255) (hl : n ≤ 2 ^ 40) :
    Calls P 53 #[.slice A n c] w fun ev w' => ∃ (A' : Option Addr) (n' c' : Nat), ev = .returned (.slice A' n' c') ∧ Owned w' w.heap.size 3 A' n' c' (ints (cntB b)) ∧ w.grownBy w' none := by
  apply vc53; unfold VC53
  simp only [InK]
  obtain ⟨w1, hr1, hown, g1⟩ := run_made (P := P) (w := w) elemInt (by omega) (m := 256) (by omega)
  refine ⟨_, _, _, w1, hr1, ?_⟩
  have hA : ∀ a, A = some a → b = [] ∨ a.block < w.heap.size := fun a ha => by
    by_cases e : b = []
    · exact .inl e
    · obtain ⟨q, e1, e2⟩ := hr.blk (by simpa using e)
      rw [ha] at e1; cases e1; exact .inr e2
  refine ⟨fun m i w2 => ∃ j : Nat, i = (j : Int) ∧ j ≤ b.length ∧ m = b.length - j ∧ Own w2 w.heap.size 3 256 (ints (addL ((b.take j).map Int.toNat) (List.replicate 256 0))) ∧ w1.grownBy w2 (some w.heap.size),
    ⟨_, 0, rfl, by omega, rfl, by simpa [addL, ints] using hown, grown_refl _ _⟩, ?_⟩
  rintro m i w2 ⟨j, rfl, hj, rfl, ho, hg⟩
  have tj : (j : Int).toNat = j := by omega
  rw [tj]
  have hzl : (addL ((b.take j).map Int.toNat) (List.replicate 256 0)).length = 256 := by rw [addL_length]; simp
  refine ⟨fun hlt => ?_, fun hge => ?_⟩
  · have lj : j < b.length := by omega
    have hc := hb _ (List.getElem_mem lj)
    have rowb : Row w2 A (u8s b) := (hr.kept_none g1).kept hg (fun a ha => by
      rcases hA a ha with e | e
      · rw [e] at lj; simp at lj
      · simp; omega)
    obtain ⟨a, ha1, ha2⟩ := rowb j (.int .u8 b[j]) (by simp [lj])
    have hs : b[j].toNat < 256 := by omega
    have hcell := ho.cell (j := b[j].toNat) (u := .int .i64 ((addL ((b.take j).map Int.toNat) (List.replicate 256 0)).getD b[j].toNat 0)) (ints_at (by omega))
    have hbd := addL_bound ((b.take j).map Int.toNat) (xs := List.replicate 256 0) (B := 0) (by simp) (by omega)
    have hv := hbd ((addL ((b.take j).map Int.toNat) (List.replicate 256 0)).getD b[j].toNat 0) (by
      rw [List.getD_eq_getElem?_getD, List.getElem?_eq_getElem (by omega)]; exact List.getElem_mem _)
    have htl : ((b.take j).map Int.toNat).length = j := by simp; omega
    refine ⟨a, ha1, by omega, by omega, _, ha2, _, rfl, by omega, by omega, _, hcell, by omega, _, rfl, by omega, by omega, ⟨_, hcell⟩, ho.notFrozen (add_block _ _), by omega, b.length - (j + 1), by omega, j + 1, by omega, by omega, rfl, ?_, grown_set hg (add_block _ _) _⟩
    rw [List.take_succ_eq_append_getElem lj, List.map_append, addL_append]
    have hset := ho.set (j := b[j].toNat) (by rw [List.length_map]; omega) (.int .i64 ((addL ((b.take j).map Int.toNat) (List.replicate 256 0)).getD b[j].toNat 0 + 1))
    rw [ints_set] at hset
    exact hset
  · have : j = b.length := by omega
    subst this
    rw [List.take_length] at ho
    have h5 := ho.ownsRow (Nat.le_refl _) (by simp only [maxLen]; omega)
    have hl5 : (ints (addL (b.map Int.toNat) (List.replicate 256 0))).length = 256 := by simp [ints, addL_length]
    rw [hl5] at h5
    exact ⟨_, _, _, rfl, h5, grown_own g1 hg (by intro k hk; cases hk; omega)⟩

theorem rhcounts_calls {w : World} {A : Option Addr} {n c : Nat} {b : List Int} (hr : Row w A (u8s b)) (hn : n = b.length) (hb : ∀ x ∈ b, 0 ≤ x ∧ x ≤ 255) (hl : n ≤ 2 ^ 40) :
    Calls P 54 #[.slice A n c] w fun ev w' => ∃ (A' : Option Addr) (n' c' : Nat), ev = .returned (.slice A' n' c') ∧ Owned w' w.heap.size 3 A' n' c' (ints (cntB b)) ∧ w.grownBy w' none := by
  apply vc54; unfold VC54
  simp only [InK]
  obtain ⟨w1, hr1, hown, g1⟩ := run_made (P := P) (w := w) elemInt (by omega) (m := 256) (by omega)
  refine ⟨_, _, _, w1, hr1, ?_⟩
  have hA : ∀ a, A = some a → b = [] ∨ a.block < w.heap.size := fun a ha => by
    by_cases e : b = []
    · exact .inl e
    · obtain ⟨q, e1, e2⟩ := hr.blk (by simpa using e)
      rw [ha] at e1; cases e1; exact .inr e2
  refine ⟨fun m i w2 => ∃ j : Nat, i = (j : Int) ∧ j ≤ b.length ∧ m = b.length - j ∧ Own w2 w.heap.size 3 256 (ints (addL ((b.take j).map Int.toNat) (List.replicate 256 0))) ∧ w1.grownBy w2 (some w.heap.size),
    ⟨_, 0, rfl, by omega, rfl, by simpa [addL, ints] using hown, grown_refl _ _⟩, ?_⟩
  rintro m i w2 ⟨j, rfl, hj, rfl, ho, hg⟩
  have tj : (j : Int).toNat = j := by omega
  rw [tj]
  have hzl : (addL ((b.take j).map Int.toNat) (List.replicate 256 0)).length = 256 := by rw [addL_length]; simp
  refine ⟨fun hlt => ?_, fun hge => ?_⟩
  · have lj : j < b.length := by omega
    have hc := hb _ (List.getElem_mem lj)
    have rowb : Row w2 A (u8s b) := (hr.kept_none g1).kept hg (fun a ha => by
      rcases hA a ha with e | e
      · rw [e] at lj; simp at lj
      · simp; omega)
    obtain ⟨a, ha1, ha2⟩ := rowb j (.int .u8 b[j]) (by simp [lj])
    have hs : b[j].toNat < 256 := by omega
    have hcell := ho.cell (j := b[j].toNat) (u := .int .i64 ((addL ((b.take j).map Int.toNat) (List.replicate 256 0)).getD b[j].toNat 0)) (ints_at (by omega))
    have hbd := addL_bound ((b.take j).map Int.toNat) (xs := List.replicate 256 0) (B := 0) (by simp) (by omega)
    have hv := hbd ((addL ((b.take j).map Int.toNat) (List.replicate 256 0)).getD b[j].toNat 0) (by
      rw [List.getD_eq_getElem?_getD, List.getElem?_eq_getElem (by omega)]; exact List.getElem_mem _)
    have htl : ((b.take j).map Int.toNat).length = j := by simp; omega
    refine ⟨a, ha1, by omega, by omega, _, ha2, _, rfl, by omega, by omega, _, hcell, by omega, _, rfl, by omega, by omega, ⟨_, hcell⟩, ho.notFrozen (add_block _ _), by omega, b.length - (j + 1), by omega, j + 1, by omega, by omega, rfl, ?_, grown_set hg (add_block _ _) _⟩
    rw [List.take_succ_eq_append_getElem lj, List.map_append, addL_append]
    have hset := ho.set (j := b[j].toNat) (by rw [List.length_map]; omega) (.int .i64 ((addL ((b.take j).map Int.toNat) (List.replicate 256 0)).getD b[j].toNat 0 + 1))
    rw [ints_set] at hset
    exact hset
  · have : j = b.length := by omega
    subst this
    rw [List.take_length] at ho
    have h5 := ho.ownsRow (Nat.le_refl _) (by simp only [maxLen]; omega)
    have hl5 : (ints (addL (b.map Int.toNat) (List.replicate 256 0))).length = 256 := by simp [ints, addL_length]
    rw [hl5] at h5
    exact ⟨_, _, _, rfl, h5, grown_own g1 hg (by intro k hk; cases hk; omega)⟩

theorem equal_calls {w : World} {A B : Option Addr} {n c m d : Nat} {a b : List Int} (hA : Row w A (u8s a)) (hn : n = a.length) (hB : Row w B (u8s b)) (hm : m = b.length) (ha : ∀ x ∈ a, 0 ≤ x ∧ x ≤ 255) (hb : ∀ x ∈ b, 0 ≤ x ∧ x ≤ 255) :
    Calls P 102 #[.slice A n c, .slice B m d] w fun ev w' => ev = .returned (.bool (decide (a = b))) ∧ w' = w := by
  apply vc102; unfold VC102
  refine ⟨_, convert_calls hA hn, _, convert_calls hB hm, _, fun w => run_eqlS _ _ _ _ w, ?_, rfl⟩
  have : decide (strOf a = strOf b) = decide (a = b) := by
    rw [decide_eq_decide]
    exact ⟨strOf_inj ha hb, fun h => by rw [h]⟩
  rw [this]
end Go.Proofs.Ytmenmmgfdakeeaa
