/- Bytes in fewer ones: no text begins as another. -/
import Derived.Test.YtmenmmgfdakeeaaH3g
namespace Go.Proofs.Ytmenmmgfdakeeaa
open Go Go.V Go.RowKit
set_option linter.unusedVariables false
set_option linter.unusedSimpArgs false
set_option maxHeartbeats 4000000
set_option maxRecDepth 100000

theorem head_inj : ∀ (n : Nat) (l l' : List Int) (k : Nat) (a b : List Int), posN l = n → posN l' = n → l.length = l'.length → k + l.length ≤ 256 → (∀ v ∈ l, 0 ≤ v ∧ v ≤ 15) → (∀ v ∈ l', 0 ≤ v ∧ v ≤ 15) → headR l k k ++ a = headR l' k k ++ b → l = l' ∧ a = b
  | 0, l, l', k, a, b, h, h', hl, hk, hr, hr', he => by
    obtain ⟨e1, z1⟩ := head_end l k k h
    obtain ⟨e2, z2⟩ := head_end l' k k h'
    rw [e1, e2] at he
    refine ⟨?_, by simpa using he⟩
    have z : ∀ (q : List Int), (∀ v ∈ q, 0 ≤ v ∧ v ≤ 15) → (∀ v ∈ q, ¬ 0 < v) → q = List.replicate q.length 0 := fun q h1 h2 => by
      rw [List.eq_replicate_iff]
      exact ⟨rfl, fun v hv => by have := h1 v hv; have := h2 v hv; omega⟩
    rw [z l hr z1, z l' hr' z2, hl]
  | n + 1, l, l', k, a, b, h, h', hl, hk, hr, hr', he => by
    obtain ⟨i, x, h1, h2, h3, h4, h5⟩ := head_step l k k (Nat.le_refl _) (by omega)
    obtain ⟨i', x', h1', h2', h3', h4', h5'⟩ := head_step l' k k (Nat.le_refl _) (by omega)
    have hi := (List.getElem?_eq_some_iff.1 h1).1
    have hi' := (List.getElem?_eq_some_iff.1 h1').1
    have hx := hr x (List.mem_of_getElem? h1)
    have hx' := hr' x' (List.mem_of_getElem? h1')
    rw [h4, h4', List.append_assoc, List.append_assoc, List.append_assoc, List.append_assoc] at he
    obtain ⟨e1, hea⟩ := putV_pre (by omega) (by omega) he
    obtain ⟨e2, heb⟩ := putV_pre (by omega) (by omega) hea
    clear he hea
    have ei : i = i' := by omega
    have ex : x = x' := by omega
    subst ei ex
    obtain ⟨ed, ea⟩ := head_inj n (l.drop (i + 1)) (l'.drop (i + 1)) (k + i + 1) a b (by omega) (by omega) (by simp [hl]) (by simp; omega) (fun v hv => hr v (List.mem_of_mem_drop hv)) (fun v hv => hr' v (List.mem_of_mem_drop hv)) heb
    refine ⟨?_, ea⟩
    apply List.ext_getElem?
    intro j
    by_cases hj : j < i
    · have jl : j < l.length := by omega
      have jl' : j < l'.length := by omega
      have a1 := h3 j l[j] hj (by simp [jl])
      have a2 := h3' j l'[j] hj (by simp [jl'])
      have b1 := hr _ (List.getElem_mem jl)
      have b2 := hr' _ (List.getElem_mem jl')
      rw [List.getElem?_eq_getElem jl, List.getElem?_eq_getElem jl']
      congr 1; omega
    · by_cases e : j = i
      · subst e; rw [h1, h1']
      · have := congrArg (fun q => q[j - (i + 1)]?) ed
        simp only [List.getElem?_drop] at this
        rwa [show i + 1 + (j - (i + 1)) = j by omega] at this

theorem bitAt_app (a b : List Int) (i : Nat) : bitAt (a ++ b) i = if i < 8 * a.length then bitAt a i else bitAt b (i - 8 * a.length) := by
  unfold bitAt
  by_cases h : i < 8 * a.length
  · rw [if_pos h, List.getD_eq_getElem?_getD, List.getD_eq_getElem?_getD, List.getElem?_append_left (by omega)]
  · rw [if_neg h, List.getD_eq_getElem?_getD, List.getD_eq_getElem?_getD, List.getElem?_append_right (by omega)]
    rw [show (i - 8 * a.length) / 8 = i / 8 - a.length by omega, show (i - 8 * a.length) % 8 = i % 8 by omega]
theorem unpackB_app (a b : List Int) : unpackB (a ++ b) = unpackB a ++ unpackB b := by
  apply List.ext_getElem?
  intro j
  unfold unpackB
  simp only [List.getElem?_append, List.getElem?_map, List.length_map, List.length_range, List.length_append]
  by_cases h : j < 8 * a.length
  · rw [if_pos h, List.getElem?_range (by omega), List.getElem?_range (by omega)]
    simp [bitAt_app, h]
  · rw [if_neg h]
    by_cases h2 : j < 8 * (a.length + b.length)
    · rw [List.getElem?_range h2, List.getElem?_range (by omega)]
      simp [bitAt_app, h]
    · rw [List.getElem?_eq_none (by simp; omega), List.getElem?_eq_none (by simp; omega)]
      rfl

theorem enc_inj {ls : List Int} (hR : rightL ls = true) : ∀ (o b : List Nat) (s t : List Bool), o.length = b.length → (∀ x ∈ o, x < ls.length ∧ 0 < ln ls x) → (∀ x ∈ b, x < ls.length ∧ 0 < ln ls x) → encL ls o ++ s = encL ls b ++ t → o = b
  | [], b, s, t, hl, _, _, _ => by cases b with
    | nil => rfl
    | cons => simp at hl
  | x :: o, [], s, t, hl, _, _, _ => by simp at hl
  | x :: o, y :: b, s, t, hl, ho, hb, he => by
    rw [encL_cons, encL_cons, List.append_assoc, List.append_assoc] at he
    have h1 := takeC_put hR (ho x (by simp)) (encL ls o ++ s)
    have h2 := takeC_put hR (hb y (by simp)) (encL ls b ++ t)
    rw [he, h2] at h1
    have e : y = x := by simpa using congrArg (fun q => q.map Prod.fst) h1
    subst e
    have := enc_inj hR o b s t (by simpa using hl) (fun z hz => ho z (by simp [hz])) (fun z hz => hb z (by simp [hz])) (List.append_cancel_left he)
    rw [this]

theorem sym_inj {o b : List Int} (ho : BytesB o) (hb : BytesB b) (h : symB o = symB b) : o = b := by
  have e : ∀ q : List Int, BytesB q → (symB q).map (fun n : Nat => (n : Int)) = q := by
    intro q hq
    rw [List.map_map]
    conv => rhs; rw [← List.map_id q]
    apply List.map_congr_left
    intro x hx
    have := hq x hx
    simp; omega
  rw [← e o ho, ← e b hb, h]

/-- No bytes' text begins as that of other bytes. -/
theorem putH_pre {o b s t : List Int} (ho : BytesB o) (hb : BytesB b) (hol : o.length < 2 ^ 64) (hbl : b.length < 2 ^ 64) (h : putH o ++ s = putH b ++ t) : o = b := by
  have hlen : o.length = b.length := by
    unfold putH at h
    have e : ∀ q : List Int, ∃ r, (if q = [] then putV 0 else putV q.length ++ (putV (posN (lsB q)) ++ (headR (lsB q) 0 0 ++ packB (encL (lsB q) (symB q))))) = putV q.length ++ r := by
      intro q
      by_cases hq : q = []
      · exact ⟨[], by simp [hq]⟩
      · exact ⟨_, if_neg hq⟩
    obtain ⟨r1, e1⟩ := e o
    obtain ⟨r2, e2⟩ := e b
    rw [e1, e2, List.append_assoc, List.append_assoc] at h
    exact (putV_pre hol hbl h).1
  by_cases hob : o = []
  · subst hob
    simp at hlen
    exact (List.eq_nil_of_length_eq_zero hlen.symm).symm
  · have hbb : b ≠ [] := fun e => by subst e; simp at hlen; exact hob hlen
    unfold putH at h
    rw [if_neg hob, if_neg hbb] at h
    simp only [List.append_assoc] at h
    obtain ⟨_, h⟩ := putV_pre hol hbl h
    obtain ⟨l1, r1, s1, v1⟩ := lsB_facts ho hob
    obtain ⟨l2, r2, s2, v2⟩ := lsB_facts hb hbb
    have p1 := posN_le (lsB o)
    have p2 := posN_le (lsB b)
    obtain ⟨hp, h⟩ := putV_pre (by omega) (by omega) h
    obtain ⟨hl, h⟩ := head_inj _ _ _ 0 _ _ rfl hp.symm (by omega) (by omega) v1 v2 h
    rw [hl] at h s1
    have h2 := congrArg unpackB h
    rw [unpackB_app, unpackB_app, unpack_pack, unpack_pack, List.append_assoc, List.append_assoc] at h2
    exact sym_inj ho hb (enc_inj r2 _ _ _ _ (by simpa using hlen) s1 s2 h2)
theorem putH_inj {o b : List Int} (ho : BytesB o) (hb : BytesB b) (hol : o.length < 2 ^ 64) (hbl : b.length < 2 ^ 64) (h : putH o = putH b) : o = b :=
  putH_pre (s := []) (t := []) ho hb hol hbl (by rw [h])
end Go.Proofs.Ytmenmmgfdakeeaa
