/-
  Plain laws of lex: the scanner, step by step, told by lists. Own text.
-/
import Derived.Test.YtbnohlgchjcjhaaPL5
namespace Go.Proofs.Ytbnohlgchjcjhaa.M
open Go Go.Proofs Go.Proofs.Ytbnohlgchjcjhaa.V
set_option linter.unusedVariables false

theorem ss_from {s : ByteArray} {i : Nat} (h : i ≤ s.size) : V.ss s (some (i : Int)) none = some (s.extract i s.size) := by
  unfold V.ss
  rw [if_pos ⟨⟨by simp, by simp⟩, by simpa [lowN, highN] using h, by simp [highN]⟩]
  simp [lowN, highN]
theorem ss_to {s : ByteArray} {n : Nat} (h : n ≤ s.size) : V.ss s none (some (n : Int)) = some (s.extract 0 n) := by
  unfold V.ss
  rw [if_pos ⟨⟨by simp, by simp⟩, by simp [lowN, highN], by simpa [highN] using h⟩]
  simp [lowN, highN]
theorem ss_mid {s : ByteArray} {i n : Nat} (h1 : i ≤ n) (h : n ≤ s.size) : V.ss s (some (i : Int)) (some (n : Int)) = some (s.extract i n) := by
  unfold V.ss
  rw [if_pos ⟨⟨by simp, by simp⟩, by simpa [lowN, highN] using h1, by simpa [highN] using h⟩]
  simp [lowN, highN]

theorem bytes_from (s : ByteArray) (i : Nat) : bytesL (s.extract i s.size) = (bytesL s).drop i := by
  rw [extract_bytes, List.take_of_length_le (by rw [bytesL_length]; exact Nat.le_refl _)]
theorem bytes_to (s : ByteArray) (n : Nat) : bytesL (s.extract 0 n) = (bytesL s).take n := by rw [extract_bytes]; rfl
theorem size_from (s : ByteArray) (i : Nat) : (s.extract i s.size).size = s.size - i := by rw [ByteArray.size_extract]; omega

/-! runes counted -/
theorem cnt_append : ∀ (k : Nat) (u v : List Int) (a : Nat), u.length ≤ k → cnt u = some a → cnt (u ++ v) = (cnt v).map (· + a) := by
  intro k
  induction k with
  | zero =>
    intro u v a h hu
    obtain rfl := List.eq_nil_of_length_eq_zero (Nat.le_zero.1 h)
    rw [cnt_nil] at hu; cases hu
    cases hq : cnt v <;> simp [hq]
  | succ k ih =>
    intro u v a h hu
    by_cases hl : u = []
    · subst hl
      rw [cnt_nil] at hu; cases hu
      cases hq : cnt v <;> simp [hq]
    cases hr : rl u with
    | none => rw [cnt_none hl hr] at hu; cases hu
    | some q =>
      obtain ⟨c, w⟩ := q
      have hw := rl_some hr
      rw [cnt_go hr, Option.map_eq_some_iff] at hu
      obtain ⟨m, hm, rfl⟩ := hu
      rw [cnt_go (rl_append hr), List.drop_append_of_le_length hw.2.1, ih _ v m (by rw [List.length_drop]; omega) hm]
      cases cnt v <;> simp; omega

theorem cnt_le : ∀ (k : Nat) (u : List Int) (a : Nat), u.length ≤ k → cnt u = some a → a ≤ u.length ∧ (u ≠ [] → 1 ≤ a) := by
  intro k
  induction k with
  | zero =>
    intro u a h hu
    obtain rfl := List.eq_nil_of_length_eq_zero (Nat.le_zero.1 h)
    rw [cnt_nil] at hu; cases hu
    exact ⟨Nat.zero_le _, fun h => absurd rfl h⟩
  | succ k ih =>
    intro u a h hu
    by_cases hl : u = []
    · subst hl
      rw [cnt_nil] at hu; cases hu
      exact ⟨Nat.zero_le _, fun h => absurd rfl h⟩
    cases hr : rl u with
    | none => rw [cnt_none hl hr] at hu; cases hu
    | some q =>
      obtain ⟨c, w⟩ := q
      have hw := rl_some hr
      rw [cnt_go hr, Option.map_eq_some_iff] at hu
      obtain ⟨m, hm, rfl⟩ := hu
      have := ih _ m (by rw [List.length_drop]; omega) hm
      rw [List.length_drop] at this
      exact ⟨by omega, fun _ => by omega⟩

/-- Behind a line's end the runes are right too. -/
theorem cnt_split : ∀ (k : Nat) (u v : List Int) (a : Nat), u.length ≤ k → cnt (u ++ 10 :: v) = some a → ∃ m, cnt v = some m := by
  intro k
  induction k with
  | zero =>
    intro u v a h hu
    obtain rfl := List.eq_nil_of_length_eq_zero (Nat.le_zero.1 h)
    rw [List.nil_append, cnt_go (rl_ascii (by decide)), Option.map_eq_some_iff] at hu
    obtain ⟨m, hm, rfl⟩ := hu
    exact ⟨m, hm⟩
  | succ k ih =>
    intro u v a h hu
    by_cases hl : u = []
    · subst hl
      rw [List.nil_append, cnt_go (rl_ascii (by decide)), Option.map_eq_some_iff] at hu
      obtain ⟨m, hm, rfl⟩ := hu
      exact ⟨m, hm⟩
    cases hr : rl (u ++ 10 :: v) with
    | none => rw [cnt_none (by simp) hr] at hu; cases hu
    | some q =>
      obtain ⟨c, w⟩ := q
      have hw := rl_some hr
      have hwu : w ≤ u.length := by
        have h0 : 0 < u.length := List.length_pos_iff.2 hl
        rcases hw.2.2 with ⟨t, ht, _, rfl⟩ | ⟨_, _, _, hj⟩
        · omega
        · by_cases hc : w ≤ u.length
          · exact hc
          · have := hj u.length 10 (by omega) (by simp)
            omega
      rw [cnt_go hr, Option.map_eq_some_iff] at hu
      obtain ⟨m, hm, rfl⟩ := hu
      rw [List.drop_append_of_le_length hwu] at hm
      exact ih _ v m (by rw [List.length_drop]; omega) hm

theorem cnt_headL (p : Int → Bool) : ∀ (k : Nat) (l : List Int), l.length ≤ k → cnt (l.take (headL p l).1) ≠ none := by
  intro k
  induction k with
  | zero =>
    intro l h
    obtain rfl := List.eq_nil_of_length_eq_zero (Nat.le_zero.1 h)
    rw [headL_nil, List.take_nil, cnt_nil]; simp
  | succ k ih =>
    intro l h
    by_cases hl : l = []
    · subst hl; rw [headL_nil, List.take_nil, cnt_nil]; simp
    cases hr : rl l with
    | none => rw [headL_none hl hr, List.take_zero, cnt_nil]; simp
    | some q =>
      obtain ⟨c, w⟩ := q
      have hw := rl_some hr
      cases hp : p c with
      | false => rw [headL_stop hr hp, List.take_zero, cnt_nil]; simp
      | true =>
        rw [headL_go hr hp]
        have hi := ih (l.drop w) (by rw [List.length_drop]; omega)
        have e : l.take ((headL p (l.drop w)).1 + w) = l.take w ++ (l.drop w).take (headL p (l.drop w)).1 := by rw [Nat.add_comm, List.take_add]
        simp only [e]
        rw [cnt_go (rl_take hr), List.drop_append_of_le_length (by rw [List.length_take]; omega), List.drop_eq_nil_of_le (by rw [List.length_take]; omega), List.nil_append]
        simpa using hi

/-- What a text in quotes takes is right. -/
theorem textL_ok : ∀ (k : Nat) (t x : List Int) (n : Nat), t.length ≤ k → By t → textL t = .ok (x, n) → 1 ≤ n ∧ n ≤ t.length ∧ cnt (t.take n) ≠ none ∧ By x ∧ x.length ≤ n := by
  intro k
  induction k with
  | zero =>
    intro t x n h hb hu
    obtain rfl := List.eq_nil_of_length_eq_zero (Nat.le_zero.1 h)
    rw [textL_nil] at hu; cases hu
  | succ k ih =>
    intro t x n h hb hu
    by_cases hl : t = []
    · subst hl; rw [textL_nil] at hu; cases hu
    cases hr : rl t with
    | none => rw [textL_none hl hr] at hu; cases hu
    | some q =>
      obtain ⟨c, w⟩ := q
      have hw := rl_some hr
      cases hc : ctl c with
      | true => rw [textL_ctl hr hc] at hu; cases hu
      | false =>
        by_cases h1 : c = 34
        · subst h1
          rcases hw.2.2 with ⟨t', rfl, _, rfl⟩ | ⟨h, _⟩
          · rw [textL_end] at hu
            cases hu
            refine ⟨Nat.le_refl _, by simp, ?_, fun b hb => by simp at hb, Nat.zero_le _⟩
            simp only [List.take_succ_cons, List.take_zero]
            rw [cnt_go (rl_ascii (by decide))]; simp [cnt_nil]
          · omega
        · by_cases h2 : c = 92
          · subst h2
            rcases hw.2.2 with ⟨t', rfl, _, rfl⟩ | ⟨h, _⟩
            · cases t' with
              | nil => rw [textL_esc0] at hu; cases hu
              | cons d t' =>
                rw [textL_esc] at hu
                cases hm : mask d with
                | none => rw [hm] at hu; cases hu
                | some e =>
                  rw [hm] at hu
                  simp only at hu
                  cases hq : textL t' with
                  | err e => rw [hq] at hu; cases hu
                  | ok q =>
                    obtain ⟨y, m⟩ := q
                    rw [hq] at hu
                    simp only [Res.map, Res.ok.injEq, Prod.mk.injEq] at hu
                    obtain ⟨rfl, rfl⟩ := hu
                    simp only [List.length_cons] at h ⊢
                    obtain ⟨k1, k2, k3, k4, k5⟩ := ih t' y m (by omega) hb.tail.tail hq
                    have hd : d < 128 ∧ 0 ≤ e ∧ e < 256 := by
                      unfold mask at hm
                      split at hm
                      · cases hm; omega
                      · split at hm
                        · cases hm; omega
                        · cases hm
                    refine ⟨by omega, by omega, ?_, ?_, by omega⟩
                    · simp only [List.take_succ_cons]
                      rw [cnt_go (rl_ascii (by decide))]
                      simp only [List.drop_succ_cons, List.drop_zero]
                      rw [cnt_go (rl_ascii hd.1)]
                      simpa using k3
                    · intro b hb
                      rcases List.mem_cons.1 hb with rfl | hb
                      · omega
                      · exact k4 b hb
            · omega
          · rw [textL_go hr hc h1 h2] at hu
            cases hq : textL (t.drop w) with
            | err e => rw [hq] at hu; cases hu
            | ok q =>
              obtain ⟨y, m⟩ := q
              rw [hq] at hu
              simp only [Res.map, Res.ok.injEq, Prod.mk.injEq] at hu
              obtain ⟨rfl, rfl⟩ := hu
              obtain ⟨k1, k2, k3, k4, k5⟩ := ih (t.drop w) y m (by rw [List.length_drop]; omega) (hb.drop w) hq
              rw [List.length_drop] at k2
              refine ⟨by omega, by omega, ?_, (hb.take w).append k4, by rw [List.length_append, List.length_take]; omega⟩
              rw [Nat.add_comm m w, List.take_add, cnt_go (rl_take hr), List.drop_append_of_le_length (by rw [List.length_take]; omega), List.drop_eq_nil_of_le (by rw [List.length_take]; omega), List.nil_append]
              simpa using k3

/-! a rune written again -/
theorem runeN_val {b0 b1 b2 b3 c : Int} {p1 p2 p3 : Bool} {w : Nat} (h : runeN b0 b1 b2 b3 p1 p2 p3 = some (c, w)) :
    (w = 1 ∧ c = b0 ∧ b0 < 128) ∨ (w = 2 ∧ c = (b0 - 192) * 64 + b1 - 128 ∧ 192 ≤ b0 ∧ b0 < 224 ∧ p1 = true ∧ 128 ≤ c) ∨
    (w = 3 ∧ c = (b0 - 224) * 4096 + (b1 - 128) * 64 + b2 - 128 ∧ 224 ≤ b0 ∧ b0 < 240 ∧ p1 = true ∧ p2 = true ∧ 2048 ≤ c ∧ (c < 55296 ∨ 57343 < c)) ∨
    (w = 4 ∧ c = (b0 - 240) * 262144 + (b1 - 128) * 4096 + (b2 - 128) * 64 + b3 - 128 ∧ 240 ≤ b0 ∧ b0 < 248 ∧ p1 = true ∧ p2 = true ∧ p3 = true ∧ 65536 ≤ c ∧ c ≤ 1114111) := by
  unfold runeN at h
  split at h
  · simp only [Option.some.injEq, Prod.mk.injEq] at h; exact .inl ⟨h.2.symm, h.1.symm, by assumption⟩
  split at h
  · rename_i q
    split at h
    · simp only [Option.some.injEq, Prod.mk.injEq] at h
      exact .inr (.inl ⟨h.2.symm, h.1.symm, q.1, q.2.1, q.2.2, by omega⟩)
    · cases h
  split at h
  · rename_i q
    split at h
    · simp only [Option.some.injEq, Prod.mk.injEq] at h
      exact .inr (.inr (.inl ⟨h.2.symm, h.1.symm, q.1, q.2.1, q.2.2.1, q.2.2.2, by omega, by omega⟩))
    · cases h
  split at h
  · rename_i q
    split at h
    · simp only [Option.some.injEq, Prod.mk.injEq] at h
      exact .inr (.inr (.inr ⟨h.2.symm, h.1.symm, q.1, q.2.1, q.2.2.1, q.2.2.2.1, q.2.2.2.2, by omega, by omega⟩))
    · cases h
  · cases h

theorem bytesL_mk (l : List UInt8) : bytesL ⟨l.toArray⟩ = l.map fun b => (b.toNat : Int) := by simp [bytesL]

theorem encode_N (n : Nat) (hv : n < 55296 ∨ (57344 ≤ n ∧ n ≤ 1114111)) : bytesL (Utf8.encode (n : Int)) =
    if n < 128 then [(n : Int)] else if n < 2048 then [((192 + n / 64 : Nat) : Int), ((128 + n % 64 : Nat) : Int)] else
    if n < 65536 then [((224 + n / 4096 : Nat) : Int), ((128 + n / 64 % 64 : Nat) : Int), ((128 + n % 64 : Nat) : Int)] else
    [((240 + n / 262144 : Nat) : Int), ((128 + n / 4096 % 64 : Nat) : Int), ((128 + n / 64 % 64 : Nat) : Int), ((128 + n % 64 : Nat) : Int)] := by
  unfold Utf8.encode
  rw [if_pos ((valid_iff n).2 hv)]
  simp only [Int.toNat_natCast]
  have u : ∀ m, m < 256 → ((UInt8.ofNat m).toNat : Int) = (m : Int) := fun m hm => by rw [UInt8.toNat_ofNat']; omega
  by_cases h1 : n < 128
  · rw [if_pos h1, if_pos h1]
    show bytesL ⟨[UInt8.ofNat n].toArray⟩ = _
    rw [bytesL_mk]; simp only [List.map_cons, List.map_nil, u n (by omega)]
  · rw [if_neg h1, if_neg h1]
    by_cases h2 : n < 2048
    · rw [if_pos h2, if_pos h2]
      show bytesL ⟨[UInt8.ofNat (192 + n / 64), UInt8.ofNat (128 + n % 64)].toArray⟩ = _
      rw [bytesL_mk]; simp only [List.map_cons, List.map_nil]; rw [u _ (by omega), u _ (by omega)]
    · rw [if_neg h2, if_neg h2]
      by_cases h3 : n < 65536
      · rw [if_pos h3, if_pos h3]
        show bytesL ⟨[UInt8.ofNat (224 + n / 4096), UInt8.ofNat (128 + n / 64 % 64), UInt8.ofNat (128 + n % 64)].toArray⟩ = _
        rw [bytesL_mk]; simp only [List.map_cons, List.map_nil]; rw [u _ (by omega), u _ (by omega), u _ (by omega)]
      · rw [if_neg h3, if_neg h3]
        show bytesL ⟨[UInt8.ofNat (240 + n / 262144), UInt8.ofNat (128 + n / 4096 % 64), UInt8.ofNat (128 + n / 64 % 64), UInt8.ofNat (128 + n % 64)].toArray⟩ = _
        rw [bytesL_mk]; simp only [List.map_cons, List.map_nil]; rw [u _ (by omega), u _ (by omega), u _ (by omega), u _ (by omega)]

/-- A rune written again is the bytes that it was. -/
theorem encode_rl {l : List Int} {c : Int} {w : Nat} (hb : By l) (h : rl l = some (c, w)) : bytesL (Utf8.encode c) = l.take w := by
  cases l with
  | nil => cases h
  | cons b0 t =>
    rw [rl_cons] at h
    have h0 := hb b0 (by simp)
    rcases runeN_val h with ⟨rfl, rfl, h1⟩ | ⟨rfl, hc, h1, h2, g1, h3⟩ | ⟨rfl, hc, h1, h2, g1, g2, h3, h4⟩ | ⟨rfl, hc, h1, h2, g1, g2, g3, h3, h4⟩
    · obtain ⟨n, rfl⟩ := Int.eq_ofNat_of_zero_le h0.1
      rw [encode_N n (by omega), if_pos (by omega)]; rfl
    · obtain ⟨b1, e1, q1⟩ := gol_lt g1
      obtain ⟨t, rfl⟩ : ∃ t', t = b1 :: t' := by cases t with | nil => simp at e1 | cons b t' => exact ⟨t', by simp at e1; rw [e1]⟩
      simp only [List.getD_cons_zero] at hc
      obtain ⟨n, rfl⟩ := Int.eq_ofNat_of_zero_le (show 0 ≤ c by omega)
      rw [encode_N n (by omega), if_neg (by omega), if_pos (by omega)]
      simp only [List.take_succ_cons, List.take_zero, List.cons.injEq, and_true]
      omega
    · obtain ⟨b1, e1, q1⟩ := gol_lt g1
      obtain ⟨b2, e2, q2⟩ := gol_lt g2
      obtain ⟨t, rfl⟩ : ∃ t', t = b1 :: b2 :: t' := by
        match t, e1, e2 with
        | x :: y :: t', e1, e2 => simp at e1 e2; exact ⟨t', by rw [e1, e2]⟩
        | [x], e1, e2 => simp at e2
      simp only [List.getD_cons_zero, List.getD_cons_succ] at hc
      obtain ⟨n, rfl⟩ := Int.eq_ofNat_of_zero_le (show 0 ≤ c by omega)
      rw [encode_N n (by omega), if_neg (by omega), if_neg (by omega), if_pos (by omega)]
      simp only [List.take_succ_cons, List.take_zero, List.cons.injEq, and_true]
      omega
    · obtain ⟨b1, e1, q1⟩ := gol_lt g1
      obtain ⟨b2, e2, q2⟩ := gol_lt g2
      obtain ⟨b3, e3, q3⟩ := gol_lt g3
      obtain ⟨t, rfl⟩ : ∃ t', t = b1 :: b2 :: b3 :: t' := by
        match t, e1, e2, e3 with
        | x :: y :: z :: t', e1, e2, e3 => simp at e1 e2 e3; exact ⟨t', by rw [e1, e2, e3]⟩
        | [x, y], e1, e2, e3 => simp at e3
        | [x], e1, e2, e3 => simp at e2
      simp only [List.getD_cons_zero, List.getD_cons_succ] at hc
      obtain ⟨n, rfl⟩ := Int.eq_ofNat_of_zero_le (show 0 ≤ c by omega)
      rw [encode_N n (by omega), if_neg (by omega), if_neg (by omega), if_neg (by omega)]
      simp only [List.take_succ_cons, List.take_zero, List.cons.injEq, and_true]
      omega
end Go.Proofs.Ytbnohlgchjcjhaa.M
