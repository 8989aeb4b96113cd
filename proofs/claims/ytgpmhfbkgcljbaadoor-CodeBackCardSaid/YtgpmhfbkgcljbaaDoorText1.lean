/-
  Words joined by spaces, numerals: what the texts of instructions have in them (plain; no program stands in this text).
-/
import Derived.Lib.Join
import Derived.Lib.ItoaNum
import Derived.Lib.ItoaMem
namespace Go.Proofs.YtgpmhfbkgcljbaaDoor
open Go

theorem cut_inj : ∀ (x y A B : List UInt8), (32 : UInt8) ∉ x → (32 : UInt8) ∉ y → x ++ 32 :: A = y ++ 32 :: B → x = y ∧ A = B
  | [], [], A, B, _, _, h => by simpa using h
  | [], c :: y, A, B, _, hy, h => by
    simp only [List.nil_append, List.cons_append, List.cons.injEq] at h
    exact absurd (by rw [h.1]; simp) hy
  | c :: x, [], A, B, hx, _, h => by
    simp only [List.nil_append, List.cons_append, List.cons.injEq] at h
    exact absurd (by rw [← h.1]; simp) hx
  | c :: x, d :: y, A, B, hx, hy, h => by
    simp only [List.cons_append, List.cons.injEq] at h
    obtain ⟨rfl, h⟩ := h
    obtain ⟨rfl, rfl⟩ := cut_inj x y A B (fun hm => hx (List.mem_cons_of_mem _ hm)) (fun hm => hy (List.mem_cons_of_mem _ hm)) h
    exact ⟨rfl, rfl⟩

theorem join_two (x y : List UInt8) (r : List (List UInt8)) : Lib.join (x :: y :: r) [32] = x ++ 32 :: Lib.join (y :: r) [32] := by
  rw [Lib.join_cons, Lib.join_cons]
  simp [Lib.joinTail]

theorem join_inj : ∀ (xs ys : List (List UInt8)), xs ≠ [] → ys ≠ [] → (∀ x ∈ xs, (32 : UInt8) ∉ x) → (∀ y ∈ ys, (32 : UInt8) ∉ y) → Lib.join xs [32] = Lib.join ys [32] → xs = ys
  | [], _, h, _, _, _, _ => absurd rfl h
  | _, [], _, h, _, _, _ => absurd rfl h
  | [x], [y], _, _, _, _, h => by rw [Lib.join_one, Lib.join_one] at h; rw [h]
  | [x], y :: z :: s, _, _, hx, _, h => by
    rw [Lib.join_one, join_two] at h
    exact absurd (by rw [h]; simp) (hx x (by simp))
  | x :: z :: r, [y], _, _, _, hy, h => by
    rw [Lib.join_one, join_two] at h
    exact absurd (by rw [← h]; simp) (hy y (by simp))
  | x :: u :: r, y :: z :: s, _, _, hx, hy, h => by
    rw [join_two, join_two] at h
    obtain ⟨e, h'⟩ := cut_inj _ _ _ _ (hx x (by simp)) (hy y (by simp)) h
    rw [e, join_inj (u :: r) (z :: s) (by simp) (by simp) (fun v hv => hx v (List.mem_cons_of_mem _ hv)) (fun v hv => hy v (List.mem_cons_of_mem _ hv)) h']

/-- The number of a numeral. -/
def valD (l : List UInt8) : Nat := l.foldl (fun a c => a * 10 + (c.toNat - 48)) 0
theorem dec_step {n : Nat} (h : ¬ n < 10) : Lib.decDigits n = Lib.decDigits (n / 10) ++ [UInt8.ofNat (48 + n % 10)] := by
  rw [Lib.decDigits, dif_neg h]
theorem dig_nat (d : Nat) (h : d < 10) : (UInt8.ofNat (48 + d)).toNat = 48 + d := by
  simp only [UInt8.toNat_ofNat']; omega
theorem valD_dec (n : Nat) : valD (Lib.decDigits n) = n := by
  induction n using Nat.strongRecOn with
  | ind n ih =>
    by_cases h : n < 10
    · rw [Lib.decDigits_one h]
      simp only [valD, List.foldl_cons, List.foldl_nil, dig_nat n h]; omega
    · rw [dec_step h]
      have h1 := ih (n / 10) (by omega)
      simp only [valD, List.foldl_append, List.foldl_cons, List.foldl_nil] at h1 ⊢
      rw [h1, dig_nat (n % 10) (by omega)]; omega
theorem dec_inj {m n : Nat} (h : Lib.decDigits m = Lib.decDigits n) : m = n := by rw [← valD_dec m, ← valD_dec n, h]
theorem dec_nosp (n : Nat) : (32 : UInt8) ∉ Lib.decDigits n := by
  induction n using Nat.strongRecOn with
  | ind n ih =>
    have key : ∀ d, d < 10 → (32 : UInt8) ≠ UInt8.ofNat (48 + d) := fun d hd e => by
      have := congrArg UInt8.toNat e
      rw [dig_nat d hd] at this
      have h32 : (32 : UInt8).toNat = 32 := rfl
      omega
    by_cases h : n < 10
    · rw [Lib.decDigits_one h]
      intro hm
      simp only [List.mem_singleton] at hm
      exact key n h hm
    · rw [dec_step h]
      intro hm
      rcases List.mem_append.1 hm with hm | hm
      · exact ih (n / 10) (by omega) hm
      · simp only [List.mem_singleton] at hm
        exact key (n % 10) (by omega) hm

/-! ### Instructions as words -/
def regW (n : Nat) : List UInt8 := 114 :: Lib.decDigits n
def keyW (n : Nat) : List UInt8 := 107 :: Lib.decDigits n
/-- The names of the instructions, of the ops, of the ways. -/
def nameW : Nat → List UInt8
  | 1 => [108, 105]
  | 2 => [108, 105, 104]
  | 3 => [97, 108, 117]
  | 4 => [106, 109, 112]
  | 5 => [106, 122]
  | 6 => [108, 111, 97, 100]
  | 7 => [115, 97, 118, 101]
  | 8 => [107, 109, 111, 118, 101]
  | 9 => [107, 110, 117, 109]
  | 10 => [107, 103, 101, 116]
  | 11 => [105, 110, 118]
  | 12 => [121, 105, 101, 108, 100]
  | _ => [104, 97, 108, 116]
def opW : Nat → List UInt8
  | 0 => [97, 100, 100]
  | 1 => [115, 117, 98]
  | 2 => [109, 117, 108]
  | 3 => [100, 105, 118]
  | 4 => [109, 111, 100]
  | 5 => [97, 110, 100]
  | 6 => [111, 114]
  | 7 => [120, 111, 114]
  | 8 => [115, 104, 108]
  | 9 => [115, 104, 114]
  | 10 => [108, 116]
  | _ => [101, 113]
def howW : Nat → List UInt8
  | 0 => [99, 97, 108, 108]
  | 1 => [114, 101, 116, 117, 114, 110]
  | _ => [102, 111, 114, 107]
/-- The words of an instruction that may be. -/
def argsW (op a b c imm : Nat) : List (List UInt8) :=
  match op with
  | 1 => [regW a, Lib.decDigits imm]
  | 2 => [regW a, Lib.decDigits imm]
  | 3 => [opW imm, regW a, regW b, regW c]
  | 4 => [Lib.decDigits imm]
  | 5 => [regW a, Lib.decDigits imm]
  | 6 => [regW a, regW b, Lib.decDigits imm]
  | 7 => [regW a, regW b, Lib.decDigits imm]
  | 8 => [keyW a, keyW b]
  | 9 => [keyW a, regW b]
  | 10 => [regW a, keyW b]
  | 11 => [howW a, keyW b, keyW c]
  | _ => []
def textW (op a b c imm : Nat) : List UInt8 := Lib.join (nameW op :: argsW op a b c imm) [32]

/-- An instruction that may be. -/
def OkN (op a b c imm : Nat) : Prop :=
  match op with
  | 1 => a < 8 ∧ b = 0 ∧ c = 0 ∧ imm < 4096
  | 2 => a < 8 ∧ b = 0 ∧ c = 0 ∧ imm < 4096
  | 3 => a < 8 ∧ b < 8 ∧ c < 8 ∧ imm < 12
  | 4 => a = 0 ∧ b = 0 ∧ c = 0 ∧ imm < 4096
  | 5 => a < 8 ∧ b = 0 ∧ c = 0 ∧ imm < 4096
  | 6 => a < 8 ∧ b < 8 ∧ c = 0 ∧ imm < 4096
  | 7 => a < 8 ∧ b < 8 ∧ c = 0 ∧ imm < 4096
  | 8 => a < 16 ∧ b < 16 ∧ c = 0 ∧ imm = 0
  | 9 => a < 16 ∧ b < 8 ∧ c = 0 ∧ imm = 0
  | 10 => a < 8 ∧ b < 16 ∧ c = 0 ∧ imm = 0
  | 11 => a < 3 ∧ b < 16 ∧ c < 16 ∧ imm = 0
  | 12 => a = 0 ∧ b = 0 ∧ c = 0 ∧ imm = 0
  | 13 => a = 0 ∧ b = 0 ∧ c = 0 ∧ imm = 0
  | _ => False

theorem name_inj : ∀ i, i < 14 → ∀ j, j < 14 → 1 ≤ i → 1 ≤ j → nameW i = nameW j → i = j := by decide
theorem op_inj : ∀ i, i < 12 → ∀ j, j < 12 → opW i = opW j → i = j := by decide
theorem how_inj : ∀ i, i < 3 → ∀ j, j < 3 → howW i = howW j → i = j := by decide
theorem name_nosp : ∀ i, i < 14 → (32 : UInt8) ∉ nameW i := by decide
theorem op_nosp : ∀ i, i < 12 → (32 : UInt8) ∉ opW i := by decide
theorem how_nosp : ∀ i, i < 3 → (32 : UInt8) ∉ howW i := by decide
theorem reg_nosp (n : Nat) : (32 : UInt8) ∉ regW n := fun h => (List.mem_cons.1 h).elim (fun h => absurd h (by decide)) (dec_nosp n)
theorem key_nosp (n : Nat) : (32 : UInt8) ∉ keyW n := fun h => (List.mem_cons.1 h).elim (fun h => absurd h (by decide)) (dec_nosp n)
theorem reg_inj {m n : Nat} (h : regW m = regW n) : m = n := dec_inj (List.cons.inj h).2
theorem key_inj {m n : Nat} (h : keyW m = keyW n) : m = n := dec_inj (List.cons.inj h).2

theorem OkN.op {op a b c imm : Nat} (h : OkN op a b c imm) : 1 ≤ op ∧ op < 14 := by
  unfold OkN at h
  split at h <;> first | omega | exact h.elim
theorem OkN.ops {op a b c imm : Nat} (h : OkN op a b c imm) : op = 1 ∨ op = 2 ∨ op = 3 ∨ op = 4 ∨ op = 5 ∨ op = 6 ∨ op = 7 ∨ op = 8 ∨ op = 9 ∨ op = 10 ∨ op = 11 ∨ op = 12 ∨ op = 13 := by
  have := h.op; omega
theorem OkN.small {op a b c imm : Nat} (h : OkN op a b c imm) : a < 16 ∧ b < 16 ∧ c < 16 ∧ imm < 4096 := by
  rcases h.ops with rfl | rfl | rfl | rfl | rfl | rfl | rfl | rfl | rfl | rfl | rfl | rfl | rfl <;> simp only [OkN] at h <;> omega

theorem words_nosp {op a b c imm : Nat} (h : OkN op a b c imm) : ∀ x ∈ nameW op :: argsW op a b c imm, (32 : UInt8) ∉ x := by
  intro x hx
  rcases List.mem_cons.1 hx with rfl | hx
  · exact name_nosp op h.op.2
  · rcases h.ops with rfl | rfl | rfl | rfl | rfl | rfl | rfl | rfl | rfl | rfl | rfl | rfl | rfl <;> simp only [OkN, argsW, List.mem_cons, List.mem_nil_iff, or_false] at h hx
    · rcases hx with rfl | rfl <;> first | exact reg_nosp _ | exact key_nosp _ | exact dec_nosp _ | exact op_nosp _ h.2.2.2 | exact how_nosp _ h.1
    · rcases hx with rfl | rfl <;> first | exact reg_nosp _ | exact key_nosp _ | exact dec_nosp _ | exact op_nosp _ h.2.2.2 | exact how_nosp _ h.1
    · rcases hx with rfl | rfl | rfl | rfl <;> first | exact reg_nosp _ | exact key_nosp _ | exact dec_nosp _ | exact op_nosp _ h.2.2.2 | exact how_nosp _ h.1
    · subst hx; exact dec_nosp _
    · rcases hx with rfl | rfl <;> first | exact reg_nosp _ | exact key_nosp _ | exact dec_nosp _ | exact op_nosp _ h.2.2.2 | exact how_nosp _ h.1
    · rcases hx with rfl | rfl | rfl <;> first | exact reg_nosp _ | exact key_nosp _ | exact dec_nosp _ | exact op_nosp _ h.2.2.2 | exact how_nosp _ h.1
    · rcases hx with rfl | rfl | rfl <;> first | exact reg_nosp _ | exact key_nosp _ | exact dec_nosp _ | exact op_nosp _ h.2.2.2 | exact how_nosp _ h.1
    · rcases hx with rfl | rfl <;> first | exact reg_nosp _ | exact key_nosp _ | exact dec_nosp _ | exact op_nosp _ h.2.2.2 | exact how_nosp _ h.1
    · rcases hx with rfl | rfl <;> first | exact reg_nosp _ | exact key_nosp _ | exact dec_nosp _ | exact op_nosp _ h.2.2.2 | exact how_nosp _ h.1
    · rcases hx with rfl | rfl <;> first | exact reg_nosp _ | exact key_nosp _ | exact dec_nosp _ | exact op_nosp _ h.2.2.2 | exact how_nosp _ h.1
    · rcases hx with rfl | rfl | rfl <;> first | exact reg_nosp _ | exact key_nosp _ | exact dec_nosp _ | exact op_nosp _ h.2.2.2 | exact how_nosp _ h.1

theorem text_inj {op a b c imm op' a' b' c' imm' : Nat} (h : OkN op a b c imm) (h' : OkN op' a' b' c' imm') (e : textW op a b c imm = textW op' a' b' c' imm') : op = op' ∧ a = a' ∧ b = b' ∧ c = c' ∧ imm = imm' := by
  have e1 := join_inj _ _ (by simp) (by simp) (words_nosp h) (words_nosp h') e
  obtain ⟨e2, e3⟩ := List.cons.inj e1
  obtain rfl := name_inj op h.op.2 op' h'.op.2 h.op.1 h'.op.1 e2
  clear e e1 e2
  rcases h.ops with rfl | rfl | rfl | rfl | rfl | rfl | rfl | rfl | rfl | rfl | rfl | rfl | rfl <;> simp only [OkN, argsW, List.cons.injEq, and_true] at h h' e3
  · have := reg_inj e3.1; have := dec_inj e3.2; omega
  · have := reg_inj e3.1; have := dec_inj e3.2; omega
  · have := op_inj _ h.2.2.2 _ h'.2.2.2 e3.1; have := reg_inj e3.2.1; have := reg_inj e3.2.2.1; have := reg_inj e3.2.2.2; omega
  · have := dec_inj e3; omega
  · have := reg_inj e3.1; have := dec_inj e3.2; omega
  · have := reg_inj e3.1; have := reg_inj e3.2.1; have := dec_inj e3.2.2; omega
  · have := reg_inj e3.1; have := reg_inj e3.2.1; have := dec_inj e3.2.2; omega
  · have := key_inj e3.1; have := key_inj e3.2; omega
  · have := key_inj e3.1; have := reg_inj e3.2; omega
  · have := reg_inj e3.1; have := key_inj e3.2; omega
  · have := how_inj _ h.1 _ h'.1 e3.1; have := key_inj e3.2.1; have := key_inj e3.2.2; omega
  · omega
  · omega

/-! ### Instructions as one word -/
def wordN (op a b c imm : Nat) : Nat := op * 16777216 + a * 1048576 + b * 65536 + c * 4096 + imm
theorem read_word {op a b c imm : Nat} (h : OkN op a b c imm) : wordN op a b c imm / 16777216 = op ∧ wordN op a b c imm / 1048576 % 16 = a ∧ wordN op a b c imm / 65536 % 16 = b ∧ wordN op a b c imm / 4096 % 16 = c ∧ wordN op a b c imm % 4096 = imm ∧ wordN op a b c imm < 4294967296 := by
  have h1 := h.op
  have h2 := h.small
  unfold wordN
  omega
theorem word_read (w : Nat) : wordN (w / 16777216) (w / 1048576 % 16) (w / 65536 % 16) (w / 4096 % 16) (w % 4096) = w := by
  unfold wordN; omega
theorem word_inj {op a b c imm op' a' b' c' imm' : Nat} (h : OkN op a b c imm) (h' : OkN op' a' b' c' imm') (e : wordN op a b c imm = wordN op' a' b' c' imm') : op = op' ∧ a = a' ∧ b = b' ∧ c = c' ∧ imm = imm' := by
  have h1 := read_word h
  have h2 := read_word h'
  rw [e] at h1
  omega
end Go.Proofs.YtgpmhfbkgcljbaaDoor
