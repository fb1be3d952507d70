/- The published sum, in plain Lean over 32-bit words: no program. -/
namespace Go.Proofs.YtoiilhbjlfdfpaaDoor.Sha
set_option linter.unusedVariables false

def rotr (x : UInt32) (n : UInt32) : UInt32 := (x >>> n) ||| (x <<< (32 - n))
def ls0 (x : UInt32) : UInt32 := rotr x 7 ^^^ rotr x 18 ^^^ (x >>> 3)
def ls1 (x : UInt32) : UInt32 := rotr x 17 ^^^ rotr x 19 ^^^ (x >>> 10)
def bs0 (x : UInt32) : UInt32 := rotr x 2 ^^^ rotr x 13 ^^^ rotr x 22
def bs1 (x : UInt32) : UInt32 := rotr x 6 ^^^ rotr x 11 ^^^ rotr x 25
def chs (e f g : UInt32) : UInt32 := (e &&& f) ^^^ (~~~e &&& g)
def maj (a b c : UInt32) : UInt32 := (a &&& b) ^^^ (a &&& c) ^^^ (b &&& c)
/-- Word number i of a block. -/
def word (p : List UInt8) (i : Nat) : UInt32 :=
  ((p.getD (4 * i) 0).toUInt32 <<< 24) ||| ((p.getD (4 * i + 1) 0).toUInt32 <<< 16) ||| ((p.getD (4 * i + 2) 0).toUInt32 <<< 8) ||| (p.getD (4 * i + 3) 0).toUInt32
def nextW (p : List UInt8) (l : List UInt32) (k : Nat) : UInt32 :=
  if k < 16 then word p k else l.getD (k - 16) 0 + ls0 (l.getD (k - 15) 0) + l.getD (k - 7) 0 + ls1 (l.getD (k - 2) 0)
/-- The first k words of the schedule. -/
def sched (p : List UInt8) : Nat → List UInt32
  | 0 => []
  | k + 1 => sched p k ++ [nextW p (sched p k) k]
def consts : List UInt32 := [
  0x428a2f98, 0x71374491, 0xb5c0fbcf, 0xe9b5dba5, 0x3956c25b, 0x59f111f1, 0x923f82a4, 0xab1c5ed5,
  0xd807aa98, 0x12835b01, 0x243185be, 0x550c7dc3, 0x72be5d74, 0x80deb1fe, 0x9bdc06a7, 0xc19bf174,
  0xe49b69c1, 0xefbe4786, 0x0fc19dc6, 0x240ca1cc, 0x2de92c6f, 0x4a7484aa, 0x5cb0a9dc, 0x76f988da,
  0x983e5152, 0xa831c66d, 0xb00327c8, 0xbf597fc7, 0xc6e00bf3, 0xd5a79147, 0x06ca6351, 0x14292967,
  0x27b70a85, 0x2e1b2138, 0x4d2c6dfc, 0x53380d13, 0x650a7354, 0x766a0abb, 0x81c2c92e, 0x92722c85,
  0xa2bfe8a1, 0xa81a664b, 0xc24b8b70, 0xc76c51a3, 0xd192e819, 0xd6990624, 0xf40e3585, 0x106aa070,
  0x19a4c116, 0x1e376c08, 0x2748774c, 0x34b0bcb5, 0x391c0cb3, 0x4ed8aa4a, 0x5b9cca4f, 0x682e6ff3,
  0x748f82ee, 0x78a5636f, 0x84c87814, 0x8cc70208, 0x90befffa, 0xa4506ceb, 0xbef9a3f7, 0xc67178f2]
structure St where
  a : UInt32
  b : UInt32
  c : UInt32
  d : UInt32
  e : UInt32
  f : UInt32
  g : UInt32
  h : UInt32
def St.list (s : St) : List UInt32 := [s.a, s.b, s.c, s.d, s.e, s.f, s.g, s.h]
def begin_ : St := ⟨0x6a09e667, 0xbb67ae85, 0x3c6ef372, 0xa54ff53a, 0x510e527f, 0x9b05688c, 0x1f83d9ab, 0x5be0cd19⟩
def round (s : St) (k w : UInt32) : St :=
  let t1 := s.h + bs1 s.e + chs s.e s.f s.g + k + w
  let t2 := bs0 s.a + maj s.a s.b s.c
  ⟨t1 + t2, s.a, s.b, s.c, s.d + t1, s.e, s.f, s.g⟩
def rounds (ws : List UInt32) (s : St) : Nat → St
  | 0 => s
  | k + 1 => round (rounds ws s k) (consts.getD k 0) (ws.getD k 0)
def St.add (s t : St) : St := ⟨s.a + t.a, s.b + t.b, s.c + t.c, s.d + t.d, s.e + t.e, s.f + t.f, s.g + t.g, s.h + t.h⟩
def block (s : St) (p : List UInt8) : St := s.add (rounds (sched p 64) s 64)
/-- All whole blocks, and what is left. -/
def procN : Nat → St → List UInt8 → St × List UInt8
  | 0, s, l => (s, l)
  | n + 1, s, l => if l.length < 64 then (s, l) else procN n (block s (l.take 64)) (l.drop 64)
def proc (s : St) (l : List UInt8) : St × List UInt8 := procN l.length s l
def zeros (n : Nat) : Nat := (119 - n % 64) % 64
/-- n is the number of bytes, rest what has not been processed. -/
def lenBytes (n : Nat) : List UInt8 := (List.range 8).map fun i => UInt8.ofNat (n * 8 / 2 ^ (56 - 8 * i) % 256)
def tail (rest : List UInt8) (n : Nat) : List UInt8 := rest ++ [0x80] ++ List.replicate (zeros rest.length) 0 ++ lenBytes n
def wordBytes (x : UInt32) : List UInt8 := [(x >>> 24).toUInt8, (x >>> 16).toUInt8, (x >>> 8).toUInt8, x.toUInt8]
def St.bytes (s : St) : List UInt8 := s.list.flatMap wordBytes
def end_ (s : St) (rest : List UInt8) (n : Nat) : List UInt8 := (proc s (tail rest n)).1.bytes
/-- The sum. -/
def sum (l : List UInt8) : List UInt8 := end_ (proc begin_ l).1 (proc begin_ l).2 l.length

theorem bytes_length (s : St) : s.bytes.length = 32 := rfl
theorem sum_length (l : List UInt8) : (sum l).length = 32 := rfl
theorem sched_length (p : List UInt8) : ∀ k, (sched p k).length = k
  | 0 => rfl
  | k + 1 => by simp [sched, sched_length p k]
theorem sched_take (p : List UInt8) (k : Nat) : ∀ n, k ≤ n → (sched p n).take k = sched p k
  | 0, h => by
    have : k = 0 := by omega
    subst this; rfl
  | n + 1, h => by
    by_cases hk : k = n + 1
    · subst hk; rw [List.take_of_length_le (by rw [sched_length]; exact Nat.le_refl _)]
    · show (sched p n ++ [_]).take k = _
      rw [List.take_append_of_le_length (by rw [sched_length]; omega)]
      exact sched_take p k n (by omega)
theorem sched_get (p : List UInt8) (k n : Nat) (h : k < n) : (sched p n).getD k 0 = nextW p (sched p k) k := by
  have h1 := sched_take p (k + 1) n h
  have h2 : (sched p n)[k]? = (sched p (k + 1))[k]? := by
    rw [← h1, List.getElem?_take, if_pos (by omega)]
  rw [List.getD, h2]
  simp [sched, sched_length]
theorem procN_more (l : List UInt8) : ∀ n s, l.length ≤ n → procN n s l = proc s l := by
  have key : ∀ (m : Nat) (l : List UInt8), l.length ≤ m → ∀ i j s, l.length ≤ i → l.length ≤ j → procN i s l = procN j s l := by
    intro m
    induction m with
    | zero =>
      intro l hl i j s _ _
      have h0 : l.length < 64 := by omega
      cases i <;> cases j <;> simp [procN, h0]
    | succ m ih =>
      intro l hl i j s hi hj
      by_cases h0 : l.length < 64
      · cases i <;> cases j <;> simp [procN, h0]
      · obtain ⟨i, rfl⟩ : ∃ i', i = i' + 1 := ⟨i - 1, by omega⟩
        obtain ⟨j, rfl⟩ : ∃ j', j = j' + 1 := ⟨j - 1, by omega⟩
        simp only [procN, if_neg h0]
        exact ih _ (by rw [List.length_drop]; omega) _ _ _ (by rw [List.length_drop]; omega) (by rw [List.length_drop]; omega)
  intro n s h
  exact key l.length l (Nat.le_refl _) n l.length s h (Nat.le_refl _)
theorem proc_short (s : St) (l : List UInt8) (h : l.length < 64) : proc s l = (s, l) := by
  unfold proc
  cases hl : l.length with
  | zero => rfl
  | succ n => simp [procN, h]
theorem proc_step (s : St) (l : List UInt8) (h : 64 ≤ l.length) : proc s l = proc (block s (l.take 64)) (l.drop 64) := by
  have hp : procN l.length s l = proc s l := rfl
  obtain ⟨n, hn⟩ : ∃ n, l.length = n + 1 := ⟨l.length - 1, by omega⟩
  rw [hn] at hp
  rw [← hp]
  show (if l.length < 64 then (s, l) else procN n _ _) = _
  rw [if_neg (by omega)]
  exact procN_more _ _ _ (by rw [List.length_drop]; omega)
theorem proc_rest (l : List UInt8) : ∀ s, (proc s l).2.length = l.length % 64 := by
  have key : ∀ (n : Nat) (l : List UInt8), l.length ≤ n → ∀ s, (proc s l).2.length = l.length % 64 := by
    intro n
    induction n with
    | zero =>
      intro l hl s
      rw [proc_short s l (by omega)]
      show l.length = _
      omega
    | succ n ih =>
      intro l hl s
      by_cases h : l.length < 64
      · rw [proc_short s l h]
        show l.length = _
        omega
      · rw [proc_step s l (by omega), ih _ (by rw [List.length_drop]; omega), List.length_drop]
        omega
  exact key l.length l (Nat.le_refl _)
/-- What is processed in parts. -/
theorem proc_append (m : List UInt8) : ∀ (l : List UInt8) (s : St), proc s (l ++ m) = proc (proc s l).1 ((proc s l).2 ++ m) := by
  have key : ∀ (n : Nat) (l : List UInt8), l.length ≤ n → ∀ s, proc s (l ++ m) = proc (proc s l).1 ((proc s l).2 ++ m) := by
    intro n
    induction n with
    | zero =>
      intro l hl s
      rw [proc_short s l (by omega)]
    | succ n ih =>
      intro l hl s
      by_cases h : l.length < 64
      · rw [proc_short s l h]
      · rw [proc_step s (l ++ m) (by rw [List.length_append]; omega), List.take_append_of_le_length (by omega), List.drop_append_of_le_length (by omega), ih _ (by rw [List.length_drop]; omega), ← proc_step s l (by omega)]
  exact fun l => key l.length l (Nat.le_refl _)
end Go.Proofs.YtoiilhbjlfdfpaaDoor.Sha
