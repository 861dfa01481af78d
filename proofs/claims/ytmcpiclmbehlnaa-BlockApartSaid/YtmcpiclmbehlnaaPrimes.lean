/- The plain mathematics of the reference's Prime, Times, Power, Above, Root: functions over natural numbers, and what they come to at the 64 primes. -/
namespace Go.Proofs.Ytmcpiclmbehlnaa

/-- is n a prime, from divisor d on, so far 'b' (the inner loop) -/
def inn (n : Nat) : Nat → Nat → Bool → Bool
  | 0, _, b => b
  | f + 1, d, b => if d * d ≤ n then inn n f (d + 1) (b && n % d != 0) else b
def isP (n : Nat) : Bool := inn n 40 2 true
/-- the outer loop: i numbers more to be met -/
def pr : Nat → Nat → Nat → Option Nat
  | 0, _, _ => none
  | _ + 1, 0, n => some n
  | f + 1, i + 1, n => pr f (if isP (n + 1) then i else i + 1) (n + 1)
def primes : List Nat := [2, 3, 5, 7, 11, 13, 17, 19, 23, 29, 31, 37, 41, 43, 47, 53, 59, 61, 67, 71, 73, 79, 83, 89, 97, 101, 103, 107, 109, 113, 127, 131, 137, 139, 149, 151, 157, 163, 167, 173, 179, 181, 191, 193, 197, 199, 211, 223, 227, 229, 233, 239, 241, 251, 257, 263, 269, 271, 277, 281, 283, 293, 307, 311]
set_option maxRecDepth 100000 in
theorem pr_all : ∀ i, i < 64 → pr 330 (i + 1) 1 = some (primes.getD i 0) := by decide +kernel

/-- a wide number times n, from the i-th word on -/
def timesGo (a : List Nat) (n : Nat) : Nat → Nat → Nat → List Nat → List Nat
  | 0, _, _, out => out
  | f + 1, i, c, out => timesGo a n f (i + 1) ((a.getD i 0 * n + c) / 65536) (out.set i ((a.getD i 0 * n + c) % 65536))
def timesF (a : List Nat) (n : Nat) : List Nat := timesGo a n 8 0 0 (List.replicate 8 0)
def powGo (n : Nat) : Nat → List Nat → List Nat
  | 0, a => a
  | f + 1, a => powGo n f (timesF a n)
def powF (n k : Nat) : List Nat := powGo n k [1, 0, 0, 0, 0, 0, 0, 0]
/-- from the i-th word down -/
def aboveGo (a b : List Nat) : Nat → Bool
  | 0 => false
  | i + 1 => if a.getD i 0 ≠ b.getD i 0 then decide (b.getD i 0 < a.getD i 0) else aboveGo a b i
def aboveF (a b : List Nat) : Bool := aboveGo a b 8
def goalF (p k : Nat) : List Nat := (List.replicate 8 0).set (2 * k) p
def stepF (p k n step : Nat) : Bool := decide (n + step < 68719476736) && !aboveF (powF (n + step) k) (goalF p k)
def rootGo (p k : Nat) : Nat → Nat → Nat → Nat
  | 0, n, _ => n
  | f + 1, n, step => rootGo p k f (if stepF p k n step then n + step else n) (step / 2)
def rootF (p k : Nat) : Nat := rootGo p k 37 0 68719476736
theorem timesGo_len (a : List Nat) (n : Nat) : ∀ f i c out, (timesGo a n f i c out).length = out.length
  | 0, _, _, _ => rfl
  | f + 1, i, c, out => by rw [timesGo, timesGo_len]; simp
theorem timesGo_small (a : List Nat) (n : Nat) : ∀ f i c out, (∀ j, out.getD j 0 < 65536) → ∀ j, (timesGo a n f i c out).getD j 0 < 65536
  | 0, _, _, _, h => h
  | f + 1, i, c, out, h => by
    rw [timesGo]
    refine timesGo_small a n f _ _ _ fun j => ?_
    by_cases hj : j < out.length
    · rw [List.getD_eq_getElem?_getD, List.getElem?_set]
      by_cases e : i = j
      · subst e; simp [hj]; omega
      · have := h j; rw [List.getD_eq_getElem?_getD] at this; simpa [e] using this
    · rw [List.getD_eq_getElem?_getD, List.getElem?_eq_none (by simp; omega)]; simp
theorem timesF_small (a : List Nat) (n : Nat) (j : Nat) : (timesF a n).getD j 0 < 65536 :=
  timesGo_small a n 8 0 0 _ (fun j => by
    rw [List.getD_eq_getElem?_getD, List.getElem?_replicate]
    split <;> simp) j
theorem timesF_len (a : List Nat) (n : Nat) : (timesF a n).length = 8 := timesGo_len _ _ _ _ _ _
theorem powGo_len (n : Nat) : ∀ f a, a.length = 8 → (powGo n f a).length = 8
  | 0, _, h => h
  | f + 1, _, _ => powGo_len n f _ (timesF_len _ _)
theorem powF_len (n k : Nat) : (powF n k).length = 8 := powGo_len n k _ rfl
def kNat : List Nat := [1116352408, 1899447441, 3049323471, 3921009573, 961987163, 1508970993, 2453635748, 2870763221,
    3624381080, 310598401, 607225278, 1426881987, 1925078388, 2162078206, 2614888103, 3248222580,
    3835390401, 4022224774, 264347078, 604807628, 770255983, 1249150122, 1555081692, 1996064986,
    2554220882, 2821834349, 2952996808, 3210313671, 3336571891, 3584528711, 113926993, 338241895,
    666307205, 773529912, 1294757372, 1396182291, 1695183700, 1986661051, 2177026350, 2456956037,
    2730485921, 2820302411, 3259730800, 3345764771, 3516065817, 3600352804, 4094571909, 275423344,
    430227734, 506948616, 659060556, 883997877, 958139571, 1322822218, 1537002063, 1747873779,
    1955562222, 2024104815, 2227730452, 2361852424, 2428436474, 2756734187, 3204031479, 3329325298]
def fNat : List Nat := [1779033703, 3144134277, 1013904242, 2773480762, 1359893119, 2600822924, 528734635, 1541459225]
set_option maxRecDepth 100000 in
theorem root_k : ∀ i, i < 64 → rootF (primes.getD i 0) 3 % 4294967296 = kNat.getD i 0 := by decide +kernel
set_option maxRecDepth 100000 in
theorem root_f : ∀ i, i < 8 → rootF (primes.getD i 0) 2 % 4294967296 = fNat.getD i 0 := by decide +kernel
end Go.Proofs.Ytmcpiclmbehlnaa
