/- The operations that only reckon, one by one. -/
import Derived.Test.YtdkigndgdkaoiaaBa
import Derived.Orders
import Derived.Laws.StructEq
namespace Go.Proofs.Ytdkigndgdkaoiaa.B
set_option linter.unusedVariables false
set_option linter.unusedSimpArgs false
open Go

/-- what a type is -/
abbrev UT := List (Nat × TypeDesc)
def und : UT → Nat → Option TypeDesc
  | [], _ => none
  | p :: r, t => match Nat.beq p.1 t with | true => some p.2 | false => und r t
def AllU (P : Program) (U : UT) : Prop := U.map (fun p => P.underlying p.1) = U.map (fun p => some p.2)
theorem AllU.at {P : Program} : ∀ {U : UT}, AllU P U → ∀ {t d}, und U t = some d → P.underlying t = some d
  | [], _, _, _, h => by simp [und] at h
  | p :: r, hU, t, d, h => by
    simp only [AllU, List.map_cons, List.cons.injEq] at hU
    simp only [und] at h
    cases hb : Nat.beq p.1 t with
    | true =>
      have := Nat.eq_of_beq_eq_true hb
      simp [hb] at h
      rw [← this, ← h]; exact hU.1
    | false =>
      simp [hb] at h
      exact AllU.at (U := r) hU.2 h

/-- a type's cells, bytes, zero -/
structure TI where
  size : Nat
  bytes : Nat
  zero : Value
abbrev IT := List (Nat × TI)
def inf : IT → Nat → Option TI
  | [], _ => none
  | p :: r, t => match Nat.beq p.1 t with | true => some p.2 | false => inf r t
def AllI (P : Program) (I : IT) : Prop := I.map (fun p => (P.info? p.1).map fun i => (i.size, i.bytes, i.zero)) = I.map (fun p => some (p.2.size, p.2.bytes, some p.2.zero))
theorem AllI.at {P : Program} : ∀ {I : IT}, AllI P I → ∀ {t d}, inf I t = some d → ∃ i, P.info? t = some i ∧ i.size = d.size ∧ i.bytes = d.bytes ∧ i.zero = some d.zero
  | [], _, _, _, h => by simp [inf] at h
  | p :: r, hU, t, d, h => by
    simp only [AllI, List.map_cons, List.cons.injEq] at hU
    simp only [inf] at h
    cases hb : Nat.beq p.1 t with
    | true =>
      have := Nat.eq_of_beq_eq_true hb
      simp [hb] at h
      obtain ⟨i, h1, h2⟩ := Option.map_eq_some_iff.1 hU.1
      simp only [Prod.mk.injEq] at h2
      rw [← this, ← h]; exact ⟨i, h1, h2⟩
    | false =>
      simp [hb] at h
      exact AllI.at (I := r) hU.2 h

def shlI (k : IntKind) (x : Int) (n : Nat) : Int := k.wrap (x * 2 ^ min n k.bits)
def shrI (k : IntKind) (x : Int) (n : Nat) : Int := x.fdiv (2 ^ min n k.bits)
def andI (k : IntKind) (x y : Int) : Int := k.wrap (BitVec.ofInt k.bits x &&& BitVec.ofInt k.bits y).toNat
def orI (k : IntKind) (x y : Int) : Int := k.wrap (BitVec.ofInt k.bits x ||| BitVec.ofInt k.bits y).toNat
def xorI (k : IntKind) (x y : Int) : Int := k.wrap (BitVec.ofInt k.bits x ^^^ BitVec.ofInt k.bits y).toNat
def andNotI (k : IntKind) (x y : Int) : Int := k.wrap (BitVec.ofInt k.bits x &&& ~~~ (BitVec.ofInt k.bits y)).toNat

def binI (op : BinOp) (k : IntKind) (x y : Int) : Option Value :=
  match op with
  | .eql => some (.bool (decide (x = y)))
  | .neq => some (.bool (!decide (x = y)))
  | .lss => some (.bool (decide (x < y)))
  | .leq => some (.bool (decide (x ≤ y)))
  | .gtr => some (.bool (decide (y < x)))
  | .geq => some (.bool (decide (y ≤ x)))
  | .add => some (.int k (k.wrap (x + y)))
  | .sub => some (.int k (k.wrap (x - y)))
  | .mul => some (.int k (k.wrap (x * y)))
  | .and => some (.int k (andI k x y))
  | .or => some (.int k (orI k x y))
  | .xor => some (.int k (xorI k x y))
  | .andNot => some (.int k (andNotI k x y))
  | .quo => match y with | .ofNat (n + 1) => some (.int k (k.wrap (x.tdiv (.ofNat (n + 1))))) | _ => none
  | .rem => match y with | .ofNat (n + 1) => some (.int k (x.tmod (.ofNat (n + 1)))) | _ => none
  | _ => none
def binS (op : BinOp) (x y : ByteArray) : Option Value :=
  match op with
  | .eql => some (.bool (decide (x = y)))
  | .neq => some (.bool (!decide (x = y)))
  | _ => none
def binV (op : BinOp) (a b : Value) : Option Value :=
  match a, b with
  | .int k x, .int k' y =>
    match op with
    | .shl => match y with | .ofNat n => some (.int k (shlI k x n)) | _ => none
    | .shr => match y with | .ofNat n => some (.int k (shrI k x n)) | _ => none
    | op => match (if k = k' then true else false) with | true => binI op k x y | false => none
  | .string x, .string y => binS op x y
  | _, _ => none
/-- comparisons that look at the type -/
def cmpV (d : TypeDesc) (a b : Value) : Option Bool :=
  match d, a, b with
  | .bool, .bool x, .bool y => some (x == y)
  | .interface ms, .nilIface, .nilIface => some true
  | .interface _, .nilIface, .iface _ _ => some false
  | .interface _, .iface _ _, .nilIface => some false
  | .pointer _, .pointer none, .pointer b => some b.isNone
  | .pointer _, .pointer (some _), .pointer none => some false
  | .slice _, .slice none _ _, .slice b _ _ => some b.isNone
  | .slice _, .slice (some _) _ _, .slice none _ _ => some false
  | .map _ _, .map none, .map b => some b.isNone
  | .map _ _, .map (some _), .map none => some false
  | .func _ _ _, .nilFunc, .nilFunc => some true
  | .func _ _ _, .func _ _ _, .nilFunc => some false
  | _, _, _ => none
def isLit : Operand → Bool
  | .const _ => true
  | _ => false

def convV (d : TypeDesc) (s : TypeDesc) (v : Value) : Option Value :=
  match d, v with
  | .int k, .int _ n => some (.int k (k.wrap n))
  | .string, .string x => some (.string x)
  | _, _ => none
def lenV (d : TypeDesc) (v : Value) : Option Value :=
  match d, v with
  | .string, .string s => some (.int .i64 (s.size : Int))
  | .slice _, .slice _ n _ => some (.int .i64 (n : Int))
  | .array n _, _ => some (.int .i64 (n : Int))
  | .map _ _, .map none => some (.int .i64 0)
  | _, _ => none
def unV (op : UnOp) (v : Value) : Option Value :=
  match op, v with
  | .not, .bool b => some (.bool (!b))
  | .neg, .int k n => some (.int k (k.wrap (0 - n)))
  | .xor, .int k n => some (.int k (xorI k (if k.signed then -1 else k.max) n))
  | _, _ => none
def pickV (L : Slots) (c : Value) (a b : Operand) : Option Value :=
  match c with
  | .bool true => ev L a
  | .bool false => ev L b
  | _ => none
def nthV : List Value → Nat → Option Value
  | [], _ => none
  | v :: _, 0 => some v
  | _ :: r, n + 1 => nthV r n
def extV (v : Value) (i : Nat) : Option Value :=
  match v with
  | .tuple ⟨l⟩ => nthV l i
  | _ => none
def nilV (v : Value) : Option Value :=
  match v with
  | .pointer (some a) => some (.pointer (some a))
  | .func (.func f) x y => some (.func (.func f) x y)
  | _ => none
def notIface : TypeDesc → Bool
  | .interface _ => false
  | _ => true

/-- an operation that only reckons -/
def pureOp (U : UT) (L : Slots) (op : Op) : Option Value :=
  match op with
  | .move x => ev L x
  | .assign x => ev L x
  | .pick c a b => match ev L c with | some v => pickV L v a b | none => none
  | .binOp op _ x y _ => match ev L x, ev L y with | some a, some b => binV op a b | _, _ => none
  | .unOp op _ x => match ev L x with | some v => unV op v | none => none
  | .convert src dst x => match und U dst, und U src, ev L x with | some d, some s, some v => convV d s v | _, _, _ => none
  | .extract t i => match ev L t with | some v => extV v i | none => none
  | .nilCheck x => match ev L x with | some v => nilV v | none => none
  | .makeInterface t x => match und U t, ev L x with | some d, some v => (match notIface d with | true => some (.iface t v) | false => none) | _, _ => none
  | .makeFunc fn xs ys => match evs L xs.toList, evs L ys.toList with | some a, some b => some (.func fn a.toArray b.toArray) | _, _ => none
  | .call c => match c.callee, c.args.toList, c.argTypes.toList with
    | .builtin .len, [x], [t] => (match und U t, ev L x with | some d, some v => lenV d v | _, _ => none)
    | _, _, _ => none
  | _ => none

section
variable {P : Program} {U : UT} {N : Nat} {L : Slots}

theorem beqI (x y : Int) : (x == y) = decide (x = y) := rfl
theorem bytes_ext {x y : ByteArray} (h : x.toList = y.toList) : x = y := by
  rw [ByteArray.toList_eq, ByteArray.toList_eq] at h
  obtain ⟨⟨x⟩⟩ := x
  obtain ⟨⟨y⟩⟩ := y
  simp only at h
  subst h; rfl
theorem beqB (x y : ByteArray) : (x == y) = decide (x = y) := by
  rw [beq_toListBytes]
  by_cases e : x = y
  · subst e; simp
  · rw [decide_eq_false e, beq_eq_false_iff_ne]
    exact fun h => e (bytes_ext h)
theorem binV_run (op : BinOp) (t : TypeId) (a b v : Value) (w : World) (h : binV op a b = some v) : (binOp op t a b).run P w = .ok v w := by
  unfold binV at h
  split at h
  · rename_i k x k' y
    split at h
    · split at h
      · rename_i n
        simp only [Option.some.injEq] at h; subst h
        have h0 : ¬ ((Int.ofNat n) < 0) := by simp
        simp only [binOp, Op.shift, if_neg h0, Sem.run_pure, shlI]
        rfl
      · cases h
    · split at h
      · rename_i n
        simp only [Option.some.injEq] at h; subst h
        have h0 : ¬ ((Int.ofNat n) < 0) := by simp
        simp only [binOp, Op.shift, if_neg h0, Sem.run_pure, shrI]
        rfl
      · cases h
    · rename_i hns hnr
      by_cases e : k = k'
      · subst e
        simp only [if_true] at h
        cases op <;> first | exact absurd rfl hns | exact absurd rfl hnr | skip
        all_goals simp only [binI] at h
        all_goals first
          | (simp only [Option.some.injEq] at h; subst h; simp [binOp, Op.intArith]; done)
          | (simp only [Option.some.injEq] at h; subst h; simp [binOp, Op.intBits, andI, orI, xorI, andNotI]; done)
          | (simp only [Option.some.injEq] at h; subst h; simp only [binOp, Op.intCmp, ne_eq, not_true_eq_false, if_false, Sem.run_pure, bne, beqI, GT.gt, GE.ge]; done)
          | (simp only [Option.some.injEq] at h; subst h; simp only [binOp, Op.intBits, andI, orI, xorI, andNotI, ne_eq, not_true_eq_false, if_false, Sem.run_pure]; done)
          | (split at h
             · rename_i n
               simp only [Option.some.injEq] at h; subst h
               have h0 : ¬ (Int.ofNat (n + 1) = 0) := by simp; omega
               simp only [binOp, Op.intDiv, if_neg h0, ne_eq, not_true, if_false, Sem.run_pure]
             · cases h)
      · simp [e] at h
  · rename_i x y
    cases op <;> simp only [binS] at h <;> first | (cases h; done) | skip
    all_goals simp only [Option.some.injEq] at h
    all_goals subst h
    all_goals simp only [binOp, Op.stringOp, ← beq_toListBytes, beqB, Sem.run_pure]
  · cases h

theorem eqGuard_run (op : BinOp) (t : TypeId) (x y : Operand) (a b v : Value) (w : World) (h : binV op a b = some v) : (eqGuard op t x y a b).run P w = .ok () w := by
  unfold binV at h
  split at h <;> first | (cases h; done) | (unfold eqGuard; split <;> simp)

theorem pureOp_run {a : Act} (hU : AllU P U) (ha : Fr N L a) (o : Oper) (v : Value) (w : World) (h : pureOp U L o.op = some v) : (execOp a.eval o).run P w = .ok (.value v) w := by
  unfold execOp
  unfold pureOp at h
  split at h
  · rename_i ho; simp only [ho]; rw [ha.ev h]; rfl
  · rename_i ho; simp only [ho]; rw [ha.ev h]; rfl
  · rename_i c x y ho
    simp only [ho]
    split at h
    · rename_i u hc
      rw [ha.ev hc]
      unfold pickV at h
      split at h
      · simp [asBool, ha.ev h]
      · simp [asBool, ha.ev h]
      · cases h
    · cases h
  · rename_i op t x y t2 ho
    simp only [ho]
    split at h
    · rename_i p q hx hy
      rw [ha.ev hx, ha.ev hy]
      simp [eqGuard_run op t x y p q v w h, binV_run op t p q v w h]
    · cases h
  · rename_i op t x ho
    simp only [ho]
    split at h
    · rename_i u hx
      rw [ha.ev hx]
      unfold unV at h
      split at h
      · simp at h; subst h; simp [Op.unary]
      · simp at h; subst h; simp [Op.unary, Op.intArith]
      · simp at h; subst h; simp [Op.unary, Op.intBits, xorI]
      · cases h
    · cases h
  · rename_i src dst x ho
    simp only [ho]
    split at h
    · rename_i d s u hd hs hx
      rw [ha.ev hx]
      unfold convV at h
      split at h
      · simp at h; subst h
        simp [convert, run_underlying (hU.at hs), run_underlying (hU.at hd), Conv.intToInt]
      · simp at h; subst h
        simp [convert, run_underlying (hU.at hs), run_underlying (hU.at hd)]
      · cases h
    · cases h
  · rename_i t i ho
    simp only [ho]
    split at h
    · rename_i u hx
      rw [ha.ev hx]
      unfold extV at h
      split at h
      · rename_i l
        have : l[i]? = some v := by
          clear hx ho
          induction l generalizing i with
          | nil => simp [nthV] at h
          | cons p r ih => cases i with
            | zero => simpa [nthV] using h
            | succ i => simpa using ih i (by simpa [nthV] using h)
        simp [Instr.extract, this]
      · cases h
    · cases h
  · rename_i x ho
    simp only [ho]
    split at h
    · rename_i u hx
      rw [ha.ev hx]
      unfold nilV at h
      split at h
      · simp at h; subst h; simp
      · simp at h; subst h; simp
      · cases h
    · cases h
  · rename_i t x ho
    simp only [ho]
    split at h
    · rename_i d u hd hx
      rw [ha.ev hx]
      split at h
      · rename_i hn
        simp at h; subst h
        cases d <;> first | (simp [notIface] at hn; done) | simp [Instr.makeInterface, run_underlying (hU.at hd)]
      · cases h
    · cases h
  · rename_i fn xs ys ho
    simp only [ho]
    split at h
    · rename_i p q hp hq
      simp at h; subst h
      have h1 := ha.evs hp
      have h2 := ha.evs hq
      have e1 : xs.map a.eval = p.toArray := by apply Array.toList_inj.1; rw [Array.toList_map, h1]
      have e2 : ys.map a.eval = q.toArray := by apply Array.toList_inj.1; rw [Array.toList_map, h2]
      rw [e1, e2]
      simp [Instr.makeFunc]
    · cases h
  · rename_i c ho
    simp only [ho]
    split at h
    · rename_i x t hc hxs hts
      split at h
      · rename_i d u hd hx
        have e1 : c.args = #[x] := by rw [← hxs]
        have e2 : c.argTypes = #[t] := by rw [← hts]
        have e3 := ha.ev hx
        simp only [resolve, hc, e1, e2]
        unfold lenV at h
        split at h <;> first | (cases h; done) | skip
        all_goals simp only [Option.some.injEq] at h
        all_goals subst h
        all_goals simp [invoke, builtin, Builtin.len_, run_underlying (hU.at hd), e3, goInt]
      · cases h
    · cases h
  · cases h
end
end Go.Proofs.Ytdkigndgdkaoiaa.B
