/- Operations over frames and items, one rule each. -/
import Derived.Test.YtdkigndgdkaoiaaSa
namespace Go.Proofs.Ytdkigndgdkaoiaa.X
set_option linter.unusedVariables false
set_option linter.unusedSimpArgs false
open Go B

/-! ### what needs no memory -/
structure Tab where
  u : UT
  i : IT
  f : FT
  g : GT
structure TabOK (P : Program) (T : Tab) : Prop where
  u : AllU P T.u
  i : AllI P T.i
  f : AllF P T.f
  g : AllG P T.g
  wide : P.follows .mixedOrders = true
/-- the list with its spine told -/
def spine {α : Type} {β : Type} : List α → (List α → Option β) → Option β
  | [], k => k []
  | x :: r, k => spine r (fun r' => k (x :: r'))
theorem spine_eq {α β : Type} : ∀ (l : List α) (k : List α → Option β), spine l k = k l
  | [], k => rfl
  | x :: r, k => by rw [spine, spine_eq r]
def takeE {β : Type} : Nat → List Value → (List Value → Option β) → Option β
  | 0, _, k => k []
  | n + 1, l, k => match l with
    | [] => none
    | x :: r => takeE n r (fun r' => k (x :: r'))
theorem takeE_eq {β : Type} : ∀ (n : Nat) (l : List Value) (k : List Value → Option β) (b : β), takeE n l k = some b → k (l.take n) = some b ∧ n ≤ l.length
  | 0, l, k, b, h => ⟨by simpa [takeE] using h, Nat.zero_le _⟩
  | n + 1, [], k, b, h => by simp [takeE] at h
  | n + 1, x :: r, k, b, h => by
    simp only [takeE] at h
    obtain ⟨h1, h2⟩ := takeE_eq n r _ b h
    exact ⟨by simpa using h1, by simpa using h2⟩
def dropE : Nat → List Value → List Value
  | 0, l => l
  | n + 1, l => match l with
    | [] => []
    | _ :: r => dropE n r
theorem dropE_eq : ∀ (n : Nat) (l : List Value), dropE n l = l.drop n
  | 0, l => rfl
  | n + 1, [] => rfl
  | n + 1, x :: r => by simpa [dropE] using dropE_eq n r
/-- the part of so many cells -/
def cutE (xs : List Value) (off n : Nat) : Option Value := takeE n (dropE off xs) (fun l => some (.agg ⟨l⟩))
theorem cutE_eq {xs : List Value} {off n : Nat} {v : Value} (h : cutE xs off n = some v) : v = .agg ((xs.drop off).take n).toArray ∧ off + n ≤ xs.length ∨ n = 0 ∧ v = .agg #[] := by
  unfold cutE at h
  obtain ⟨h1, h2⟩ := takeE_eq _ _ _ _ h
  rw [dropE_eq] at h1 h2
  simp only [Option.some.injEq] at h1
  by_cases hn : n = 0
  · subst hn; right; exact ⟨rfl, by rw [← h1]; simp⟩
  · left
    refine ⟨h1.symm, ?_⟩
    rw [List.length_drop] at h2
    omega

def litN : Value → Option Nat
  | .int _ (.ofNat n) => some n
  | _ => none
def arithB : BinOp → Bool
  | .add | .sub | .mul => true
  | _ => false
def divB : BinOp → Bool
  | .quo | .rem | .shl | .shr | .and => true
  | _ => false
def isInt : Option TypeDesc → Bool
  | some (.int _) => true
  | _ => false
/-- what is reckoned out of the frame alone, whatever the values are -/
def pureE (T : Tab) (L : Slots) (op : Op) : Option Value :=
  match op with
  | .move x => ev L x
  | .assign x => ev L x
  | .pick _ _ _ => none
  | .nilCheck _ => none
  | .binOp b t x y t2 => match arithB b with
    | true => none
    | false => match divB b with
      | true => none
      | false => pureOp T.u L (.binOp b t x y t2)
  | .convert src dst x => match isInt (und T.u dst) with
    | true => none
    | false => pureOp T.u L (.convert src dst x)
  | .field t x j => match fld T.f t j with
    | some (off, ft) => match ev L x with
      | some (.agg ⟨cs⟩) => match agg T.g ft with
        | some false => nthV cs off
        | some true => match inf T.i ft with
          | some ⟨sz, _, _⟩ => match Nat.blt 0 sz with | true => cutE cs off sz | false => none
          | none => none
        | none => none
      | _ => none
    | none => none
  | .fieldAddr t x j => match fld T.f t j with
    | some (off, ft) => match inf T.i ft with
      | some ⟨sz, _, _⟩ => match Nat.beq sz 0 with
        | false => match ev L x with
          | some (.pointer (some ⟨p, k, none⟩)) => some (.pointer (some ⟨p, Nat.add k off, none⟩))
          | _ => none
        | true => none
      | none => none
    | none => none
  | op => pureOp T.u L op
section
variable {P : Program} {T : Tab} {Q : Exit → Act → World → Prop} {N : Nat} {E : Env} {L : Slots} {S : List It} {ops : Array Oper} {rest : List Oper} {md : Mode} {o : Oper} {d_ : Nat}

theorem pureE_run (ok : TabOK P T) {a : Act} (ha : Fr N L a) (o : Oper) (v : Value) (w : World) (h : pureE T L o.op = some v) : (execOp a.eval o).run P w = .ok (.value v) w := by
  unfold pureE at h
  split at h
  · rename_i x ho; exact pureOp_run ok.u ha o v w (by rw [ho]; exact h)
  · rename_i x ho; exact pureOp_run ok.u ha o v w (by rw [ho]; exact h)
  · cases h
  · cases h
  · rename_i b t x y t2 ho
    split at h
    · cases h
    · split at h
      · cases h
      · exact pureOp_run ok.u ha o v w (by rw [ho]; exact h)
  · rename_i src dst x ho
    split at h
    · cases h
    · exact pureOp_run ok.u ha o v w (by rw [ho]; exact h)
  · rename_i t x j ho
    split at h
    · rename_i off ft hf
      split at h
      · rename_i cs hx
        split at h
        · rename_i hg
          exact Y_field1 ok.f ok.g ho hf hg hx h a w ha rfl
        · rename_i hg
          split at h
          · rename_i sz by_ z_ hz
            split at h
            · rename_i hpos
              have hpos' : 0 < sz := by simpa [Nat.blt_eq] using hpos
              rcases cutE_eq h with ⟨rfl, hl⟩ | ⟨h0, _⟩
              · exact Y_fieldN ok.f ok.g ok.i _ ho hf hg hz hx (by rw [List.drop_take]; congr 1; omega) a w ha rfl
              · omega
            · cases h
          · cases h
        · cases h
      · cases h
    · cases h
  · rename_i t x j ho
    split at h
    · rename_i off ft hf
      split at h
      · rename_i sz by_ z_ hz
        split at h
        · rename_i hnz
          split at h
          · rename_i p k hx
            simp only [Option.some.injEq] at h
            subst h
            have := Y_fieldAddr (P := P) (N := N) (h := w.heap) ok.f ok.i ho hf hz hnz hx a w ha rfl
            have e1 : (⟨p, k, none⟩ : Addr).add off = ⟨p, k + off, none⟩ := by unfold Addr.add; split <;> simp_all
            rw [e1] at this
            exact this
          · cases h
        · cases h
      · cases h
    · cases h
  · exact pureOp_run ok.u ha o v w h
def pureStep (T : Tab) (N : Nat) (ops : Array Oper) (L : Slots) (o : Oper) : Option (Nat × Value) :=
  match o.guard, o.dst with
  | none, some d => match Nat.blt d N with
    | true => match pureE T L o.op with
      | some v => some (d, v)
      | none => none
    | false => none
  | _, _ => none
def pureGo (T : Tab) (N : Nat) (ops : Array Oper) : List Oper → Mode → Slots → Mode × List Oper × Slots
  | [], md, L => (md, [], L)
  | o :: r, md, L => match pureStep T N ops L o with
    | some (d, v) => match md with
      | .plain => pureGo T N ops r .plain ((d, v) :: L)
      | .drawn F l ((i, _) :: ms) => pureGo T N ops r (.drawn F (l.setIfInBounds i true) ms) ((d, v) :: L)
      | .drawn F l [] => (.drawn F l [], o :: r, L)
    | none => match md with
      | .plain => (.plain, o :: r, L)
      | .drawn F l ms => (.drawn F l ms, o :: r, L)
/-- the mode told -/
def Mode.force {β : Type} : Mode → (Mode → β) → β
  | .plain, k => k .plain
  | .drawn F l ((i, b) :: ms), k => k (.drawn F l ((i, b) :: ms))
  | .drawn F l [], k => k (.drawn F l [])
theorem force_eq {β : Type} (md : Mode) (k : Mode → β) : md.force k = k md := by
  cases md with
  | plain => rfl
  | drawn F l ms => cases ms <;> rfl
theorem G_pure1 (ok : TabOK P T) {d : Nat} {v : Value} (h : pureStep T N ops L o = some (d, v)) (k : G P ops Q N E md.next rest ((d, v) :: L) S) : G P ops Q N E md (o :: rest) L S := by
  unfold pureStep at h
  split at h
  · rename_i d' hg hd
    split at h
    · rename_i hn
      split at h
      · rename_i v' hv
        simp only [Option.some.injEq, Prod.mk.injEq] at h
        obtain ⟨rfl, rfl⟩ := h
        exact G_val v' (by unfold wantE; rw [hg]) hd hn (fun a w ha _ => pureE_run ok ha o v' w hv) k
      · cases h
    · cases h
  · cases h
theorem pureGo_ok (ok : TabOK P T) : ∀ (rest : List Oper) (md : Mode) (L : Slots) {md' : Mode} {rest' : List Oper} {L' : Slots}, pureGo T N ops rest md L = (md', rest', L') → G P ops Q N E md' rest' L' S → G P ops Q N E md rest L S
  | [], md, L, md', rest', L', h, k => by
    simp only [pureGo, Prod.mk.injEq] at h
    obtain ⟨rfl, rfl, rfl⟩ := h
    exact k
  | o :: r, md, L, md', rest', L', h, k => by
    simp only [pureGo] at h
    split at h
    · rename_i d v hv
      split at h
      · exact G_pure1 ok hv (pureGo_ok ok r _ _ h k)
      · exact G_pure1 ok hv (pureGo_ok ok r _ _ h k)
      · simp only [Prod.mk.injEq] at h
        obtain ⟨rfl, rfl, rfl⟩ := h
        exact k
    · split at h <;>
      · simp only [Prod.mk.injEq] at h
        obtain ⟨rfl, rfl, rfl⟩ := h
        exact k
theorem G_pures (ok : TabOK P T) {d : Nat} {v : Value} {md' : Mode} {rest' : List Oper} {L' : Slots} (h : pureStep T N ops L o = some (d, v)) (h2 : pureGo T N ops rest md.next ((d, v) :: L) = (md', rest', L')) (k : G P ops Q N E md' rest' L' S) : G P ops Q N E md (o :: rest) L S :=
  G_pure1 ok h (pureGo_ok ok rest _ _ h2 k)
theorem G_nilP (hmd : md.force some = some .plain) (k : Post Q .normal N E L S) : G P ops Q N E md [] L S := by
  rw [force_eq] at hmd
  injection hmd with hmd
  subst hmd
  exact G_nil k
theorem G_nilD {F S' : List It} {l : Array Bool} {ms : List (Nat × Bool)} (hmd : md.force some = some (.drawn F l ms)) (hS : spine (F ++ S) some = some S') (k : Post Q .normal N E L S') : G P ops Q N E md [] L S := by
  rw [force_eq] at hmd
  injection hmd with hmd
  subst hmd
  rw [spine_eq] at hS
  injection hS with hS
  subst hS
  exact G_nil k
/-- with its guard -/
theorem G_pureG (ok : TabOK P T) {v : Value} (hg : wantE ops L o = some true) (hd : o.dst = some d_) (hn : Nat.blt d_ N = true) (hv : pureE T L o.op = some v) (k : G P ops Q N E md.next rest ((d_, v) :: L) S) : G P ops Q N E md (o :: rest) L S :=
  G_val v hg hd hn (fun a w ha _ => pureE_run ok ha o v w hv) k
theorem G_pick (ok : TabOK P T) {c x y : Operand} {v : Value} (ho : o.op = .pick c x y) (hv : pureOp T.u L (.pick c x y) = some v) (hg : wantE ops L o = some true) (hd : o.dst = some d_) (hn : Nat.blt d_ N = true) (k : G P ops Q N E md.next rest ((d_, v) :: L) S) : G P ops Q N E md (o :: rest) L S :=
  G_val v hg hd hn (fun a w ha _ => pureOp_run ok.u ha o v w (by rw [ho]; exact hv)) k
theorem G_y {v : Value} (hg : wantE ops L o = some true) (hd : o.dst = some d_) (hn : Nat.blt d_ N = true) (hy : ∀ w, Inv E (md.src S) w → Y P N L o v w.heap) (k : G P ops Q N E md.next rest ((d_, v) :: L) S) : G P ops Q N E md (o :: rest) L S :=
  G_val v hg hd hn (fun a w ha hi => hy w hi a w ha rfl) k
theorem G_nilC (ok : TabOK P T) {x : Operand} {v : Value} (ho : o.op = .nilCheck x) (hx : ev L x = some v) (hv : nilV v = some v) (hg : wantE ops L o = some true) (hd : o.dst = some d_) (hn : Nat.blt d_ N = true) (k : G P ops Q N E md.next rest ((d_, v) :: L) S) : G P ops Q N E md (o :: rest) L S :=
  G_y hg hd hn (fun w hi => Y_pure ok.u (by rw [ho]; simp only [pureOp, hx, hv])) k

/-! ### whole numbers -/
def inR : IntKind → Int → Prop
  | .i64, r => -9223372036854775808 ≤ r ∧ r ≤ 9223372036854775807
  | .u64, r => 0 ≤ r ∧ r ≤ 18446744073709551615
  | .u8, r => 0 ≤ r ∧ r ≤ 255
  | .i32, r => -2147483648 ≤ r ∧ r ≤ 2147483647
  | .u32, r => 0 ≤ r ∧ r ≤ 4294967295
  | .i8, r => -128 ≤ r ∧ r ≤ 127
  | .i16, r => -32768 ≤ r ∧ r ≤ 32767
  | .u16, r => 0 ≤ r ∧ r ≤ 65535
theorem inR_wrap {k : IntKind} {r : Int} (h : inR k r) : k.wrap r = r := by
  cases k <;> simp only [inR] at h <;> simp only [IntKind.wrap, IntKind.bits, IntKind.signed] <;> simp <;> omega
def arithE (b : BinOp) (m n : Int) : Option Int :=
  match b with
  | .add => some (m + n)
  | .sub => some (m - n)
  | .mul => some (m * n)
  | _ => none
theorem arith_run {b : BinOp} {t t2 : Nat} {x y : Operand} {k : IntKind} {m n r : Int} {a : Act} (ha : Fr N L a) (ho : o.op = .binOp b t x y t2) (hx : ev L x = some (.int k m)) (hy : ev L y = some (.int k n)) (hr : arithE b m n = some r) (w : World) : (execOp a.eval o).run P w = .ok (.value (.int k (k.wrap r))) w := by
  have hb : binV b (.int k m) (.int k n) = some (.int k (k.wrap r)) := by
    unfold arithE at hr
    split at hr <;> first | (cases hr; done) | skip
    all_goals
      simp only [Option.some.injEq] at hr
      subst hr
      simp [binV, binI]
  unfold execOp
  simp only [ho, ha.ev hx, ha.ev hy]
  simp [eqGuard_run b t x y _ _ _ w hb, binV_run b t _ _ _ w hb]
theorem G_arith {b : BinOp} {t t2 : Nat} {x y : Operand} {k : IntKind} {m n r : Int} (ho : o.op = .binOp b t x y t2) (hb : arithB b = true) (hx : ev L x = some (.int k m)) (hy : ev L y = some (.int k n)) (hr : arithE b m n = some r) (hR : inR k r) (hg : wantE ops L o = some true) (hd : o.dst = some d_) (hn : Nat.blt d_ N = true)
    (kk : G P ops Q N E md.next rest ((d_, .int k r) :: L) S) : G P ops Q N E md (o :: rest) L S :=
  G_val (.int k r) hg hd hn (fun a w ha _ => by have := arith_run (P := P) ha ho hx hy hr w; rwa [inR_wrap hR] at this) kk
theorem G_arithW {b : BinOp} {t t2 : Nat} {x y : Operand} {k : IntKind} {m n r : Int} (ho : o.op = .binOp b t x y t2) (hb : arithB b = true) (hx : ev L x = some (.int k m)) (hy : ev L y = some (.int k n)) (hr : arithE b m n = some r) (hg : wantE ops L o = some true) (hd : o.dst = some d_) (hn : Nat.blt d_ N = true)
    (kk : G P ops Q N E md.next rest ((d_, .int k (k.wrap r)) :: L) S) : G P ops Q N E md (o :: rest) L S :=
  G_val _ hg hd hn (fun a w ha _ => arith_run (P := P) ha ho hx hy hr w) kk
theorem G_shl {t t2 : Nat} {x y : Operand} {k k' : IntKind} {a b : Int} (ho : o.op = .binOp .shl t x y t2) (hx : ev L x = some (.int k a)) (hy : ev L y = some (.int k' b)) (h0 : 0 ≤ b) (hg : wantE ops L o = some true) (hd : o.dst = some d_) (hn : Nat.blt d_ N = true)
    (kk : G P ops Q N E md.next rest ((d_, .int k (shlI k a b.toNat)) :: L) S) : G P ops Q N E md (o :: rest) L S := G_y hg hd hn (fun w hi => Y_shl ho hx hy h0) kk
theorem G_shr {t t2 : Nat} {x y : Operand} {k k' : IntKind} {a b : Int} (ho : o.op = .binOp .shr t x y t2) (hx : ev L x = some (.int k a)) (hy : ev L y = some (.int k' b)) (h0 : 0 ≤ b) (hg : wantE ops L o = some true) (hd : o.dst = some d_) (hn : Nat.blt d_ N = true)
    (kk : G P ops Q N E md.next rest ((d_, .int k (shrI k a b.toNat)) :: L) S) : G P ops Q N E md (o :: rest) L S := G_y hg hd hn (fun w hi => Y_shr ho hx hy h0) kk
/-- a conversion between kinds that changes nothing -/
theorem G_conv (ok : TabOK P T) {src dst : Nat} {x : Operand} {k k' : IntKind} {n : Int} (ho : o.op = .convert src dst x) (hs : (und T.u src).isSome = true) (hd' : und T.u dst = some (.int k)) (hx : ev L x = some (.int k' n)) (hR : inR k n) (hg : wantE ops L o = some true) (hd : o.dst = some d_) (hn : Nat.blt d_ N = true)
    (kk : G P ops Q N E md.next rest ((d_, .int k n) :: L) S) : G P ops Q N E md (o :: rest) L S := by
  obtain ⟨s, hs⟩ := Option.isSome_iff_exists.1 hs
  refine G_y hg hd hn (fun w hi => Y_pure ok.u ?_) kk
  rw [ho]
  simp only [pureOp, hs, hd', hx, convV, inR_wrap hR]

/-! by literals -/
theorem bin_run {b : BinOp} {t t2 : Nat} {x y : Operand} {va vb v : Value} {a : Act} (ha : Fr N L a) (ho : o.op = .binOp b t x y t2) (hx : ev L x = some va) (hy : ev L y = some vb) (hb : binV b va vb = some v) (w : World) : (execOp a.eval o).run P w = .ok (.value v) w := by
  unfold execOp
  simp only [ho, ha.ev hx, ha.ev hy]
  simp [eqGuard_run b t x y _ _ _ w hb, binV_run b t _ _ _ w hb]
def pow2 : Nat → Option Nat
  | 0 => some 1 | 1 => some 2 | 2 => some 4 | 3 => some 8 | 4 => some 16 | 5 => some 32 | 6 => some 64 | 7 => some 128 | 8 => some 256 | 9 => some 512 | 10 => some 1024 | 12 => some 4096 | 16 => some 65536 | 20 => some 1048576 | 32 => some 4294967296
  | _ => none
theorem pow2_eq {c m : Nat} (h : pow2 c = some m) : m = 2 ^ c ∧ c ≤ 32 := by
  unfold pow2 at h
  split at h <;> first | (simp only [Option.some.injEq] at h; subst h; exact ⟨by decide, by decide⟩) | cases h
def mask2 : Nat → Option Nat
  | 1 => some 2 | 3 => some 4 | 7 => some 8 | 15 => some 16 | 31 => some 32 | 63 => some 64 | 127 => some 128 | 255 => some 256
  | _ => none
theorem mask2_eq {c m : Nat} (h : mask2 c = some m) : ∃ j, m = 2 ^ j ∧ c = 2 ^ j - 1 ∧ j ≤ 8 := by
  unfold mask2 at h
  split at h <;> first | (simp only [Option.some.injEq] at h; subst h; first | exact ⟨1, by decide⟩ | exact ⟨2, by decide⟩ | exact ⟨3, by decide⟩ | exact ⟨4, by decide⟩ | exact ⟨5, by decide⟩ | exact ⟨6, by decide⟩ | exact ⟨7, by decide⟩ | exact ⟨8, by decide⟩) | cases h
def bits64 : IntKind → Bool
  | .i64 | .u64 | .u8 => true
  | _ => false
theorem and_mask {k : IntKind} (hk : bits64 k = true) {a : Int} (h0 : 0 ≤ a) (h1 : inR k a) {c m : Nat} (hm : mask2 c = some m) : andI k a (c : Int) = a % (m : Int) := by
  obtain ⟨j, rfl, rfl, hj⟩ := mask2_eq hm
  have hp : (2 : Nat) ^ j ≤ 2 ^ 8 := Nat.pow_le_pow_right (by omega) hj
  have hp0 : 0 < (2 : Nat) ^ j := Nat.pow_pos (by omega)
  obtain ⟨x, rfl⟩ := Int.eq_ofNat_of_zero_le h0
  have e1 : (2 : Nat) ^ 8 = 256 := by decide
  have hbits : ∀ b : Nat, 8 ≤ b → x < 2 ^ b → ((BitVec.ofInt b (x : Int)) &&& (BitVec.ofInt b (((2 ^ j - 1 : Nat)) : Int))).toNat = x % 2 ^ j := by
    intro b hb hx
    have e2 : (2 : Nat) ^ j ≤ 2 ^ b := Nat.pow_le_pow_right (by omega) (by omega)
    rw [show BitVec.ofInt b (x : Int) = BitVec.ofNat b x by simp, show BitVec.ofInt b (((2 ^ j - 1 : Nat)) : Int) = BitVec.ofNat b (2 ^ j - 1) by simp, BitVec.toNat_and, BitVec.toNat_ofNat, BitVec.toNat_ofNat, Nat.mod_eq_of_lt hx, Nat.mod_eq_of_lt (by omega : 2 ^ j - 1 < 2 ^ b), Nat.and_two_pow_sub_one_eq_mod]
  have hlt : x % 2 ^ j < 256 := Nat.lt_of_lt_of_le (Nat.mod_lt _ hp0) (by omega)
  have hfin : inR k (((x % 2 ^ j : Nat)) : Int) := by
    cases k <;> simp only [bits64] at hk <;> first | (cases hk; done) | (simp only [inR]; omega)
  show k.wrap _ = _
  have hx : x < 2 ^ k.bits := by
    cases k <;> simp only [bits64] at hk <;> first | (cases hk; done) | skip
    all_goals simp only [inR] at h1
    · rw [show (2 : Nat) ^ IntKind.i64.bits = 18446744073709551616 by decide]; omega
    · rw [show (2 : Nat) ^ IntKind.u8.bits = 256 by decide]; omega
    · rw [show (2 : Nat) ^ IntKind.u64.bits = 18446744073709551616 by decide]; omega
  rw [hbits k.bits (by cases k <;> first | (cases hk; done) | decide) hx, inR_wrap hfin, Int.natCast_emod]
theorem G_andC {t t2 : Nat} {x : Operand} {k k' : IntKind} {a : Int} {c m : Nat} (ho : o.op = .binOp .and t x (.const (.int k' (.ofNat c))) t2) (hx : ev L x = some (.int k a)) (hkk : (decide (k = k') && bits64 k) = true) (hm : mask2 c = some m) (h0 : 0 ≤ a) (hR : inR k a) (hg : wantE ops L o = some true) (hd : o.dst = some d_) (hn : Nat.blt d_ N = true)
    (kk : G P ops Q N E md.next rest ((d_, .int k (a % (m : Int))) :: L) S) : G P ops Q N E md (o :: rest) L S := by
  simp only [Bool.and_eq_true, decide_eq_true_eq] at hkk
  obtain ⟨rfl, hk⟩ := hkk
  refine G_val _ hg hd hn (fun f w ha _ => ?_) kk
  have hb : binV .and (.int k a) (.int k (.ofNat c)) = some (.int k (a % (m : Int))) := by
    simp only [binV, if_true, binI]
    rw [show (Int.ofNat c) = (c : Int) from rfl, and_mask hk h0 hR hm]
  exact bin_run ha ho hx rfl hb w
theorem G_shrC {t t2 : Nat} {x : Operand} {k k' : IntKind} {a : Int} {c m : Nat} (ho : o.op = .binOp .shr t x (.const (.int k' (.ofNat c))) t2) (hx : ev L x = some (.int k a)) (hm : pow2 c = some m) (hb : Nat.ble c k.bits = true) (hg : wantE ops L o = some true) (hd : o.dst = some d_) (hn : Nat.blt d_ N = true)
    (kk : G P ops Q N E md.next rest ((d_, .int k (a / (m : Int))) :: L) S) : G P ops Q N E md (o :: rest) L S := by
  refine G_y hg hd hn (fun w _ => ?_) kk
  have h1 := Y_shr (P := P) (N := N) (h := w.heap) (k' := k') ho hx (show ev L (.const (.int k' (.ofNat c))) = some (.int k' (.ofNat c)) from rfl) (by simp)
  have e : shrI k a (Int.ofNat c).toNat = a / (m : Int) := by
    obtain ⟨rfl, _⟩ := pow2_eq hm
    have hb' := Nat.le_of_ble_eq_true hb
    unfold shrI
    rw [show (Int.ofNat c).toNat = c from rfl, Nat.min_eq_left hb', Int.fdiv_eq_ediv_of_nonneg _ (by have : (0 : Int) ≤ 2 ^ c := Int.pow_nonneg (by omega); exact this)]
    norm_cast
  rw [e] at h1
  exact h1
theorem G_shlC {t t2 : Nat} {x : Operand} {k k' : IntKind} {a : Int} {c m : Nat} (ho : o.op = .binOp .shl t x (.const (.int k' (.ofNat c))) t2) (hx : ev L x = some (.int k a)) (hm : pow2 c = some m) (hb : Nat.ble c k.bits = true) (hR : inR k (a * (m : Int))) (hg : wantE ops L o = some true) (hd : o.dst = some d_) (hn : Nat.blt d_ N = true)
    (kk : G P ops Q N E md.next rest ((d_, .int k (a * (m : Int))) :: L) S) : G P ops Q N E md (o :: rest) L S := by
  refine G_y hg hd hn (fun w _ => ?_) kk
  have h1 := Y_shl (P := P) (N := N) (h := w.heap) (k' := k') ho hx (show ev L (.const (.int k' (.ofNat c))) = some (.int k' (.ofNat c)) from rfl) (by simp)
  have e : shlI k a (Int.ofNat c).toNat = a * (m : Int) := by
    obtain ⟨rfl, _⟩ := pow2_eq hm
    have hb' := Nat.le_of_ble_eq_true hb
    unfold shlI
    rw [show (Int.ofNat c).toNat = c from rfl, Nat.min_eq_left hb']
    have e2 : (a * 2 ^ c : Int) = a * ((2 ^ c : Nat) : Int) := by norm_cast
    rw [e2, inR_wrap hR]
  rw [e] at h1
  exact h1
theorem G_quoC {t t2 : Nat} {x : Operand} {k k' : IntKind} {a : Int} {c : Nat} (ho : o.op = .binOp .quo t x (.const (.int k' (.ofNat (c + 1)))) t2) (hx : ev L x = some (.int k a)) (hkk : decide (k = k') = true) (h0 : 0 ≤ a) (hR : inR k a) (hg : wantE ops L o = some true) (hd : o.dst = some d_) (hn : Nat.blt d_ N = true)
    (kk : G P ops Q N E md.next rest ((d_, .int k (a / ((c + 1 : Nat) : Int))) :: L) S) : G P ops Q N E md (o :: rest) L S := by
  have hkk' : k = k' := by simpa using hkk
  subst hkk'
  refine G_val _ hg hd hn (fun f w ha _ => ?_) kk
  have hb : binV .quo (.int k a) (.int k (.ofNat (c + 1))) = some (.int k (a / ((c + 1 : Nat) : Int))) := by
    simp only [binV, if_true, binI]
    rw [show (Int.ofNat (c + 1)) = ((c + 1 : Nat) : Int) from rfl, Int.tdiv_eq_ediv_of_nonneg h0, inR_wrap]
    have h1 : 0 ≤ a / ((c + 1 : Nat) : Int) := Int.ediv_nonneg h0 (by omega)
    have h2 : a / ((c + 1 : Nat) : Int) ≤ a := Int.ediv_le_self _ h0
    cases k <;> simp only [inR] at hR ⊢ <;> omega
  exact bin_run ha ho hx rfl hb w
theorem G_remC {t t2 : Nat} {x : Operand} {k k' : IntKind} {a : Int} {c : Nat} (ho : o.op = .binOp .rem t x (.const (.int k' (.ofNat (c + 1)))) t2) (hx : ev L x = some (.int k a)) (hkk : decide (k = k') = true) (h0 : 0 ≤ a) (hg : wantE ops L o = some true) (hd : o.dst = some d_) (hn : Nat.blt d_ N = true)
    (kk : G P ops Q N E md.next rest ((d_, .int k (a % ((c + 1 : Nat) : Int))) :: L) S) : G P ops Q N E md (o :: rest) L S := by
  have hkk' : k = k' := by simpa using hkk
  subst hkk'
  refine G_val _ hg hd hn (fun f w ha _ => ?_) kk
  have hb : binV .rem (.int k a) (.int k (.ofNat (c + 1))) = some (.int k (a % ((c + 1 : Nat) : Int))) := by
    simp only [binV, if_true, binI]
    rw [show (Int.ofNat (c + 1)) = ((c + 1 : Nat) : Int) from rfl, Int.tmod_eq_emod_of_nonneg h0]
  exact bin_run ha ho hx rfl hb w
/-- as the model says it -/
theorem G_raw (ok : TabOK P T) {v : Value} (hv : pureOp T.u L o.op = some v) (hg : wantE ops L o = some true) (hd : o.dst = some d_) (hn : Nat.blt d_ N = true) (k : G P ops Q N E md.next rest ((d_, v) :: L) S) : G P ops Q N E md (o :: rest) L S :=
  G_val v hg hd hn (fun a w ha _ => pureOp_run ok.u ha o v w hv) k

/-! ### texts -/
theorem G_sidx (ok : TabOK P T) {t : Nat} {x ix : Operand} {k : IntKind} {i : Int} {y : ByteArray} (ho : o.op = .index t x ix) (ht : und T.u t = some .string) (hx : ev L x = some (.string y)) (hi : ev L ix = some (.int k i)) (h0 : 0 ≤ i) (h1 : i < (y.size : Int)) (hg : wantE ops L o = some true) (hd : o.dst = some d_) (hn : Nat.blt d_ N = true)
    (kk : G P ops Q N E md.next rest ((d_, .int .u8 (bAt y i)) :: L) S) : G P ops Q N E md (o :: rest) L S := G_y hg hd hn (fun w _ => Y_sindex ok.u ho ht hx hi h0 h1) kk
theorem G_sslice (ok : TabOK P T) {t : Nat} {x : Operand} {lo hi : Option Operand} {y : ByteArray} (a b : Int) (ho : o.op = .slice t x lo hi none) (ht : und T.u t = some .string) (hx : ev L x = some (.string y))
    (hlo : (match lo with | none => a = 0 | some l => ev L l = some (.int .i64 a))) (hhi : (match hi with | none => b = (y.size : Int) | some l => ev L l = some (.int .i64 b)))
    (h0 : 0 ≤ a) (h1 : a ≤ b) (h2 : b ≤ (y.size : Int)) (hg : wantE ops L o = some true) (hd : o.dst = some d_) (hn : Nat.blt d_ N = true) (kk : G P ops Q N E md.next rest ((d_, .string (y.extract a.toNat b.toNat)) :: L) S) : G P ops Q N E md (o :: rest) L S := by
  refine G_y hg hd hn (fun w _ => Y_sslice ok.u a.toNat b.toNat ho ht hx ?_ ?_ (by omega) (by omega)) kk
  · cases lo with
    | none => simp only at hlo ⊢; omega
    | some l => simp only at hlo ⊢; rw [hlo, Int.toNat_of_nonneg h0]
  · cases hi with
    | none => simp only at hhi ⊢; omega
    | some l => simp only at hhi ⊢; rw [hhi, Int.toNat_of_nonneg (by omega)]
theorem G_sadd {t t2 : Nat} {x y : Operand} {p q : ByteArray} (ho : o.op = .binOp .add t x y t2) (hx : ev L x = some (.string p)) (hy : ev L y = some (.string q)) (hb : p.size + q.size ≤ 9223372036854775807) (hg : wantE ops L o = some true) (hd : o.dst = some d_) (hn : Nat.blt d_ N = true)
    (kk : G P ops Q N E md.next rest ((d_, .string (p ++ q)) :: L) S) : G P ops Q N E md (o :: rest) L S := G_y hg hd hn (fun w _ => Y_sadd ho hx hy hb) kk
end
end Go.Proofs.Ytdkigndgdkaoiaa.X
