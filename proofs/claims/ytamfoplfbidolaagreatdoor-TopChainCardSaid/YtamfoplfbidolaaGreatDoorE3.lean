/- The engine, part 3: operations of the model and what they are in the engine. -/
import Derived.Test.YtamfoplfbidolaaGreatDoorE2
namespace Go.Proofs.YtamfoplfbidolaaGreatDoorE
open Go Go.RowKit
set_option linter.unusedVariables false
set_option linter.unusedSimpArgs false

def ofVal1 : Value → Option AV
  | .bool b => some (.bool b)
  | .int k n => some (.int k n)
  | .string s => some (.str s)
  | .pointer none => some .null
  | .slice none 0 0 => some .nils
  | .nilIface => some .nili
  | .nilFunc => some .nilf
  | .map none => some .nilm
  | _ => none
def ofVals : List Value → Option (List AV)
  | [] => some []
  | v :: vs => match ofVal1 v, ofVals vs with
    | some x, some xs => some (x :: xs)
    | _, _ => none
def ofVal : Value → Option AV
  | .agg cs => (ofVals cs.toList).map .agg
  | .tuple cs => (ofVals cs.toList).map .tup
  | .iface t v => (ofVal1 v).map (.ifc t)
  | v => ofVal1 v

theorem ofVal1_sound (m : Mp) : ∀ {v : Value} {x : AV}, ofVal1 v = some x → VR m x v := by
  intro v x h
  unfold ofVal1 at h
  split at h <;> first | (cases h; simp only [VR]) | cases h
theorem ofVals_sound (m : Mp) : ∀ {vs : List Value} {xs : List AV}, ofVals vs = some xs → VRs m xs vs
  | [], xs, h => by cases h; exact VRs.nil
  | v :: vs, xs, h => by
    simp only [ofVals] at h
    split at h
    · rename_i x xs' h1 h2; cases h
      exact VRs.cons_iff.2 ⟨ofVal1_sound m h1, ofVals_sound m h2⟩
    · cases h
theorem ofVal_sound (m : Mp) {v : Value} {x : AV} (h : ofVal v = some x) : VR m x v := by
  unfold ofVal at h
  split at h
  · rename_i cs
    obtain ⟨xs, hx, rfl⟩ := Option.map_eq_some_iff.1 h
    simp only [VR]; exact ⟨cs.toList, by simp, ofVals_sound m hx⟩
  · rename_i cs
    obtain ⟨xs, hx, rfl⟩ := Option.map_eq_some_iff.1 h
    simp only [VR]; exact ⟨cs.toList, by simp, ofVals_sound m hx⟩
  · rename_i t v
    obtain ⟨x, hx, rfl⟩ := Option.map_eq_some_iff.1 h
    simp only [VR]; exact ⟨v, rfl, ofVal1_sound m hx⟩
  · exact ofVal1_sound m h

def cX : Operand → Option X
  | .tmp t => some (.t t)
  | .const v => (ofVal v).map .c
  | .func f => match Nat.beq f 4294967295 with
    | true => none
    | false => some (.c (.fn f [] []))
  | .global _ => none

theorem VRs.getD {m : Mp} {xs : List AV} {ys : List Value} (h : VRs m xs ys) (i : Nat) : VR m (xs.getD i (.tup [])) (ys.getD i undef) := by
  cases e : xs[i]? with
  | none =>
    have e' : ys[i]? = none := by
      rw [List.getElem?_eq_none_iff] at e ⊢; rw [h.length]; exact e
    rw [List.getD_eq_getElem?_getD, List.getD_eq_getElem?_getD, e, e']
    simp only [Option.getD, VR]; exact ⟨[], rfl, VRs.nil⟩
  | some x =>
    obtain ⟨y, hy, hv⟩ := h.get e
    rw [List.getD_eq_getElem?_getD, List.getD_eq_getElem?_getD, e, hy]
    exact hv

theorem cX_sound {m : Mp} {ts : List AV} {a : Act} (ht : VRs m ts a.tmps.toList) {o : Operand} {x : X} (h : cX o = some x) : VR m (x.ev ts) (a.eval o) := by
  unfold cX at h
  split at h
  · cases h
    simp only [X.ev, Act.eval]
    have := ht.getD ‹Nat›
    simpa [Array.getD_eq_getD_getElem?, List.getD_eq_getElem?_getD] using this
  · obtain ⟨v, hv, rfl⟩ := Option.map_eq_some_iff.1 h
    exact ofVal_sound m hv
  · split at h <;> first | (cases h; done) | skip
    rename_i hmk
    cases h
    simp only [X.ev, Act.eval, VR]
    exact ⟨[], [], by rw [fnOf_f hmk], VRs.nil, VRs.nil⟩
  · cases h

def cXs : List Operand → Option (List X)
  | [] => some []
  | o :: os => match cX o, cXs os with
    | some x, some xs => some (x :: xs)
    | _, _ => none
theorem cXs_sound {m : Mp} {ts : List AV} {a : Act} (ht : VRs m ts a.tmps.toList) : ∀ {os : List Operand} {xs : List X}, cXs os = some xs → VRs m (xs.map (·.ev ts)) (os.map a.eval)
  | [], xs, h => by cases h; exact VRs.nil
  | o :: os, xs, h => by
    simp only [cXs] at h
    split at h
    · rename_i x xs' h1 h2; cases h
      exact VRs.cons_iff.2 ⟨cX_sound ht h1, cXs_sound ht h2⟩
    · cases h
def cXo : Option Operand → Option (Option X)
  | none => some none
  | some o => (cX o).map some

/-! ### Types -/
def szOf (P : Program) (t : TypeId) : Option Nat := (P.info? t).map (·.size)
def byOf (P : Program) (t : TypeId) : Option Nat := (P.info? t).map (·.bytes)
def zeroOf (P : Program) (t : TypeId) : Option (List AV) := (P.info? t).bind fun i => i.zero.bind fun z => ofVals z.cells.toList
def nOf (P : Program) (t : TypeId) : Option (Option Nat) :=
  match P.underlying t with
  | some (.struct _) | some (.array _ _) => (szOf P t).map some
  | some _ => some none
  | none => none
def fieldOf (P : Program) (t : TypeId) (f : Nat) : Option Field :=
  match P.underlying t with
  | some (.struct fs) => fs[f]?
  | _ => none

/-- How values of a type are compared; only kinds that are taken. -/
def eqkF (P : Program) (rec : TypeId → Option EqK) : List Field → Option (List (Nat × Nat × EqK))
  | [] => some []
  | f :: fs => match f.name == "_", P.underlying f.type, szOf P f.type, eqkF P rec fs with
    | false, some d, some n, some r => match d with
      | .bool => some ((f.offset, n, .b) :: r)
      | .int _ => some ((f.offset, n, .i) :: r)
      | .string => some ((f.offset, n, .s) :: r)
      | .struct _ => match rec f.type with
        | some (.st k) => some ((f.offset, n, .st k) :: r)
        | _ => none
      | _ => none
    | _, _, _, _ => none
def eqkOf (P : Program) : Nat → TypeId → Option EqK
  | 0, _ => none
  | d + 1, t => match P.underlying t with
    | some .bool => some .b
    | some (.int _) => some .i
    | some .string => some .s
    | some (.pointer _) => some .p
    | some (.slice _) => some .l
    | some (.interface _) => some .f
    | some (.struct fs) => match P.stoodInHeld t with
      | true => none
      | false => (eqkF P (eqkOf P d) fs.toList).map .st
    | some (.array len e) => match eqkOf P d e, szOf P e with
      | some k, some n => some (.st ((List.range len).map fun i => (i * n, n, k)))
      | _, _ => none
    | _ => none
def isAggT (P : Program) (t : TypeId) : Bool := match P.underlying t with
  | some (.struct _) => true
  | some (.array _ _) => true
  | _ => false
/-- A type that may be a map's key here. -/
def keyK : EqK → Bool
  | .b | .i | .s | .st _ => true
  | _ => false
/-- A value that nothing was put into. -/
def zeroAV (P : Program) (t : TypeId) : Option AV := (P.info? t).bind fun i => i.zero.bind ofVal
/-- The method of a name that a type has; some: it is that of a pointer that lies so far behind. -/
def rowOf (P : Program) (name : String) (t : TypeId) : Option (Option Nat × FuncId) := match P.info? t with
  | none => none
  | some i => match i.methods.find? (fun m => m.name == name) with
    | none => none
    | some m => match m.func with
      | none => none
      | some (f, pr) => match m.path.toList with
        | [] => match P.underlying t, pr with
          | some (.pointer _), true => some (none, f)
          | some (.struct _), false => some (none, f)
          | some (.int _), false => some (none, f)
          | some .string, false => some (none, f)
          | some (.slice _), false => some (none, f)
          | _, _ => none
        | [s] => match s.deref, pr, P.underlying s.struct with
          | true, true, some (.struct fs) => match fs[s.index]? with
            | some fl => match P.underlying fl.type, szOf P fl.type with
              | some (.pointer _), some 1 => some (some fl.offset, f)
              | _, _ => none
            | none => none
          | _, _, _ => none
        | _ => none
def rowsOf (P : Program) (name : String) : List (TypeId × Option Nat × FuncId) := (List.range P.types.size).filterMap fun t => (rowOf P name t).map fun r => (t, r)

def isInt (P : Program) (t : TypeId) : Bool := match P.underlying t with
  | some (.int _) => true
  | _ => false
def isStr (P : Program) (t : TypeId) : Bool := match P.underlying t with
  | some .string => true
  | _ => false

def cParts (place : Nat → Option (Nat × Nat)) : List (Nat × Operand) → Option (List (Nat × Nat × X))
  | [] => some []
  | (i, o) :: r => match place i, cX o, cParts place r with
    | some (f, n), some x, some xs => some ((f, n, x) :: xs)
    | _, _, _ => none

def cntA : List X → Option AOp
  | [] => none
  | x :: xs => match xs with
    | [] => none
    | y :: ys => match ys with
      | [] => some (.cnt x y)
      | _ :: _ => none
theorem cntA_some : ∀ {xs : List X} {ao : AOp}, cntA xs = some ao → ∃ x y, xs = [x, y] ∧ ao = .cnt x y
  | [], ao, h => by cases h
  | [x], ao, h => by cases h
  | [x, y], ao, h => by cases h; exact ⟨x, y, rfl, rfl⟩
  | x :: y :: z :: l, ao, h => by cases h
def comp0 (P : Program) (o : Oper) : Option AOp :=
  match o.op with
  | .move x | .assign x => (cX x).map .mov
  | .pick c a b => match cX c, cX a, cX b with
    | some c, some a, some b => some (.pick c a b)
    | _, _, _ => none
  | .alloc t => match zeroOf P t, szOf P t with
    | some z, some n => some (.alloc t n z)
    | _, _ => none
  | .box t x => match cX x, szOf P t with
    | some x, some n => some (.box t n x)
    | _, _ => none
  | .build t ps => match zeroOf P t, P.underlying t with
    | some z, some (.struct fs) => match fs.toList.all fun f => (szOf P f.type).isSome with
      | true => (cParts (fun i => (fs[i]?).bind fun f => (szOf P f.type).map fun n => (f.offset, n)) ps.toList).map (.build z)
      | false => none
    | some z, some (.array _ e) => match szOf P e with
      | some n => (cParts (fun i => some (i * n, n)) ps.toList).map (.build z)
      | none => none
    | _, _ => none
  | .buildSlice t len ps => match P.underlying t with
    | some (.slice e) => match zeroOf P e, szOf P e with
      | some z, some n => match Nat.beq z.length n && Nat.ble (len * n) (2 ^ 24) with
        | true => (cParts (fun i => some (i * n, n)) ps.toList).map (.bslice e n len z)
        | false => none
      | _, _ => none
    | _ => none
  | .load t a => match nOf P t, cX a with
    | some n, some x => some (.load n x)
    | _, _ => none
  | .store t a v => match szOf P t, cX a, cX v with
    | some n, some a, some v => some (.store n a v)
    | _, _, _ => none
  | .nilCheck x => match P.underlying o.type with
    | some (.func _ _ _) => (cX x).map (.nilq (rowsOf P "Put"))
    | _ => (cX x).map .nilc
  | .binOp op t x y _ => match cX x, cX y with
    | some x, some y => match op with
      | .eql | .neq => match isInt P t || isStr P t with
        | true => some (.bin op x y)
        | false => match P.eqGuardType P.depth t && isAggT P t with
          | true => none
          | false => (eqkOf P 8 t).map fun k => .eq (match op with | .neq => true | _ => false) k x y
      | _ => some (.bin op x y)
    | _, _ => none
  | .unOp op _ x => match cX x with
    | some x => match op with
      | .not => some (.not x)
      | op => some (.un op x)
    | none => none
  | .convert s d x => match isInt P s, P.underlying d, cX x with
    | true, some (.int k), some x => some (.conv k x)
    | true, some .string, some x => some (.i2s x)
    | false, some .string, some x => match P.underlying s with
      | some (.slice e) => match P.underlying e with
        | some (.int .u8) => some (.b2s x)
        | _ => none
      | _ => none
    | _, _, _ => none
  | .makeInterface t x => match P.underlying t, cX x with
    | some (.interface _), _ => none
    | some _, some x => some (.mki t x)
    | _, _ => none
  | .makeFunc fn first cs => match cXs first.toList, cXs cs.toList with
    | some fs, some xs => match fn with
      | .func f => match Nat.beq f 4294967295 with
        | true => none
        | false => some (.mkf f fs xs)
      | .method name => match name == "Put" with
        | true => some (.mkf 4294967295 fs xs)
        | false => none
      | _ => none
    | _, _ => none
  | .makeMap t r => match P.underlying t, r with
    | some (.map _ _), none => some .mkm
    | _, _ => none
  | .lookup t x i ok => match P.underlying t, cX x, cX i with
    | some (.map k e), some x, some i => match eqkOf P 8 k, zeroAV P e with
      | some q, some z => match keyK q with
        | true => some (.mget q z ok x i)
        | false => none
      | _, _ => none
    | _, _, _ => none
  | .mapUpdate t x i v | .insert t x i v => match P.underlying t, cX x, cX i, cX v with
    | some (.map k _), some x, some i, some v => match eqkOf P 8 k with
      | some q => match keyK q with
        | true => some (.mput q x i v)
        | false => none
      | none => none
    | _, _, _, _ => none
  | .mapEntry t x i => match P.underlying t, cX x, cX i with
    | some (.map k e), some x, some i => match eqkOf P 8 k, zeroAV P e with
      | some q, some z => match keyK q with
        | true => some (.ment q z x i)
        | false => none
      | _, _ => none
    | _, _, _ => none
  | .entryStore _ x s v => match cX x, cX s, cX v with
    | some x, some s, some v => some (.mest x s v)
    | _, _, _ => none
  | .fieldAddr s x f => match fieldOf P s f, cX x with
    | some f, some x => match szOf P f.type with
      | some (_ + 1) => some (.faddr f.offset x)
      | _ => none
    | _, _ => none
  | .field t x f => match fieldOf P t f, cX x with
    | some f, some x => (nOf P f.type).map fun n => .fld f.offset n x
    | _, _ => none
  | .indexAddr t x i => match cX x, cX i with
    | some x, some i => match P.underlying t with
      | some (.array len e) => (szOf P e).map fun n => .iarr len n x i
      | some (.slice e) => (szOf P e).map fun n => .islc n x i
      | _ => none
    | _, _ => none
  | .index t x i => match cX x, cX i with
    | some x, some i => match P.underlying t with
      | some (.array len e) => match szOf P e, nOf P e with
        | some n, some k => some (.ixa len n k x i)
        | _, _ => none
      | some .string => some (.ixs x i)
      | _ => none
    | _, _ => none
  | .extract x i => (cX x).map fun x => .ext x i
  | .makeSlice t l c => match cX l, cX c, P.underlying t with
    | some l, some c, some (.slice e) => match zeroOf P e, szOf P e, byOf P e with
      | some z, some n, some b => match Nat.beq z.length n with
        | true => some (.mksl e n b z l c)
        | false => none
      | _, _, _ => none
    | _, _, _ => none
  | .slice t x lo hi mx => match cX x, cXo lo, cXo hi, cXo mx with
    | some x, some lo, some hi, some mx => match mx.isSome && !hi.isSome with
      | true => none
      | false => match P.underlying t with
        | some (.array len e) => (szOf P e).map fun n => .slarr len n x lo hi mx
        | some (.slice e) => (szOf P e).map fun n => .slice n x lo hi mx
        | some .string => match mx with
          | none => some (.slstr x lo hi)
          | some _ => none
        | _ => none
    | _, _, _, _ => none
  | .call c => match cXs c.args.toList with
    | none => none
    | some xs => match c.callee with
      | .value (.func f) => match P.funcs[f]? with
        | some fn => match !(fn.name == "runtime.NumGoroutine") && fn.body.isSome with
          | true => some (.call f xs)
          | false => match fn.body.isNone && fn.name == "internal/bytealg.CountString" && fn.origin == "" with
            | true => cntA xs
            | false => none
        | none => none
      | .value x => (cX x).map fun x => .callv x xs
      | .invoke x name => (cX x).map fun x => .inv (rowsOf P name) x xs
      | .builtin b => match b, xs with
        | .len, [x] => match c.argTypes[0]? with
          | some t => match P.underlying t with
            | some .string => some (.len true x)
            | some (.slice _) => some (.len false x)
            | some (.map _ _) => some (.mlen x)
            | some (.array n _) => some (.lenc n)
            | some (.pointer a) => match P.underlying a with
              | some (.array n _) => some (.lenc n)
              | _ => none
            | _ => none
          | none => none
        | .cap, [x] => match c.argTypes[0]? with
          | some t => match P.underlying t with
            | some (.slice _) => some (.capn x)
            | some (.array n _) => some (.lenc n)
            | _ => none
          | none => none
        | .delete, [x, i] => match c.argTypes[0]? with
          | some t => match P.underlying t with
            | some (.map k _) => match eqkOf P 8 k with
              | some q => match keyK q with
                | true => some (.mdel q x i)
                | false => none
              | none => none
            | _ => none
          | none => none
        | .min, xs => some (.mn xs)
        | .max, xs => some (.mx xs)
        | .append, [s, x] => match c.argTypes[0]?, c.argTypes[1]? with
          | some t, some u => match P.underlying t, P.underlying u with
            | some (.slice e), some d => match zeroOf P e, szOf P e, byOf P e with
              | some z, some n, some b => match Nat.blt 0 n && Nat.beq z.length n with
                | true => match d with
                  | .slice _ => some (.app e n b s x)
                  | .int _ => some (.appz e n b z s x)
                  | .string => match Nat.beq n 1 with
                    | true => some (.app e n b s x)
                    | false => none
                  | _ => none
                | false => none
              | _, _, _ => none
            | _, _ => none
          | _, _ => none
        | .copy, [d, s] => match c.argTypes[0]? with
          | some t => match P.underlying t with
            | some (.slice e) => (szOf P e).map fun n => .copy n d s
            | _ => none
          | none => none
        | _, _ => none
  | _ => none

/-- What is not known is left, and fails where it is reached. -/
def comp (P : Program) (o : Oper) : Option AOp := some ((comp0 P o).getD .bad)
end Go.Proofs.YtamfoplfbidolaaGreatDoorE
