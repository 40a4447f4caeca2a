/-
  What a conversion of bytes to a string yields. Conditions: those that each theorem types.
-/
import Derived.Test.YthjcldkaodmfoaaNum2
import Derived.Laws.IdiomStrings
import Derived.Laws.BytesString
namespace Go.Proofs.Ythjcldkaodmfoaa
open Go.RowKit

/-! ### string(b) -/
def strL (xs : List Int) : List UInt8 := xs.map fun x => UInt8.ofNat x.toNat
def strOf (xs : List Int) : ByteArray := ⟨(strL xs).toArray⟩
theorem strL_len (xs : List Int) : (strL xs).length = xs.length := by simp [strL]
theorem strL_inj {xs ys : List Int} (hx : Dg 256 xs) (hy : Dg 256 ys) (h : strL xs = strL ys) : xs = ys := by
  have hl : xs.length = ys.length := by rw [← strL_len, h, strL_len]
  refine ext_gx hl fun j hj => ?_
  have e : (strL xs)[j]? = (strL ys)[j]? := by rw [h]
  simp only [strL, List.getElem?_map, List.getElem?_eq_getElem hj, List.getElem?_eq_getElem (hl ▸ hj), Option.map_some, Option.some.injEq] at e
  have e2 := congrArg UInt8.toNat e
  have h1 := hx j
  have h2 := hy j
  rw [gx_lt hj] at h1
  rw [gx_lt (hl ▸ hj)] at h2
  rw [gx_lt hj, gx_lt (hl ▸ hj)]
  simp only [UInt8.toNat_ofNat'] at e2
  have hc : ((256 : Nat) : Int) = 256 := rfl
  omega
theorem strOf_inj {xs ys : List Int} (hx : Dg 256 xs) (hy : Dg 256 ys) : strOf xs = strOf ys ↔ xs = ys := by
  constructor
  · intro h
    refine strL_inj hx hy ?_
    have e := congrArg (fun b : ByteArray => b.data.toList) h
    simpa [strOf] using e
  · rintro rfl; rfl
theorem strOf_toList (xs : List Int) : (strOf xs).toList = strL xs := by
  rw [ByteArray.toList_eq]
  simp [strOf]
theorem strOf_beq {xs ys : List Int} (hx : Dg 256 xs) (hy : Dg 256 ys) : ((strOf xs).toList == (strOf ys).toList) = decide (xs = ys) := by
  rw [strOf_toList, strOf_toList]
  by_cases h : xs = ys
  · subst h; simp
  · rw [decide_eq_false h]
    exact beq_eq_false_iff_ne.2 fun e => h (strL_inj hx hy e)
theorem run_string {src dst e : TypeId} {w : World} {v : Value} {xs : List Int} (hs : Try.prog.underlying src = some (.slice e)) (he : Try.prog.underlying e = some (.int .u8)) (hd : Try.prog.underlying dst = some .string)
    (h : SlI w .u8 v xs) (hx : Dg 256 xs) : (convert src dst v).run Try.prog w = .ok (.string (strOf xs)) w := by
  obtain ⟨A, c, rfl, h1, h2, h3, hr⟩ := h
  cases A with
  | none =>
    obtain rfl : c = 0 := h3 rfl
    have hx : xs = [] := List.eq_nil_of_length_eq_zero (by omega)
    subst hx
    rw [run_convert_bytes_string w src dst e none _ _ hs he hd]
    rfl
  | some a =>
    have := run_convert_bytes_back (P := Try.prog) w src dst e a c (strL xs) hs he hd (fun j hj => by
      rw [strL_len] at hj
      obtain ⟨b, o, eA, hc⟩ := hr (by omega)
      simp only [Option.some.injEq] at eA
      subst eA
      rw [Addr.add_lit, hc j hj, gx_lt hj]
      have h1 := hx j
      rw [gx_lt hj] at h1
      have hc : ((256 : Nat) : Int) = 256 := rfl
      have e : (((strL xs)[j]'(by rw [strL_len]; exact hj)).toNat : Int) = xs[j] := by
        simp only [strL, List.getElem_map, UInt8.toNat_ofNat']
        omega
      rw [e])
    rw [strL_len] at this
    exact this

end Go.Proofs.Ythjcldkaodmfoaa
