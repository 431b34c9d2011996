/- label.Name of the given program: by the kit's contracts of strings.IndexByte and strings.Trim. Conditions: those that each theorem names. -/
import Derived.Test.YtmbigoeldobaiaaDoorXMrkP1
import Derived.Test.YtmbigoeldobaiaaDoorNumLib
import Derived.WalkKit
import Derived.Ground.NamesProg
import Derived.Shelf.Lay
import Derived.Shelf.Strings.SlTrimAscii
import Derived.Shelf.Small.Strs
namespace Go.Proofs
open Go.Shelf
shelf_lay Lays.n160 Nm 160 at Tryd as Tryd.lays160
shelf_lay Lays.n137 Nm 137 at Tryd as Tryd.lays137
end Go.Proofs
namespace Go.Proofs.YtmbigoeldobaiaaDoor.XMrk
open Go Go.RowKit Go.Shelf Go.Lib Go.Proofs.YtmbigoeldobaiaaDoorW.PrintWords Go.Proofs.YtmbigoeldobaiaaDoorW.PrintLast Go.Proofs.YtmbigoeldobaiaaDoorW.PrintMore Go.Proofs.YtmbigoeldobaiaaDoor.Num
set_option linter.unusedVariables false
set_option linter.unusedSimpArgs false

def letters : List UInt8 := [97, 98, 99, 100, 101, 102, 103, 104, 105, 106, 107, 108, 109, 110, 111, 112, 113, 114, 115, 116, 117, 118, 119, 120, 121, 122, 95]
def laters : List UInt8 := letters ++ [48, 49, 50, 51, 52, 53, 54, 55, 56, 57]
def nameOk (l : List UInt8) : Bool := decide (l.length ≤ 20) && (match l with | [] => false | c :: _ => letters.contains c) && l.all (laters.contains ·)
theorem index_iff : ∀ (l : List UInt8) (c : UInt8), 0 ≤ indexByte l c ↔ l.contains c = true
 | [], c => by simp [indexByte]
 | x :: l, c => by
  have ih := index_iff l c
  have hge := indexByte_ge l c
  have e : indexByte (x :: l) c = if x == c then 0 else if indexByte l c == -1 then -1 else indexByte l c + 1 := rfl
  rw [e, List.contains_cons]
  by_cases hx : (x == c) = true
  ·rw [if_pos hx]
   have e : x = c := by simpa using hx
   subst e
   simp
  ·rw [if_neg hx]
   have e : (c == x) = false := by
    rw [beq_eq_false_iff_ne]; intro e; subst e; exact hx (by simp)
   rw [e, Bool.false_or, ← ih]
   by_cases h1 : indexByte l c = -1
   ·rw [h1]; decide
   ·have hb : (indexByte l c == -1) = false := by rw [beq_eq_false_iff_ne]; exact h1
    rw [hb, if_neg (by decide)]
    omega
theorem index_in (l : List UInt8) (c : UInt8) : decide (0 ≤ indexByte l c) = l.contains c := by
 have h := index_iff l c
 cases hb : l.contains c
 ·rw [decide_eq_false_iff_not, h, hb]; decide
 ·rw [decide_eq_true_eq, h, hb]
theorem dropW_nil {α : Type} (p : α → Bool) : ∀ l : List α, l.dropWhile p = [] ↔ l.all p = true
 | [] => by simp
 | x :: l => by
  rw [List.dropWhile_cons, List.all_cons]
  by_cases h : p x = true
  ·rw [if_pos h, dropW_nil p l, h, Bool.true_and]
  ·rw [if_neg h]
   have : p x = false := by simpa using h
   rw [this, Bool.false_and]
   simp
theorem dropW_all {α : Type} (p : α → Bool) : ∀ l : List α, (l.dropWhile p).all p = l.all p
 | [] => rfl
 | x :: l => by
  rw [List.dropWhile_cons]
  by_cases h : p x = true
  ·rw [if_pos h, dropW_all p l, List.all_cons, h, Bool.true_and]
  ·rw [if_neg h]
theorem trim_nil (l cs : List UInt8) : (trimS l cs == []) = l.all (cs.contains ·) := by
 have h : trimS l cs = [] ↔ l.all (cs.contains ·) = true := by
  unfold trimS trimLeftS trimRightS
  rw [dropW_nil, List.all_reverse, dropW_all, List.all_reverse]
 cases hb : l.all (cs.contains ·)
 ·rw [beq_eq_false_iff_ne]; intro e; rw [h.1 e] at hb; cases hb
 ·rw [beq_iff_eq]; exact h.2 hb
def label_Name.f (a0 : ByteArray) : Option Bool := some (nameOk (ls a0))
set_option maxHeartbeats 8000000 in
set_option maxRecDepth 100000 in
theorem label_Name.calls (a0 : ByteArray) (r : Bool) (w : World) (h : label_Name.f a0 = some r) :
  Calls Tryd.prog 48 #[.string a0] w fun e w' => e = .returned (.bool r) ∧ Below w.heap.size w w' := by
 obtain rfl := Option.some.inj h
 clear h
 obtain ⟨l, rfl⟩ := bs_list a0
 have hsz := bs_size l
 have htl := bs_toList l
 have hlet : (⟨#[97, 98, 99, 100, 101, 102, 103, 104, 105, 106, 107, 108, 109, 110, 111, 112, 113, 114, 115, 116, 117, 118, 119, 120, 121, 122, 95]⟩ : ByteArray).data.toList = letters := rfl
 match l, hsz, htl with
 | [], _, _ =>
  go_enter Tryd.func48, Tryd.ntmps48
  go_wp2
  go_ret
  exact ⟨rfl, Below.refl _ _⟩
 | c :: r, hsz, htl =>
  have hne : ((bs (c :: r)).toList == ([] : List UInt8)) = false := by rw [htl]; rfl
  have hne2 : ((bs (c :: r)).toList != ([] : List UInt8)) = true := by rw [htl]; rfl
  have hne3 : ((c :: r) != ([] : List UInt8)) = true := rfl
  by_cases h20 : (c :: r).length ≤ 20
  ·have d20 : decide (((c :: r).length : Int) ≤ 20) = true := decide_eq_true (by omega)
   have d20c : decide ((r.length : Int) + 1 ≤ 20) = true := decide_eq_true (by rw [List.length_cons] at h20; omega)
   have d20d : ((r.length : Int) + 1 ≤ 20) = True := eq_true (by rw [List.length_cons] at h20; omega)
   have hc0 : (c.toNat : Int).toNat.toUInt8 = c := by simp
   have hi := Any.strings_IndexByte Tryd.lays137 ⟨#[97, 98, 99, 100, 101, 102, 103, 104, 105, 106, 107, 108, 109, 110, 111, 112, 113, 114, 115, 116, 117, 118, 119, 120, 121, 122, 95]⟩ (c.toNat : Int) w
   rw [hlet, hc0] at hi
   change Calls Tryd.prog 55 _ _ _ at hi
   have hin := index_in letters c
   have hx0 : ((bs (c :: r))[0]'(by rw [hsz]; simp)).toNat = c.toNat := by simp [bs, ByteArray.getElem_eq_getElem_data]
   generalize indexByte letters c = z at hi hin
   have ht := Any.strings_Trim_laid Tryd.lays160 (by kernel_rfl) (bs (c :: r)) ⟨laters.toArray⟩ w (by rw [hsz]; omega) (by decide) (ascii_of_all (by decide))
   change Calls Tryd.prog 56 _ _ (fun e w' => e = .returned (.string (bs (trimS (c :: r) laters))) ∧ Below w.heap.size w w') at ht
   have htr := trim_nil (c :: r) laters
   have htl2 := bs_toList (trimS (c :: r) laters)
   have hok : nameOk (c :: r) = (letters.contains c && (c :: r).all (laters.contains ·)) := by
    unfold nameOk; rw [decide_eq_true h20, Bool.true_and]
   generalize hT : trimS (c :: r) laters = T at ht htr htl2
   have HOK := Aside0.mk hok
   have HI := Aside0.mk hi
   have HT := Aside0.mk ht
   have HTR := Aside0.mk htr
   have HIN := Aside0.mk hin
   clear hok hi ht htr hT hin
   cases hb : letters.contains c
   ·have hd : decide (0 ≤ z) = false := by rw [HIN.out, hb]
    go_enter Tryd.func48, Tryd.ntmps48
    go_wp2_with (first | (go_at_call 55; refine HI.out.mono ?_; rintro e w' ⟨rfl, rfl⟩))
    go_ret
    exact ⟨by rw [ls_bs, HOK.out, hb, Bool.false_and]; rfl, Below.refl _ _⟩
   ·have hd : decide (0 ≤ z) = true := by rw [HIN.out, hb]
    go_enter Tryd.func48, Tryd.ntmps48
    go_wp2_with (first | (go_at_call 55; refine HI.out.mono ?_; rintro e w' ⟨rfl, rfl⟩) | (go_at_call 56; refine HT.out.mono ?_; rintro e w' ⟨rfl, hB⟩))
    go_ret
    have e : T.isEmpty = (T == ([] : List UInt8)) := by cases T <;> rfl
    exact ⟨by rw [ls_bs, HOK.out, hb, Bool.true_and, ← HTR.out, ← e]; rfl, hB⟩
  ·have d20 : decide (((c :: r).length : Int) ≤ 20) = false := decide_eq_false (by omega)
   have d20c : decide ((r.length : Int) + 1 ≤ 20) = false := decide_eq_false (by rw [List.length_cons] at h20; omega)
   have d20d : ((r.length : Int) + 1 ≤ 20) = False := eq_false (by rw [List.length_cons] at h20; omega)
   have hok : nameOk (c :: r) = false := by unfold nameOk; rw [decide_eq_false h20, Bool.false_and, Bool.false_and]
   have HOK := Aside0.mk hok
   clear hok
   go_enter Tryd.func48, Tryd.ntmps48
   go_wp2
   go_ret
   exact ⟨by rw [ls_bs, HOK.out]; rfl, Below.refl _ _⟩
end Go.Proofs.YtmbigoeldobaiaaDoor.XMrk
