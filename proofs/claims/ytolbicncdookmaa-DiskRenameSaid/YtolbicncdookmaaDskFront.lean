/- DiskFront: of a file that was synced, and to which texts were appended since, its bytes, and a front of these, are left. Conditions: lengths of 64 bits. -/
import Derived.Test.YtolbicncdookmaaDskShown

namespace Go.Proofs.Ytolbicncdookmaa.XDsk
open Go Go.RowKit Go.Maps Go.Sort Go.Shelf Go.Proofs.YtolbicncdookmaaW.PrintWords Go.Proofs.YtolbicncdookmaaW.PrintLast Go.Proofs.YtolbicncdookmaaW.PrintMore Go.Proofs.Ytolbicncdookmaa.Num
set_option linter.unusedVariables false
set_option linter.unusedSimpArgs false
/-! ### the plain law -/
theorem list_app (a b : ByteArray) : (a ++ b).data.toList = a.data.toList ++ b.data.toList := by
  rw [ByteArray.data_append, Array.toList_append]
theorem list_ext (a : ByteArray) (n : Nat) : (a.extract 0 n).data.toList = a.data.toList.take n := by
  rw [ByteArray.data_extract, Array.toList_extract]; simp [List.extract]
theorem size_list (a : ByteArray) : a.size = a.data.toList.length := by rw [Array.length_toList]; rfl
def catB (xs : List ByteArray) : ByteArray := xs.foldl (fun a x => a ++ x) ByteArray.empty
theorem cat_foldl : ∀ (xs : List ByteArray) (a : ByteArray), (xs.foldl (fun a x => a ++ x) a).data.toList = a.data.toList ++ (xs.map (fun x => x.data.toList)).flatten
  | [], a => by simp
  | x :: r, a => by rw [List.foldl_cons, cat_foldl r, list_app, List.map_cons, List.flatten_cons, List.append_assoc]
theorem cat_list (xs : List ByteArray) : (catB xs).data.toList = (xs.map (fun x => x.data.toList)).flatten := by unfold catB; rw [cat_foldl]; rfl
theorem cat_snoc (xs : List ByteArray) (x : ByteArray) : catB (xs ++ [x]) = catB xs ++ x := by unfold catB; rw [List.foldl_append]; rfl
def apps (xs : List ByteArray) : List (ByteArray × Int) := xs.map (fun x => (x, -1))
theorem at_apps : ∀ (xs : List ByteArray) (m : Int) (s : ByteArray), (atL (apps xs) m s).data.toList = s.data.toList ++ ((xs.map (fun x => x.data.toList)).flatten).take (max 0 m).toNat
  | [], m, s => by simp [apps, atL]
  | x :: r, m, s => by
    unfold apps
    rw [List.map_cons]
    by_cases h : m ≤ 0
    · rw [atL_stop h]
      have : (max 0 m).toNat = 0 := by omega
      rw [this, List.take_zero, List.append_nil]
    · rw [atL_add h]
      have ih := at_apps r (m - min m (x.size : Int)) (s ++ x.extract 0 (min m (x.size : Int)).toNat)
      unfold apps at ih
      rw [ih, list_app, list_ext, List.map_cons, List.flatten_cons, List.append_assoc]
      congr 1
      have hx := size_list x
      rw [List.take_append]
      rcases Int.le_total m (x.size : Int) with hm | hm
      · rw [Int.min_eq_left hm]
        have e1 : (max 0 (m - m)).toNat = 0 := by omega
        have e2 : (max 0 m).toNat = m.toNat := by omega
        have e3 : m.toNat - x.data.toList.length = 0 := by omega
        rw [e1, e2, e3]
      · rw [Int.min_eq_right hm]
        have e2 : (max 0 m).toNat = m.toNat := by omega
        have e3 : (max 0 (m - (x.size : Int))).toNat = m.toNat - x.data.toList.length := by omega
        have e4 : ((x.size : Int)).toNat = x.data.toList.length := by omega
        rw [e2, e3, e4, List.take_of_length_le (l := x.data.toList) (Nat.le_refl _), List.take_of_length_le (l := x.data.toList) (i := m.toNat) (by omega)]
def nF : ByteArray := ⟨#[102]⟩
/-- The disk, with one file of that name. -/
def fD (o : Int) (base now : ByteArray) (ch : List (ByteArray × Int)) (bn : Names) (mv : List PM) : PD := { room := 10000, files := [⟨base, now, ch⟩], names := [(nF, 0)], base := bn, moves := mv, ops := o, fail := 0, left := -1 }
theorem getF : getN [(nF, 0)] nF = some 0 := by decide
theorem fD_find (o : Int) (base now : ByteArray) (ch : List (ByteArray × Int)) (bn : Names) (mv : List PM) : findE (fD o base now ch bn mv) nF = 0 := by
  unfold findE fD
  simp only []
  rw [if_neg (by decide), getF]
theorem fD_begin (o : Int) (base now : ByteArray) (ch : List (ByteArray × Int)) (bn : Names) (mv : List PM) : beginS (fD o base now ch bn mv) = fD (o + 1) base now ch bn mv ∧ beginE (fD o base now ch bn mv) = 0 :=
  begin_neg (S := fD o base now ch bn mv) (by show (-1 : Int) < 0; decide)
theorem fD_num (o : Int) (base now : ByteArray) (ch : List (ByteArray × Int)) (bn : Names) (mv : List PM) : numN (fD o base now ch bn mv) nF = 0 := by
  unfold numN fD; simp only []; rw [getF]; rfl
theorem fD_used (o : Int) (base now : ByteArray) (ch : List (ByteArray × Int)) (bn : Names) (mv : List PM) : usedD (fD o base now ch bn mv) = (now.size : Int) := by
  unfold usedD
  show usedN _ [(nF, 0)] = _
  rw [usedN_cons]
  show (now.size : Int) + 0 = _
  omega
theorem fD_fails (o : Int) (base now : ByteArray) (ch : List (ByteArray × Int)) (bn : Names) (mv : List PM) : failsS (fD o base now ch bn mv) = fD o base now ch bn mv ∧ failsB (fD o base now ch bn mv) = false :=
  fails_zero (S := fD o base now ch bn mv) (by show (0 : Int) < 1; decide)
theorem fD_append (o : Int) (base now s : ByteArray) (ch : List (ByteArray × Int)) (bn : Names) (mv : List PM) (h : now.size + s.size ≤ 10000) : appendE (fD o base now ch bn mv) nF s = 0 ∧ appendS (fD o base now ch bn mv) nF s = fD (o + 1) base (now ++ s) (ch ++ [(s, -1)]) bn mv := by
  have h1 : ¬ ((fD o base now ch bn mv).room - usedD (fD o base now ch bn mv) < (s.size : Int)) := by rw [fD_used]; show ¬ ((10000 : Int) - _ < _); omega
  unfold appendE appendS
  rw [fD_find, if_pos rfl, if_pos rfl, if_neg h1, if_neg h1, (fD_fails _ _ _ _ _ _).2, (fD_begin _ _ _ _ _ _).1, (fD_fails _ _ _ _ _ _).1, fD_num]
  exact ⟨rfl, rfl⟩
theorem fD_sync (o : Int) (base now : ByteArray) (ch : List (ByteArray × Int)) (bn : Names) (mv : List PM) : syncE (fD o base now ch bn mv) nF = 0 ∧ syncS (fD o base now ch bn mv) nF = fD (o + 1) now now [] bn mv := by
  unfold syncE syncS
  rw [fD_find, if_pos rfl, if_pos rfl, (fD_fails _ _ _ _ _ _).2, (fD_begin _ _ _ _ _ _).1, (fD_fails _ _ _ _ _ _).1, fD_num]
  exact ⟨rfl, rfl⟩
theorem fD_syncDir (o : Int) (base now : ByteArray) (ch : List (ByteArray × Int)) (bn : Names) (mv : List PM) : syncDirS (fD o base now ch bn mv) = fD (o + 1) base now ch [(nF, 0)] [] := by
  unfold syncDirS
  rw [if_neg (by show ¬ ((-1 : Int) = 0); decide), (fD_begin _ _ _ _ _ _).1]
  rfl
theorem fD_create : createE (newD 10000) nF = 0 ∧ createS (newD 10000) nF = fD 1 ByteArray.empty ByteArray.empty [] [] [⟨ByteArray.empty, nF, 0⟩] := ⟨by decide, rfl⟩
/-- What is left of it. -/
theorem fD_crash (c : Nat) (o : Int) (base now : ByteArray) (xs : List ByteArray) (keep : Int) (g : Good c (fD o base now (apps xs) [(nF, 0)] [])) :
    findE (crashD (fD o base now (apps xs) [(nF, 0)] []) 0 [keep]) nF = 0 ∧ readV (crashD (fD o base now (apps xs) [(nF, 0)] []) 0 [keep]) nF = base ++ (catB xs).extract 0 (max 0 (min keep ((catB xs).size : Int))).toNat := by
  have hk := g.snaps 0 (Nat.zero_le _)
  have e : keptN (fD o base now (apps xs) [(nF, 0)] []) 0 = [(nF, 0)] := rfl
  have h1 := crash_find (ks := [keep]) (dir := 0) hk nF
  have h2 := crash_read (ks := [keep]) (dir := 0) hk nF
  rw [e, getF] at h1 h2
  refine ⟨h1, h2.trans (ba_eq ?_)⟩
  have e2 : fileOf (fD o base now (apps xs) [(nF, 0)] []) 0 = ⟨base, now, apps xs⟩ := rfl
  have e3 : momentsOf [keep] 0 = keep := rfl
  show (atF (fileOf (fD o base now (apps xs) [(nF, 0)] []) 0) (momentsOf [keep] 0)).data.toList = _
  rw [e2, e3]
  unfold atF
  rw [at_apps, list_app, list_ext, cat_list]
  congr 1
  have hs := size_list (catB xs)
  rw [cat_list] at hs
  rcases Int.le_total keep ((catB xs).size : Int) with h | h
  · rw [Int.min_eq_left h]
  · rw [Int.min_eq_right h, List.take_of_length_le (by omega), List.take_of_length_le (by omega)]
end Go.Proofs.Ytolbicncdookmaa.XDsk
