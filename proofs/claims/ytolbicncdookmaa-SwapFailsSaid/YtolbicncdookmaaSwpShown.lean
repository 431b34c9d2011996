/- Chapter 8's example holds. Conditions: none. -/
import Derived.Test.YtolbicncdookmaaSwpFresh
import Derived.Test.YtolbicncdookmaaSwpWrite

namespace Go.Proofs.Ytolbicncdookmaa.XDsk
open Go Go.RowKit Go.Maps Go.Sort Go.Shelf Go.Proofs.YtolbicncdookmaaW.PrintWords Go.Proofs.YtolbicncdookmaaW.PrintLast Go.Proofs.YtolbicncdookmaaW.PrintMore Go.Proofs.Ytolbicncdookmaa.Num
set_option linter.unusedVariables false
set_option linter.unusedSimpArgs false
theorem toList_data (s : ByteArray) : s.toList = s.data.toList := by
  obtain ⟨l, rfl⟩ := bs_list s
  rw [bs_toList]; rfl
theorem tilde_is (s : ByteArray) : tildeB s = ((s.extract (s.size - 1) s.size).data.toList == [126]) := by
  unfold tildeB; rw [toList_data, toList_data]
theorem tmp_list (nm : ByteArray) : (tmpN nm).data.toList = nm.data.toList ++ [126] := by
  unfold tmpN
  rw [ByteArray.data_append, Array.toList_append]
variable {w0 W W' : World} {b c i : Nat} {S S' : PD} {name s : ByteArray} {Ts : List Thing}
def nCk : ByteArray := ⟨#[99, 107]⟩
def nCkT : ByteArray := ⟨#[99, 107, 126]⟩
def xX : ByteArray := ⟨#[120]⟩
theorem ck_tmp : tmpN nCk = nCkT := by
  unfold tmpN
  apply ByteArray.ext
  rw [ByteArray.data_append]
  rfl
theorem ck_fits : fitsB nCk = true := by unfold fitsB; rw [tilde_is]; decide
def ckN : Names := [(nCk, 0)]
def ckD (room o : Int) (x : ByteArray) : PD := pl room [⟨x, x, []⟩] ckN ckN [] o
theorem ck_write (room : Int) (x : ByteArray) (h0 : 0 ≤ room) (hr : (x.size : Int) ≤ room) (hm : room ≤ 9223372036854775807) : writeE (newD room) nCk x = 0 ∧ writeS (newD room) nCk x = ckD room 6 x := by
  have e : newD room = pl room [] [] [] [] 0 := by unfold newD pl; rw [Int.max_eq_left h0]
  have g := Good.new (room := room) hm
  rw [e] at g ⊢
  have h := write_pl (x := x) g ck_fits (by rw [ck_tmp]; decide) (by decide) (by rw [ck_tmp]; decide) (by decide) (by show (0 : Int) + _ ≤ _; omega)
  refine ⟨h.1, h.2.trans ?_⟩
  rw [ck_tmp]
  have e2 : swN [] nCkT nCk (([] : List PF).length : Int) = ckN := by decide
  rw [e2]
  rfl
theorem at_ops (h : At w0 Ts i b S W) : Calls Try.prog 28 #[.pointer (some ⟨b, 0, none⟩)] W fun e w' => e = .returned (.int .i64 S.ops) ∧ W = w' := lot_ops h.2 h.place
theorem at_read (h : At w0 Ts i b S W) (g : Good c S) (hc : c ≤ 100000) (hn : name.size ≤ 1000000) :
    Calls Try.prog 17 #[.pointer (some ⟨b, 0, none⟩), .string name] W fun e w' => e = .returned (.tuple #[.string (readV S name), .int .i64 (findE S name)]) ∧ W = w' := lot_read h.2 h.place g hc hn
theorem at_used (h : At w0 Ts i b S W) (g : Good c S) (hc : c ≤ 100000) : Calls Try.prog 19 #[.pointer (some ⟨b, 0, none⟩)] W fun e w' => e = .returned (.int .i64 (usedD S)) ∧ At w0 Ts i b S w' :=
  (lot_used h.2 h.place g hc).mono (fun e w' ⟨he, k⟩ => ⟨he, h.1, k⟩)
theorem at_fail (h : At w0 Ts i b S W) (n : Int) : Calls Try.prog 21 #[.pointer (some ⟨b, 0, none⟩), .int .i64 n] W fun e w' => e = .returned (.tuple #[]) ∧ At w0 Ts i b (failS S n) w' :=
  (lot_fail h.2 h.place n).mono (fun e w' ⟨he, k⟩ => ⟨he, h.next k⟩)
/-- How many names a List tells. -/
theorem at_list (h : At w0 Ts i b S W) (g : Good c S) (hc : c ≤ 100000) {m : Nat} (hm : (keysN S.names).length = m) : Calls Try.prog 27 #[.pointer (some ⟨b, 0, none⟩)] W fun e w' => ∃ A cap, e = .returned (.slice A m cap) ∧ At w0 Ts i b S w' := by
  subst hm
  refine (has_list (h.2.has h.place) g hc).mono ?_
  rintro e w' ⟨v, rfl, ⟨A, cap, rfl, h1, h2⟩, hb⟩
  exact ⟨A, cap, rfl, h.below hb⟩
theorem at_new (hw : Below w0.heap.size w0 W) (room : Int) : Calls Try.prog 11 #[.int .i64 room] W fun e w' => ∃ b, e = .returned (.pointer (some ⟨b, 0, none⟩)) ∧ At w0 [dsk w0.heap.size b (newD room)] 0 b (newD room) w' :=
  (lot_new (Lot.start hw) room).mono (fun e w' ⟨b, he, k⟩ => ⟨b, he, At.of k rfl⟩)
set_option maxHeartbeats 4000000 in
set_option maxRecDepth 100000 in
theorem shown8_calls (w : World) : Calls Try.prog 29 #[] w fun e w' => e = .returned (.bool true) ∧ Below w.heap.size w w' := by
  have HK := Lib.hid (ck_write 9 xX (by decide) (by decide) (by decide))
  have HG := Lib.hid (show Good 100 (ckD 9 6 xX) from by
    have := (Good.new (room := 9) (by decide)).write nCk xX (by decide)
    rw [HK.out.2] at this
    exact this.mono (by decide))
  go_enter Try.func29, Try.ntmps29
  go_wp2_with (first
    | (go_at_call 11; refine (at_new (Below.refl _ _) _).mono ?_; rintro e w1 ⟨b, rfl, h1⟩; have HI := Lib.hid h1; clear h1)
    | (go_at_call 30; have hA_ := write_calls (nm := nCk) (x := xX) HI.out (Good.new (by decide)) (by decide) (by decide); rw [HK.out.1, HK.out.2] at hA_; refine hA_.mono ?_; clear hA_; rintro e w2 ⟨rfl, h2⟩; clear HI; have HI := Lib.hid h2; clear h2)
    | (go_at_call 28; have hA_ := at_ops HI.out; rw [show (ckD 9 6 xX).ops = 6 from rfl] at hA_; refine hA_.mono ?_; clear hA_; rintro e w2 ⟨rfl, rfl⟩)
    | (go_at_call 17; have hA_ := at_read (name := nCk) HI.out HG.out (by decide) (by decide); rw [show findE (ckD 9 6 xX) nCk = 0 by decide, show readV (ckD 9 6 xX) nCk = (⟨#[120]⟩ : ByteArray) by decide] at hA_; refine hA_.mono ?_; clear hA_; rintro e w2 ⟨rfl, rfl⟩)
    | (go_at_call 27; have hA_ := at_list (m := 1) HI.out HG.out (by decide) rfl; refine hA_.mono ?_; clear hA_; rintro e w2 ⟨A, cap, rfl, h2⟩; clear HI; have HI := Lib.hid h2; clear h2))
  go_ret
  exact ⟨rfl, HI.out.low⟩
end Go.Proofs.Ytolbicncdookmaa.XDsk
