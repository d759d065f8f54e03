/- rdata.walk over a closure; rdata.Right and rdata.Fold. -/
import Derived.Test.YtofkjgialkdidaaRd
import Derived.Test.YtofkjgialkdidaaBld
import Derived.Test.YtofkjgialkdidaaQx11
import Derived.Test.YtofkjgialkdidaaQx1
namespace Go.Proofs.Ytofkjgialkdidaa
set_option linter.unusedVariables false
set_option linter.unusedSimpArgs false
open Go.RowKit Go.Proofs.YtofkjgialkdidaaW.PrintWords Go.Proofs.Ytofkjgialkdidaa.Q

def partsS (t : Int) : List Int := (rdata_parts.f 1 t).getD []
theorem parts_f (t : Int) : rdata_parts.f 1 t = some (partsS t) := by
  unfold partsS
  unfold rdata_parts.f
  simp only [rdata_parts.j0]
  repeat' split
  all_goals rfl
theorem partsS_len (t : Int) : (partsS t).length ≤ 7 := by
  unfold partsS rdata_parts.f
  simp only [rdata_parts.j0]
  repeat' split
  all_goals decide
theorem partsS_pos (t : Int) : 0 < (partsS t).length := by
  unfold partsS rdata_parts.f
  simp only [rdata_parts.j0]
  repeat' split
  all_goals decide
def walkL (msg : ByteArray) (end_ : Int) : List Int → Int → Option (List (Int × ByteArray) × Bool)
  | [], at_ => some ([], at_ == end_)
  | kind :: ks, at_ => (rdata_part.f 1 msg at_ end_ kind).bind fun r => if r.2.2 = true then (walkL msg end_ ks r.2.1).map (fun x => ((kind, r.1) :: x.1, x.2)) else some ([], false)
def walkS (msg : ByteArray) (at_ end_ t : Int) : Option (List (Int × ByteArray) × Bool) := walkL msg end_ (partsS t) at_
set_option maxHeartbeats 1000000 in
set_option maxRecDepth 100000 in
theorem walk_any (G : Nat) (cap : Array Value) (msg : ByteArray) (at0 end_ t : Int) (w : World) (Inv : List (Int × ByteArray) → World → Prop) (l : List (Int × ByteArray)) (ok : Bool) (hent : ∀ (args : Array Value) (W : World), (callFunc G args).run Try.prog W = .ok (.enter G args) W)
    (h : walkS msg at0 end_ t = some (l, ok)) (h0 : Inv [] w) (hbelow : ∀ pre W W', Inv pre W → Below W.heap.size W W' → Inv pre W')
    (hdo : ∀ pre kind s rest W, l = pre ++ (kind, s) :: rest → Inv pre W → w.heap.size ≤ W.heap.size → Calls Try.prog G (#[.int .i64 kind, .string s] ++ cap) W fun e W' => e = .returned (.tuple #[]) ∧ Inv (pre ++ [(kind, s)]) W' ∧ W.heap.size ≤ W'.heap.size ∧ ∀ i cs, w.heap.size ≤ i → W.heap[i]? = some (.cells cs 3 (0, 0)) → W'.heap[i]? = W.heap[i]?) :
    Calls Try.prog 59 #[.string msg, .int .i64 at0, .int .i64 end_, .int .i64 t, .func (.func G) #[] cap] w fun e w' => e = .returned (.bool ok) ∧ Inv l w' ∧ w.heap.size ≤ w'.heap.size := by
  have HP := Aside0.mk (rdata_parts.calls 1 t (partsS t) w (parts_f t))
  have hlen := partsS_len t
  have hpos := partsS_pos t
  unfold walkS at h
  generalize partsS t = ks at *
  have H := Aside0.mk h
  have H0 := Aside0.mk h0
  have HBEL := Aside0.mk hbelow
  have HDO := Aside0.mk hdo
  clear h h0 hbelow hdo
  go_enter Try.func59, Try.ntmps59
  go_wp2_with (go_at_call 115; refine HP.out.mono ?_; rintro e w1 ⟨v, rfl, hR, hb1⟩; obtain ⟨g, c, rfl, hg0, hg1, cells, hg⟩ := Kd.R_form hR hpos; have HX := Aside0.mk (fun (j : Nat) (hj : j < ks.length) => (Kd.R_cell (0 : Int) hR j (by omega) (by omega)).1); have HG := Aside0.mk hg; have HB1 := Aside0.mk hb1; clear hR hg hb1)
  have HI1 := Aside0.mk (HBEL.out _ _ _ H0.out HB1.out)
  have HB1S := HB1.out.size
  clear H0 HB1 HP
  go_loopw [1, 19] (fun va vi wr => ∃ (j : Nat) (at_ : Int) (pre post : List (Int × ByteArray)), va = .int .i64 at_ ∧ vi = .int .i64 j ∧ j ≤ ks.length ∧ w.heap.size ≤ wr.heap.size ∧ Aside0 (walkL msg end_ (ks.drop j) at_ = some (post, ok) ∧ pre ++ post = l) ∧ Aside0 (Inv pre wr) ∧ Aside0 (wr.heap[g]? = some (.cells cells 3 (0, 0))))
    (fun _ vi _ => ks.length - (intOf vi).toNat)
  case atStart => exact ⟨0, at0, [], l, rfl, rfl, Nat.zero_le _, HB1S, ⟨H.out, rfl⟩, HI1, HG⟩
  case round =>
    clear H HI1
    obtain ⟨j, at_, pre, post, rfl, rfl, hj, hsz, ⟨hf, hacc⟩, HI, HGr⟩ := hrel
    by_cases hlt : j < ks.length
    · obtain ⟨kind, hk⟩ : ∃ kind, rd ks j = kind := ⟨_, rfl⟩
      have hx := HX.out j hlt
      rw [blk_cell HG.out, ← blk_cell HGr.out] at hx
      simp only [Int.toNat_natCast] at hx
      have hk' : rdOf 0 ks (j : Int) = kind := hk
      rw [hk'] at hx
      have hdr : ks.drop j = kind :: ks.drop (j + 1) := by
        rw [List.drop_eq_getElem_cons hlt]
        congr 1
        rw [← hk]; simp [rd, List.getD_eq_getElem?_getD, List.getElem?_eq_getElem hlt]
      rw [hdr] at hf
      obtain ⟨⟨s, nx, okp⟩, hp, hf⟩ := Option.bind_eq_some_iff.1 hf
      dsimp only at hf
      have HPT := Aside0.mk (fun W => rdata_part.calls 1 msg at_ end_ kind s nx okp W hp)
      clear hp hdr hk hk'
      cases okp with
      | false =>
        rw [if_neg (by decide)] at hf
        simp only [Option.some.injEq, Prod.mk.injEq] at hf
        obtain ⟨rfl, rfl⟩ := hf
        rw [List.append_nil] at hacc
        subst hacc
        go_wp2_with (go_at_call 116; refine (HPT.out _).mono ?_; rintro e w2 ⟨rfl, hb2⟩; have HI2 := Aside0.mk (HBEL.out _ _ _ HI.out hb2); have hsz2 := hb2.size; clear hb2)
        go_ret
        exact ⟨rfl, HI2.out, by omega⟩
      | true =>
        rw [if_pos rfl] at hf
        obtain ⟨x, hx', hf⟩ := Option.map_eq_some_iff.1 hf
        obtain ⟨post', ok'⟩ := x
        simp only [Prod.mk.injEq] at hf
        obtain ⟨rfl, rfl⟩ := hf
        have HXX := Aside0.mk hx'
        have HACC := Aside0.mk hacc
        clear hx' hacc
        go_wp2_with (go_at_call 116; refine (HPT.out _).mono ?_; rintro e w2 ⟨rfl, hb2⟩; have HI2 := Aside0.mk (HBEL.out _ _ _ HI.out hb2); have hsz2 := hb2.size; have HG2 := Aside0.mk (blk_below HGr.out hb2); clear hb2)
        refine (HDO.out pre kind s post' w2 HACC.out.symm HI2.out (by omega)).mono ?_
        rintro e w3 ⟨rfl, hi3, hs3, hk3⟩
        have HI3 := Aside0.mk hi3
        have HG3 := Aside0.mk ((hk3 g _ hg0 HG2.out).trans HG2.out)
        clear hi3 hk3
        go_wp2
        go_roundw
        case rel => exact ⟨j + 1, nx, pre ++ [(kind, s)], post', rfl, by go_num, by omega, by omega, ⟨HXX.out, by rw [← HACC.out]; simp⟩, HI3, HG3⟩
        case measure => simp [intOf]; omega
    · obtain rfl : j = ks.length := by omega
      rw [List.drop_length] at hf
      obtain ⟨rfl, rfl⟩ : post = [] ∧ (at_ == end_) = ok := by
        have := Option.some.inj hf
        exact ⟨(congrArg Prod.fst this).symm, congrArg Prod.snd this⟩
      rw [List.append_nil] at hacc
      subst hacc
      clear hf
      go_wp2
      go_ret
      exact ⟨rfl, HI.out, by omega⟩
end Go.Proofs.Ytofkjgialkdidaa
