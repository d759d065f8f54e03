/- The disk's methods: Read, Remove, Rename, SyncDir. -/
import Derived.Test.YtgjelmfhkongcaaGvD8
import Derived.Test.YtgjelmfhkongcaaEngJ
namespace Go.Eng
set_option linter.unusedVariables false
set_option linter.unusedSimpArgs false
def Dk.syncDir (d : Dk) : Dk × Int := if d.down = true then (d, 5) else ({ d with safe := d.names, pend := [] }.done, 0)
end Go.Eng
namespace Go.Proofs.Ytgjelmfhkongcaa.D
set_option linter.unusedVariables false
set_option linter.unusedSimpArgs false
open Go Go.RowKit Go.Proofs.YtgjelmfhkongcaaW.PrintWords Go.Eng Go.Proofs.Ytgjelmfhkongcaa
theorem bytesStr_cells (s : ByteArray) : bytesStr (s.data.toList.map fun b => (b.toNat : Int)) = s := by
  unfold bytesStr
  rw [List.map_map]
  have : (s.data.toList.map ((fun n : Int => UInt8.ofNat n.toNat) ∘ fun b : UInt8 => (b.toNat : Int))) = s.data.toList := by
    conv => rhs; rw [← List.map_id s.data.toList]
    refine List.map_congr_left fun b _ => ?_
    simp
  rw [this]
set_option maxRecDepth 100000 in
theorem conv_bytes {w : World} {v : Value} {s : ByteArray} (h : w.ownsRow 0 5 1 v s.size (byteCells s)) : (convert 67 9 v).run Try.prog w = .ok (.string s) w := by
  obtain ⟨X, c, rfl, h0, h1⟩ := owns_form h
  rw [run_convert_bytes_string w 67 9 5 X _ c Try.underlying67 Try.underlying5 Try.underlying9]
  have hs := bytesStr_cells s
  cases X with
  | none =>
    have := (h0 rfl).1
    have hs0 : s = ⟨#[]⟩ := empty_of_size this
    subst hs0
    simp [Conv.bytesToString]
    rfl
  | some ad =>
    have h2 := h.cells (g := ad.block) (by rfl)
    have had := h1 ad rfl
    have hl := run_loadCells_list (P := Try.prog) w ad ((s.data.toList.map fun b => (b.toNat : Int)).map (Value.int .u8)) (fun j u hu => by
      have := h2 j u (by rw [← hu, List.map_map]; rfl)
      rw [had]; exact this)
    have hlen : ((s.data.toList.map fun b => (b.toNat : Int)).map (Value.int .u8)).length = s.size := by simp
    rw [hlen] at hl
    rw [run_bytesToString w ad s.size c (s.data.toList.map fun b => (b.toNat : Int)) hl, foldl_push]
    have hs2 : (⟨((s.data.toList.map fun b => (b.toNat : Int)).map fun n => UInt8.ofNat n.toNat).toArray⟩ : ByteArray) = s := hs
    conv => rhs; rw [← hs2]
    simp [ByteArray.empty, ByteArray.emptyWithCapacity]
    rfl
section
variable {w : World} {r : Nat} {d : Dk} {mn ms : Nat} {pv : Value} {A : Nat → Nat} {B : Nat → Value} (h : DkAt w r d mn ms pv A B)
set_option maxHeartbeats 400000
set_option maxRecDepth 100000
include h
theorem read_dk (x : ByteArray) : Calls Try.prog 17 #[.pointer (some ⟨r, 0, none⟩), .string x] w fun e w' => e = .returned (.tuple #[.string (d.read x).1, .int .i64 (d.read x).2]) ∧ DkAt w' r d mn ms pv A B ∧ Mv w w' r := by
  have HF := find_ok h x
  unfold Dk.read
  rcases hf : d.find x with ⟨_ | i, c⟩
  · have hc := find_code hf
    rw [hf] at HF
    simp only [oadr] at HF ⊢
    have H := Aside0.mk HF
    have HH := Aside0.mk h
    have hcb : (c != 0) = true := by simpa using hc
    clear HF h hf hc
    go_enter Try.func17, Try.ntmps17
    go_wp2_with (go_at_call 35; refine H.out.mono ?_; rintro e w1 ⟨rfl, hb⟩; have HB := Aside0.mk hb; clear hb)
    go_ret2
    exact ⟨rfl, HH.out.below HB.out, HH.out.mv_below HB.out⟩
  · obtain ⟨hi, h1, h2, h3⟩ := found_file h hf
    obtain ⟨rfl, _⟩ := find_some hf
    rw [hf] at HF
    simp only [oadr, adr] at HF ⊢
    have rest : ∀ w1, Below w.heap.size w w1 → w1.cell? ⟨A i, 0, none⟩ = some (B i) ∧ (convert 67 9 (B i)).run Try.prog w1 = .ok (.string (d.file i).1) w1 ∧ DkAt w1 r d mn ms pv A B ∧ Mv w w1 r := by
      intro w1 hb
      refine ⟨?_, conv_bytes (owns_stay h3 fun g hg => hb.block g (let ⟨_, hc⟩ := owns_at h3 hg; blk_lt hc)), h.below hb, h.mv_below hb⟩
      rw [blk_cell (blk_below h2 hb) 0]
      rfl
    have H := Aside0.mk HF
    have HR := Aside0.mk rest
    clear HF h hf hi h1 h2 h3 rest
    go_enter Try.func17, Try.ntmps17
    go_wp2_with (go_at_call 35; refine H.out.mono ?_; rintro e w1 ⟨rfl, hb⟩; obtain ⟨c0, c1, hd⟩ := HR.out w1 hb; have HD := Aside0.mk hd; clear hd hb)
    go_ret2
    exact ⟨rfl, HD.out⟩
theorem change_dk (c : Chg) (hok : okC d.names c) (hgood : c.1.size ≤ 64 ∧ c.2.1.size ≤ 64) (hm : c.2.2 = none) (hn : d.pend.length ≤ 1000000) :
    Calls Try.prog 28 #[.pointer (some ⟨r, 0, none⟩), .agg #[.string c.1, .string c.2.1, .pointer none]] w fun e w' => e = .returned (.tuple #[]) ∧ (∃ pv', DkAt w' r (d.change c) mn ms pv' A B) ∧ Mv w w' r := by
  have H := change_raw h.top h.names h.wf.names h.pend hn c hok (fun e => absurd hm e)
  rw [hm] at H
  refine H.mono fun e w' ⟨h1, pv', h2, h3, h4, h5, h6⟩ => ⟨h1, ?_⟩
  obtain ⟨k1, k2, k3⟩ := h.changed c hok hgood (fun i e => by rw [hm] at e; cases e) (fun i e => by rw [hm] at e; cases e) h2 h3 h4 h5 h6
  refine ⟨⟨pv', k1⟩, k2, fun b hb => ?_⟩
  rcases k3 b hb with q | ⟨i, e, _⟩ | q
  · exact .inl q
  · rw [hm] at e; cases e
  · exact .inr q
omit h in
theorem okName_le {x : ByteArray} (hx : okName x = true) : x.size ≤ 64 := by simp [okName] at hx; exact hx.2
theorem changed_done (c : Chg) (hok : okC d.names c) (hgood : c.1.size ≤ 64 ∧ c.2.1.size ≤ 64) (hm : c.2.2 = none) (hn : d.pend.length ≤ 1000000) (w1 : World) (hb : Below w.heap.size w w1) :
    Calls Try.prog 28 #[.pointer (some ⟨r, 0, none⟩), .agg #[.string c.1, .string c.2.1, .pointer none]] w1 fun e w' => e = .returned (.tuple #[]) ∧
      Calls Try.prog 29 #[.pointer (some ⟨r, 0, none⟩)] w' fun e w2 => e = .returned (.int .i64 0) ∧ ObjRep w2 r (d.change c).done ∧ Mv w w2 r :=
  (change_dk (h.below hb) c hok hgood hm hn).mono fun e w' ⟨h1, ⟨pv', h2⟩, h3⟩ => ⟨h1, (done_dk h2).mono fun e w2 ⟨q1, q2, q3⟩ => ⟨q1, ⟨_, _, _, _, _, q2⟩, ((h.mv_below hb).trans h3).trans q3⟩⟩
theorem remove_dk (x : ByteArray) (hn : d.pend.length ≤ 1000000) : Calls Try.prog 36 #[.pointer (some ⟨r, 0, none⟩), .string x] w fun e w' => e = .returned (.int .i64 (d.remove x).2) ∧ ObjRep w' r (d.remove x).1 ∧ Mv w w' r := by
  have HF := find_ok h x
  unfold Dk.remove
  rcases hf : d.find x with ⟨_ | i, c⟩
  · have hc := find_code hf
    rw [hf] at HF
    simp only [oadr] at HF ⊢
    have H := Aside0.mk HF
    have HH := Aside0.mk h
    have hcb : (c != 0) = true := by simpa using hc
    clear HF h hf hc
    go_enter Try.func36, Try.ntmps36
    go_wp2_with (go_at_call 35; refine H.out.mono ?_; rintro e w1 ⟨rfl, hb⟩; have HB := Aside0.mk hb; clear hb)
    go_ret
    exact ⟨rfl, ⟨_, _, _, _, _, HH.out.below HB.out⟩, HH.out.mv_below HB.out⟩
  · obtain ⟨rfl, hi, _⟩ := find_some hf
    rw [hf] at HF
    simp only [oadr, adr] at HF ⊢
    have HR := Aside0.mk (changed_done h (x, ⟨#[]⟩, none) (fun _ e => absurd rfl e) ⟨okName_le (find_some hf).2.2.2, by show (0 : Nat) ≤ 64; omega⟩ rfl hn)
    have H := Aside0.mk HF
    clear HF h hf hi hn
    go_enter Try.func36, Try.ntmps36
    go_wp2_with (first
      | (go_at_call 35; refine H.out.mono ?_; rintro e w1 ⟨rfl, hb⟩; have HC := Aside0.mk (HR.out w1 hb); clear hb)
      | (go_at_call 28; refine HC.out.mono ?_; rintro e w2 ⟨rfl, hd⟩; have HD := Aside0.mk hd; clear hd)
      | (go_at_call 29; refine HD.out.mono ?_; rintro e w3 ⟨rfl, hb⟩; have HX := Aside0.mk hb; clear hb))
    go_ret
    exact ⟨rfl, HX.out⟩
theorem rename_dk (x y : ByteArray) (hn : d.pend.length ≤ 1000000) : Calls Try.prog 18 #[.pointer (some ⟨r, 0, none⟩), .string x, .string y] w fun e w' => e = .returned (.int .i64 (d.rename x y).2) ∧ ObjRep w' r (d.rename x y).1 ∧ Mv w w' r := by
  have hal := below_alloc w (.cells #[.string x, .string y] 9)
  have hcells : ∀ (j : Nat) (z : ByteArray), ([x, y] : List ByteArray)[j]? = some z → (w.alloc (.cells #[.string x, .string y] 9)).cell? ⟨w.heap.size, j, none⟩ = some (.string z) := fun j z hj => by
    rw [blk_cell (heap_alloc_new w _) j]
    match j, hj with
    | 0, hj => cases hj; rfl
    | 1, hj => cases hj; rfl
    | j + 2, hj => simp at hj
  unfold Dk.rename
  by_cases hd : d.down = true
  · rw [if_pos hd]
    have ht := h.top
    rw [hd] at ht
    have HM := Aside0.mk (fun b => may_down (Top.below ht hal) b)
    have HH := Aside0.mk (And.intro (h.below hal) (h.mv_below hal))
    clear h ht hd hal hcells
    go_enter Try.func18, Try.ntmps18
    go_wp2_with (go_at_call 27; refine (HM.out _).mono ?_; rintro e w1 ⟨rfl, rfl⟩)
    go_ret
    exact ⟨rfl, ⟨_, _, _, _, _, HH.out.1⟩, HH.out.2⟩
  · rw [if_neg hd]
    have hd : d.down = false := by simpa using hd
    have ht := h.top
    rw [hd] at ht
    have HM0 := may_up (Top.below ht hal) w.heap.size [x, y] 2 hcells (by simp)
    by_cases hxy : (okName x && okName y) = false
    · rw [if_pos hxy]
      have hc : mayC [x, y] = 1 := by simp only [mayC, List.all_cons, List.all_nil, Bool.and_true, hxy]; rfl
      rw [hc] at HM0
      have HM := Aside0.mk HM0
      have HH := Aside0.mk (And.intro (h.below hal) (h.mv_below hal))
      clear h ht hd hal hcells hc HM0 hxy
      go_enter Try.func18, Try.ntmps18
      go_wp2_with (go_at_call 27; refine HM.out.mono ?_; rintro e w1 ⟨rfl, rfl⟩)
      go_ret
      exact ⟨rfl, ⟨_, _, _, _, _, HH.out.1⟩, HH.out.2⟩
    · rw [if_neg hxy]
      have hxy : (okName x && okName y) = true := by simpa using hxy
      have hc : mayC [x, y] = 0 := by simp only [mayC, List.all_cons, List.all_nil, Bool.and_true, hxy]; rfl
      rw [hc] at HM0
      have HM := Aside0.mk HM0
      have HF := find_ok (h.below hal) x
      rcases hf : d.find x with ⟨_ | i, c⟩
      · have hc2 := find_code hf
        rw [hf] at HF
        simp only [oadr] at HF ⊢
        have H := Aside0.mk HF
        have HH := Aside0.mk (And.intro (h.below hal) (h.mv_below hal))
        have hcb : (c != 0) = true := by simpa using hc2
        clear HF h hf hc hc2 hal hcells ht hd hxy HM0
        go_enter Try.func18, Try.ntmps18
        go_wp2_with (first
          | (go_at_call 27; refine HM.out.mono ?_; rintro e w1 ⟨rfl, rfl⟩)
          | (go_at_call 35; refine H.out.mono ?_; rintro e w1 ⟨rfl, hb⟩; have HB := Aside0.mk hb; clear hb))
        go_ret
        exact ⟨rfl, ⟨_, _, _, _, _, HH.out.1.below HB.out⟩, HH.out.2.trans (HH.out.1.mv_below HB.out)⟩
      · obtain ⟨rfl, hi, _⟩ := find_some hf
        rw [hf] at HF
        simp only [oadr, adr] at HF ⊢
        have HR := Aside0.mk (changed_done (h.below hal) (x, y, none) (fun _ _ => by rw [show nmF x d.names = some i from hi]; rfl) ⟨okName_le (by simp at hxy; exact hxy.1), okName_le (by simp at hxy; exact hxy.2)⟩ rfl hn)
        have HMv := Aside0.mk (h.mv_below hal)
        have H := Aside0.mk HF
        clear HF h hf hi hn hc hal hcells ht hd hxy HM0
        go_enter Try.func18, Try.ntmps18
        go_wp2_with (first
          | (go_at_call 27; refine HM.out.mono ?_; rintro e w1 ⟨rfl, rfl⟩)
          | (go_at_call 35; refine H.out.mono ?_; rintro e w1 ⟨rfl, hb⟩; have HC := Aside0.mk (HR.out w1 hb); clear hb)
          | (go_at_call 28; refine HC.out.mono ?_; rintro e w2 ⟨rfl, hd⟩; have HD := Aside0.mk hd; clear hd)
          | (go_at_call 29; refine HD.out.mono ?_; rintro e w3 ⟨rfl, hb⟩; have HX := Aside0.mk hb; clear hb))
        go_ret
        exact ⟨rfl, HX.out.1, HMv.out.trans HX.out.2⟩
end
end Go.Proofs.Ytgjelmfhkongcaa.D
