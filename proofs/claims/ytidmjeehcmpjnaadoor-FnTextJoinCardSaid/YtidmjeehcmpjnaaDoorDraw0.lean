/- YtidmjeehcmpjnaaDoorDraw0: the reader of the drawn bytes: opening it, and what pick and odd return and leave. Conditions: the place and the asked bound are at most 2 to the 40. -/
import Derived.Test.YtidmjeehcmpjnaaDoorMemI
import Derived.Deep.RegionWith
namespace Go.Proofs.YtidmjeehcmpjnaaDoor
open Go.ChangeShapes Go.WideShapes Go.ChangeAt Go.RowKit

/-- The block a is a reader of the bytes bs at place p. -/
structure Rdr (w : World) (a : Nat) (bs : List Int) (p : Int) : Prop where
  len : bs.length ≤ 2000
  byte : ∀ x ∈ bs, 0 ≤ x ∧ x ≤ 255
  nn : 0 ≤ p
  lt : a < w.heap.size
  fr : w.frozen? ⟨a, 1, none⟩ = false
  at1 : w.cell? ⟨a, 1, none⟩ = some (.int .i64 p)
  at0 : ∃ ad c b off, w.cell? ⟨a, 0, none⟩ = some (.slice ad bs.length c) ∧ (bs ≠ [] → b < a) ∧ ∀ i x, bs[i]? = some x → ad = some ⟨b, off, none⟩ ∧ w.cell? ⟨b, off + i, none⟩ = some (.int .u8 x)
theorem Rdr.below {B : Nat} {w w' : World} {a : Nat} {bs : List Int} {p : Int} (h : Rdr w a bs p) (hb : Below B w w') (hB : w.heap.size ≤ B) : Rdr w' a bs p := by
  obtain ⟨h1, h2, h3, h4, h5, h6, ad, c, b, off, h7, h8, h9⟩ := h
  have hc := fun b o (hlt : b < w.heap.size) => hb.cell (p := ⟨b, o, none⟩) (show b < B by omega)
  refine ⟨h1, h2, h3, Nat.lt_of_lt_of_le h4 hb.size, (hb.frozen (p := ⟨a, 1, none⟩) (show a < B by omega)).trans h5, (hc a 1 h4).trans h6, ad, c, b, off, (hc a 0 h4).trans h7, h8, fun i x hx => ?_⟩
  have hne : bs ≠ [] := by rintro rfl; simp at hx
  exact ⟨(h9 i x hx).1, (hc b _ (by have := h8 hne; omega)).trans (h9 i x hx).2⟩
theorem Rdr.wr {w w' : World} {a : Nat} {bs : List Int} {p : Int} {q : Nat → Prop} (h : Rdr w a bs p) (hw : Wr w w' q) (hq : ∀ k, q k → a < k) : Rdr w' a bs p := by
  obtain ⟨h1, h2, h3, h4, h5, h6, ad, c, b, off, h7, h8, h9⟩ := h
  have na : ¬ q a := fun hh => by have := hq a hh; omega
  refine ⟨h1, h2, h3, Nat.lt_of_lt_of_le h4 hw.size, (hw.frozen h4 na).trans h5, (hw.cell h4 na).trans h6, ad, c, b, off, (hw.cell h4 na).trans h7, h8, fun i x hx => ?_⟩
  have hne : bs ≠ [] := by rintro rfl; simp at hx
  have hba := h8 hne
  exact ⟨(h9 i x hx).1, (hw.cell (by omega) (fun hh => by have := hq b hh; omega)).trans (h9 i x hx).2⟩

def pickS (bs : List Int) (p : Int) : Int := bs.getD (p.toNat % bs.length) 0 * 131 + bs.getD ((p.toNat * 7 + 3) % bs.length) 0 * 1117 + p * 29 + p / bs.length * 53
/-- What pick returns. -/
def pickV (bs : List Int) (p n : Int) : Int :=
  if n < 1 then 0 else if bs.length = 0 then 0 else if p < bs.length then bs.getD p.toNat 0 % n else bits .xor .i64 (pickS bs p) (pickS bs p / 64) % n
theorem xor_bd {x y : Int} (hx : 0 ≤ x ∧ x < 4611686018427387904) (hy : 0 ≤ y ∧ y < 4611686018427387904) : 0 ≤ bits .xor .i64 x y := by
  obtain ⟨a, rfl⟩ := Int.eq_ofNat_of_zero_le hx.1
  obtain ⟨b, rfl⟩ := Int.eq_ofNat_of_zero_le hy.1
  have ha : a < 2 ^ 62 := by omega
  have hb : b < 2 ^ 62 := by omega
  have hxor := Nat.xor_lt_two_pow ha hb
  have e1 : (BitVec.ofInt IntKind.i64.bits (a : Int)).toNat = a := by
    rw [BitVec.ofInt_natCast, BitVec.toNat_ofNat]; exact Nat.mod_eq_of_lt (by show a < 2 ^ 64; omega)
  have e2 : (BitVec.ofInt IntKind.i64.bits (b : Int)).toNat = b := by
    rw [BitVec.ofInt_natCast, BitVec.toNat_ofNat]; exact Nat.mod_eq_of_lt (by show b < 2 ^ 64; omega)
  show 0 ≤ IntKind.i64.wrap ((BitVec.ofInt IntKind.i64.bits (a : Int) ^^^ BitVec.ofInt IntKind.i64.bits (b : Int)).toNat : Int)
  rw [BitVec.toNat_xor, e1, e2, IntKind.wrap_i64]
  omega
theorem get_mem {bs : List Int} {i : Nat} (h : i < bs.length) (hb : ∀ x ∈ bs, 0 ≤ x ∧ x ≤ 255) : 0 ≤ bs.getD i 0 ∧ bs.getD i 0 ≤ 255 := by
  rw [List.getD, List.getElem?_eq_getElem h]
  exact hb _ (List.getElem_mem h)
theorem pickS_bd {bs : List Int} {p : Int} (hb : ∀ x ∈ bs, 0 ≤ x ∧ x ≤ 255) (h0 : 0 ≤ p) (hp : p ≤ 1099511627776) (hL : 1 ≤ bs.length) : 0 ≤ pickS bs p ∧ pickS bs p < 4611686018427387904 := by
  have h1 := get_mem (Nat.mod_lt p.toNat hL) hb
  have h2 := get_mem (Nat.mod_lt (p.toNat * 7 + 3) hL) hb
  have h3 : 0 ≤ p / (bs.length : Int) := Int.ediv_nonneg h0 (by omega)
  have h4 : p / (bs.length : Int) ≤ p := Int.ediv_le_self _ h0
  unfold pickS
  omega
theorem pickV_bd (bs : List Int) (p n : Int) : 0 ≤ pickV bs p n ∧ (1 ≤ n → pickV bs p n < n) := by
  unfold pickV
  split
  · exact ⟨Int.le_refl _, fun h => by omega⟩
  · split
    · exact ⟨Int.le_refl _, fun h => by omega⟩
    · rename_i h1 h2
      split
      · exact ⟨Int.emod_nonneg _ (by omega), fun h => Int.emod_lt_of_pos _ (by omega)⟩
      · exact ⟨Int.emod_nonneg _ (by omega), fun h => Int.emod_lt_of_pos _ (by omega)⟩
def oddV (bs : List Int) (p n : Int) : Bool := decide (0 < n) && (pickV bs p n == n - 1)
theorem addr_ne {b b' o o' : Nat} (h : b ≠ b') : (⟨b, o, none⟩ : Addr) ≠ ⟨b', o', none⟩ := fun e => h (congrArg Addr.block e)

theorem rdr_store {w : World} {a : Nat} {bs : List Int} {p : Int} (h : Rdr w a bs p) (nq : Nat) :
    Rdr ((w.setCell ⟨a, 1, none⟩ (.int .i64 (p + 1))).drewN nq) a bs (p + 1) ∧ Wr w ((w.setCell ⟨a, 1, none⟩ (.int .i64 (p + 1))).drewN nq) (fun b => b = a) := by
  obtain ⟨h1, h2, h3, h4, h5, h6, ad, c, b, off, h7, h8, h9⟩ := h
  constructor
  · refine ⟨h1, h2, by omega, ?_, ?_, ?_, ad, c, b, off, ?_, h8, fun i x hx => ⟨(h9 i x hx).1, ?_⟩⟩
    · show a < (w.setCell _ _).heap.size
      simpa [World.setCell] using h4
    · show (w.setCell ⟨a, 1, none⟩ (.int .i64 (p + 1))).frozen? ⟨a, 1, none⟩ = false
      simpa using h5
    · show (w.setCell ⟨a, 1, none⟩ (.int .i64 (p + 1))).cell? ⟨a, 1, none⟩ = _
      exact World.cell?_setCell_same _ _ _ h6
    · show (w.setCell ⟨a, 1, none⟩ (.int .i64 (p + 1))).cell? ⟨a, 0, none⟩ = _
      rw [World.cell?_setCell_other _ _ _ _ (by simp)]; exact h7
    · show (w.setCell ⟨a, 1, none⟩ (.int .i64 (p + 1))).cell? ⟨b, off + i, none⟩ = _
      have hne : bs ≠ [] := by rintro rfl; simp at hx
      have hba := h8 hne
      rw [World.cell?_setCell_other _ _ _ _ (addr_ne (by omega))]; exact (h9 i x hx).2
  · refine ⟨rfl, rfl, rfl, ?_, fun k _ hp => ?_⟩
    · show w.heap.size ≤ (w.setCell _ _).heap.size
      simp [World.setCell]
    · exact Below.heap_setCell _ _ _ _ hp

set_option maxHeartbeats 2000000 in
theorem pick_any (a : Nat) (bs : List Int) (p n : Int) (w : World) (h : Rdr w a bs p) (hp : p ≤ 1099511627776) (hn : n ≤ 1099511627776) : Calls Tryd.prog 52 #[.pointer (some ⟨a, 0, none⟩), .int .i64 n] w
    fun e w' => e = .returned (.int .i64 (pickV bs p n)) ∧ Rdr w' a bs (p + 1) ∧ Wr w w' (fun b => b = a) := by
  have hst := rdr_store h
  have HST := Lib.hid hst
  clear hst
  obtain ⟨hlen, hby, hp0, ha, hfr, hc1, ad, c, b, off, hc0, hba, hcell⟩ := h
  by_cases hn1 : n < 1
  · have hv : pickV bs p n = 0 := by simp [pickV, hn1]
    have HV := Lib.hid hv
    clear hv hcell hby
    go_enter Tryd.func52, Tryd.ntmps52
    go_wp2
    go_ret
    exact ⟨by rw [HV.out]; rfl, HST.out 0⟩
  · by_cases hL : bs.length = 0
    · have hv : pickV bs p n = 0 := by simp [pickV, hn1, hL]
      have HV := Lib.hid hv
      clear hv hcell hby
      go_enter Tryd.func52, Tryd.ntmps52
      go_wp2
      go_ret
      exact ⟨by rw [HV.out]; rfl, HST.out 0⟩
    · by_cases hk : p < bs.length
      · have hv : pickV bs p n = bs.getD p.toNat 0 % n := by rw [pickV, if_neg hn1, if_neg hL, if_pos hk]
        obtain ⟨k, rfl⟩ : ∃ k : Nat, p = k := ⟨p.toNat, by omega⟩
        obtain ⟨x, hx⟩ := get_lt (show k < bs.length by omega)
        obtain ⟨rfl, hc⟩ := hcell k x hx
        have hba2 := hba (by rintro rfl; simp at hx)
        have hxb := hby x (List.mem_of_getElem? hx)
        have hv2 : pickV bs k n = x % n := by rw [hv, Int.toNat_natCast, List.getD, hx]; rfl
        have HV := Lib.hid hv2
        clear hv hv2 hcell hby hx hba
        go_enter Tryd.func52, Tryd.ntmps52
        go_wp2
        go_ret
        exact ⟨by rw [HV.out]; rfl, HST.out 0⟩
      · have hv : pickV bs p n = bits .xor .i64 (pickS bs p) (pickS bs p / 64) % n := by rw [pickV, if_neg hn1, if_neg hL, if_neg hk]
        obtain ⟨k, rfl⟩ : ∃ k : Nat, p = k := ⟨p.toNat, by omega⟩
        have hL1 : 1 ≤ bs.length := by omega
        have hSb := pickS_bd hby hp0 hp hL1
        obtain ⟨x, hx⟩ := get_lt (show k % bs.length < bs.length from Nat.mod_lt _ hL1)
        obtain ⟨y, hy⟩ := get_lt (show (k * 7 + 3) % bs.length < bs.length from Nat.mod_lt _ hL1)
        obtain ⟨rfl, hcx⟩ := hcell _ x hx
        obtain ⟨_, hcy⟩ := hcell _ y hy
        have hba2 := hba (by rintro rfl; simp at hx)
        have hxb := hby x (List.mem_of_getElem? hx)
        have hyb := hby y (List.mem_of_getElem? hy)
        have hdv : 0 ≤ (k : Int) / (bs.length : Int) ∧ (k : Int) / (bs.length : Int) ≤ k := ⟨Int.ediv_nonneg (by omega) (by omega), Int.ediv_le_self _ (by omega)⟩
        have hS : pickS bs k = x * 131 + y * 1117 + (k : Int) * 29 + (k : Int) / (bs.length : Int) * 53 := by
          unfold pickS; rw [Int.toNat_natCast, List.getD, List.getD, hx, hy]; rfl
        rw [hS] at hv hSb
        have hxo := xor_bd hSb (show 0 ≤ (x * 131 + y * 1117 + (k : Int) * 29 + (k : Int) / (bs.length : Int) * 53) / 64 ∧ (x * 131 + y * 1117 + (k : Int) * 29 + (k : Int) / (bs.length : Int) * 53) / 64 < 4611686018427387904 by omega)
        have HV := Lib.hid hv
        have f0 := (World.cell?_setCell_other w ⟨a, 1, none⟩ ⟨a, 0, none⟩ (.int .i64 (↑k + 1)) (by simp)).trans hc0
        have f2 := (World.cell?_setCell_other w ⟨a, 1, none⟩ ⟨b, off + k % bs.length, none⟩ (.int .i64 (↑k + 1)) (addr_ne (by omega))).trans hcx
        have f3 := (World.cell?_setCell_other w ⟨a, 1, none⟩ ⟨b, off + (k * 7 + 3) % bs.length, none⟩ (.int .i64 (↑k + 1)) (addr_ne (by omega))).trans hcy
        have i1 : 0 ≤ (k : Int) % (bs.length : Int) ∧ (k : Int) % (bs.length : Int) < bs.length := ⟨Int.emod_nonneg _ (by omega), Int.emod_lt_of_pos _ (by omega)⟩
        have i2 : 0 ≤ ((k : Int) * 7 + 3) % (bs.length : Int) ∧ ((k : Int) * 7 + 3) % (bs.length : Int) < bs.length := ⟨Int.emod_nonneg _ (by omega), Int.emod_lt_of_pos _ (by omega)⟩
        have H2 := HST.out
        have H3 := Lib.hid H2
        clear hv hS hcell hby hx hy hba HST H2
        go_enter Tryd.func52, Tryd.ntmps52
        go_wp2
        generalize w.setCell ⟨a, 1, none⟩ (.int .i64 (↑k + 1)) = W at *
        go_quiet (fail)
        go_wp2
        go_ret
        exact ⟨by rw [HV.out]; rfl, H3.out _⟩

set_option maxHeartbeats 1000000 in
theorem odd_any (a : Nat) (bs : List Int) (p n : Int) (w : World) (h : Rdr w a bs p) (hp : p ≤ 1099511627776) (hn0 : 0 ≤ n) (hn : n ≤ 1099511627776) : Calls Tryd.prog 51 #[.pointer (some ⟨a, 0, none⟩), .int .i64 n] w
    fun e w' => e = .returned (.bool (oddV bs p n)) ∧ (∃ p', Rdr w' a bs p' ∧ p ≤ p' ∧ p' ≤ p + 1 ∧ (0 < n → p' = p + 1)) ∧ Wr w w' (fun b => b = a) := by
  by_cases hz : n = 0
  · subst hz
    go_enter Tryd.func51, Tryd.ntmps51
    go_wp2
    go_ret
    exact ⟨rfl, ⟨p, h, by omega, by omega, fun h => by omega⟩, Wr.refl _ _⟩
  · have hpos : 0 < n := by omega
    have HH := Lib.hid h
    have hnn := h.nn
    cases hv : (pickV bs p n == n - 1)
    · have hd : oddV bs p n = false := by rw [oddV, hv]; simp
      have HD := Lib.hid hd
      clear hd h
      go_enter Tryd.func51, Tryd.ntmps51
      go_wp2_with fail
      refine (pick_any _ _ _ _ _ HH.out hp hn).mono ?_
      rintro e w' ⟨rfl, hr, hw⟩
      go_wp2
      go_ret
      exact ⟨by rw [HD.out]; rfl, ⟨p + 1, hr, by omega, by omega, fun _ => rfl⟩, hw⟩
    · have hd : oddV bs p n = true := by rw [oddV, hv]; simp [hpos]
      have HD := Lib.hid hd
      clear hd h
      go_enter Tryd.func51, Tryd.ntmps51
      go_wp2_with fail
      refine (pick_any _ _ _ _ _ HH.out hp hn).mono ?_
      rintro e w' ⟨rfl, hr, hw⟩
      go_wp2
      go_ret
      exact ⟨by rw [HD.out]; rfl, ⟨p + 1, hr, by omega, by omega, fun _ => rfl⟩, hw⟩

def Opened (w : World) (bs : List Int) (e : Ending) (w' : World) : Prop := ∃ a, e = .returned (.pointer (some ⟨a, 0, none⟩)) ∧ Rdr w' a (bs.take 2000) 0 ∧ w.heap.size ≤ a ∧ Below w.heap.size w w'
set_option maxHeartbeats 1000000 in
theorem open_any (v : Value) (bs : List Int) (w : World) (h : RdI .u8 w v bs) : Calls Tryd.prog 49 #[v] w (Opened w bs) := by
  have hby : ∀ x ∈ bs.take 2000, 0 ≤ x ∧ x ≤ 255 := fun x hx => wf_u8 (h.2 x (List.mem_of_mem_take hx))
  obtain ⟨ad, c, b, off, rfl, hlc, hm, hb, hcell⟩ := h.form
  have hBel : Below w.heap.size w (w.alloc (.cells #[.slice ad (bs.take 2000).length c, .int .i64 0] 85)) := (Below.refl _ _).alloc (Nat.le_refl _) _
  have hcc := fun o => cell_of_row (w.alloc (.cells #[.slice ad (bs.take 2000).length c, .int .i64 0] 85)) w.heap.size o #[.slice ad (bs.take 2000).length c, .int .i64 0] 85 (0, 0) (heap_alloc_new w _)
  have hff := frozen_of_row (w.alloc (.cells #[.slice ad (bs.take 2000).length c, .int .i64 0] 85)) w.heap.size 1 #[.slice ad (bs.take 2000).length c, .int .i64 0] 85 (heap_alloc_new w _)
  have hR : Rdr (w.alloc (.cells #[.slice ad (bs.take 2000).length c, .int .i64 0] 85)) w.heap.size (bs.take 2000) 0 := by
    refine ⟨by simp; omega, hby, Int.le_refl _, by simp, hff, hcc 1, ad, c, b, off, hcc 0, fun hne => hb (by rintro rfl; simp at hne), fun i x hx => ?_⟩
    have hx' : bs[i]? = some x := by
      rw [List.getElem?_take] at hx
      split at hx
      · exact hx
      · cases hx
    exact ⟨(hcell i x hx').1, (hBel.cell (p := ⟨b, off + i, none⟩) (hb (by rintro rfl; simp at hx'))).trans (hcell i x hx').2⟩
  have HR := Lib.hid hR
  have HB := Lib.hid hBel
  clear hR hBel hcc hff hcell hby h
  by_cases hL : 2000 < bs.length
  · have hl : (bs.take 2000).length = 2000 := by simp; omega
    rw [hl] at HR HB
    clear hl
    go_enter Tryd.func49, Tryd.ntmps49
    go_wp2
    go_ret
    exact ⟨_, rfl, HR.out, Nat.le_refl _, HB.out⟩
  · have hl : bs.take 2000 = bs := List.take_of_length_le (by omega)
    rw [hl] at HR HB
    unfold Opened
    rw [hl]
    clear hl
    go_enter Tryd.func49, Tryd.ntmps49
    go_wp2
    go_ret
    exact ⟨_, rfl, HR.out, Nat.le_refl _, HB.out⟩
end Go.Proofs.YtidmjeehcmpjnaaDoor
