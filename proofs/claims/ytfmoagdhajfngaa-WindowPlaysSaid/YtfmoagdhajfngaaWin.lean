/- Walks of layer 2 (window): a window is its struct's block and a row of bytes. -/
import Derived.Test.YtfmoagdhajfngaaProg
import Derived.Test.YtfmoagdhajfngaaFr
import Derived.WalkKit
import Derived.Deep.QuietTactic
import Derived.BigQuiet
import Derived.KernelRfl
import Derived.Maps.AppendAt
import Derived.Deep.AppendLies
import Derived.Deep.RegionHeld3
import Derived.Lib.Hide
import Derived.WalkSpells
import Derived.Deep.DeepCutAuto
import Derived.Laws.BytesArg
namespace Go.Proofs.Ytfmoagdhajfngaa
open Go.RowKit Go.My

theorem info5 : (Try.prog.info? 5).map (fun i => (i.zero, i.size, i.bytes)) = some (some (.int .u8 0), 1, 1) := by kernel_rfl

def bytesV (bs : List UInt8) : List Value := bs.map fun b => .int .u8 (b.toNat : Int)
theorem bytesV_length (bs : List UInt8) : (bytesV bs).length = bs.length := by simp [bytesV]
theorem bytesV_append (a b : List UInt8) : bytesV (a ++ b) = bytesV a ++ bytesV b := by simp [bytesV]

/-- A window: its struct at block p, its bytes in the row of v. -/
structure WinAt (w : World) (p : Nat) (most : Int) (bs : List UInt8) (v : Value) : Prop where
  blk : w.heap[p]? = some (.cells #[.int .i64 most, v] 67 (0, 0))
  own : w.ownsRow 0 5 1 v bs.length (bytesV bs)
  apart : v.ownBlock ≠ some p
  len : (bs.length : Int) ≤ 1000000000

/-- What a window is made of. -/
def winFoot (p : Nat) (v : Value) : Nat → Prop := fun k => k = p ∨ v.ownBlock = some k

theorem WinAt.keep {w w' : World} {p : Nat} {most : Int} {bs : List UInt8} {v : Value} {S : Nat → Prop} (h : WinAt w p most bs v) (hf : Fr S w w') (hs : ∀ k, winFoot p v k → ¬ S k) : WinAt w' p most bs v :=
  ⟨hf.keep h.blk (hs p (.inl rfl)), own_keep h.own hf (fun k hk => hs k (.inr hk)), h.apart, h.len⟩
theorem WinAt.drewN {w : World} {p : Nat} {most : Int} {bs : List UInt8} {v : Value} (h : WinAt w p most bs v) (n : Nat) : WinAt (w.drewN n) p most bs v :=
  h.keep (S := fun _ => False) ((Fr.refl _ _).drewN n) (fun _ _ h => h)

/-- The world but for draws. -/
def Dr (w w' : World) : Prop := ∃ n, w' = w.drewN n

set_option maxRecDepth 100000 in
theorem win_new (most : Int) (w : World) : Calls Try.prog 15 #[.int .i64 most] w fun e w' => e = .returned (.pointer (some ⟨w.heap.size, 0, none⟩)) ∧
    w' = w.alloc (.cells #[.int .i64 (if most < 0 then 0 else most), .slice none 0 0] 67) := by
  go_enter Try.func15, Try.ntmps15
  by_cases h : most < 0
  · go_wp2
    go_ret
    simp [h]
  · go_wp2
    go_ret
    simp [h]

set_option maxRecDepth 100000 in
theorem put_nil (x : Int) (w : World) : Calls Try.prog 16 #[.pointer none, .int .u8 x] w fun e w' => e = .returned (.bool false) ∧ Dr w w' := by
  go_enter Try.func16, Try.ntmps16
  go_wp2
  go_quiet (fail)
  go_wp2
  go_ret
  exact ⟨rfl, _, rfl⟩

set_option maxRecDepth 100000 in
theorem put_false (p : Nat) (most x : Int) (bs : List UInt8) (v : Value) (w : World) (h : WinAt w p most bs v) (hl : most ≤ (bs.length : Int)) :
    Calls Try.prog 16 #[.pointer (some ⟨p, 0, none⟩), .int .u8 x] w fun e w' => e = .returned (.bool false) ∧ Dr w w' := by
  have c0 : w.cell? ⟨p, 0, none⟩ = some (.int .i64 most) := cell_of h.blk 0
  have c1 : w.cell? ⟨p, 1, none⟩ = some v := cell_of h.blk 1
  obtain ⟨a, cap, rfl⟩ := own_any h.own
  have hge : decide (most ≤ (bs.length : Int)) = true := by simp; omega
  clear h hl
  go_enter Try.func16, Try.ntmps16
  go_wp2
  go_quiet (fail)
  go_wp2
  go_ret
  exact ⟨rfl, _, rfl⟩

set_option maxRecDepth 100000 in
theorem put_true (p : Nat) (most x : Int) (b : UInt8) (hx : x = b.toNat) (bs : List UInt8) (v : Value) (w : World) (h : WinAt w p most bs v) (hl : (bs.length : Int) < most) (hm : (bs.length : Int) < 1000000000) :
    Calls Try.prog 16 #[.pointer (some ⟨p, 0, none⟩), .int .u8 x] w fun e w' => e = .returned (.bool true) ∧ ∃ v', WinAt w' p most (bs ++ [b]) v' ∧
      Fr (winFoot p v) w w' ∧ (∀ k, v'.ownBlock = some k → v.ownBlock = some k ∨ w.heap.size ≤ k) := by
  obtain ⟨i0, hi, hz0, hz1, hz2⟩ := info_parts info5
  have hb := h.blk
  have hown := h.own
  have hap := h.apart
  have c0 : w.cell? ⟨p, 0, none⟩ = some (.int .i64 most) := cell_of hb 0
  have c1 : w.cell? ⟨p, 1, none⟩ = some v := cell_of hb 1
  have f1 := free_of hb 1
  obtain ⟨a, cap, rfl⟩ := own_any hown
  have Hown := Lib.hid hown
  have Hap := Lib.hid hap
  have Hb := Lib.hid hb
  have Hm := Lib.hid hm
  have Hi := Lib.hid hi
  have Hz0 := Lib.hid hz0
  have Hz1 := Lib.hid hz1
  have Hz2 := Lib.hid hz2
  have Hx := Lib.hid hx
  have hge : decide (most ≤ (bs.length : Int)) = false := by simp; omega
  clear h hb hown hap hi hz0 hz1 hz2 hm hl hx
  go_enter Try.func16, Try.ntmps16
  go_wp2
  go_quiet (fail)
  go_wp2_with (at_builtin; refine wpList_append_own_at _ rfl (.tmp 23) (.tmp 25) 29 rfl 0 5 i0 (.int .u8 0) 1 1 Try.underlying29 Hi.out Hz0.out Hz1.out Hz2.out rfl (by decide) _ bs.length (bytesV bs) rfl ?own ⟨w.heap.size, 0, none⟩ 1 1 [.int .u8 x] rfl rfl ?c1 ?c2 ?c3 ?c4 (Nat.zero_le _) ?_)
  case own => exact Hown.out.alloc _
  case c1 => exact cell_one_new _ _ _
  case c2 => intro u hu; simp at hu; subst hu; rfl
  case c3 => have := Hm.out; unfold maxLen; omega
  case c4 => have := Hm.out; omega
  intro v' w1 hown' hgr _ hat
  obtain ⟨g, cap', rfl⟩ := own_slice hown' (by omega)
  have hne : p ≠ g := by
    rintro rfl
    have hlt := lt_of_block Hb.out
    rcases hat with e | e
    · exact Hap.out (by rw [← e]; rfl)
    · simp [Value.ownBlock] at e; omega
  have hb1 : w1.heap[p]? = some (.cells #[.int .i64 most, .slice a bs.length cap] 67 (0, 0)) :=
    (hgr.block p (by simp; have := lt_of_block Hb.out; omega) (fun e => Hap.out e.symm)).trans (block_alloc Hb.out)
  have hF : Fr (winFoot p (.slice a bs.length cap)) w w1 :=
    (((Fr.refl _ _).drewN _).alloc _).grown hgr (fun k hk => .inl (.inr hk))
  have hat' : ∀ k, (Value.slice (some ⟨g, 0, none⟩) (bs.length + 1) cap').ownBlock = some k → (Value.slice a bs.length cap).ownBlock = some k ∨ w.heap.size ≤ k := by
    intro k hk
    rcases hat with e | e
    · exact .inl (e ▸ hk)
    · right
      rw [e] at hk
      simp at hk
      omega
  have e1 : w1.cell? ⟨p, 1, none⟩ = some (.slice a bs.length cap) := cell_of hb1 1
  have g1 := free_of hb1 1
  have Ho := Lib.hid hown'
  have HF := Lib.hid hF
  have Hb1 := Lib.hid hb1
  have Hat := Lib.hid hat'
  have Hne := Lib.hid hne
  clear hown' hgr hat hb1 hF hat' hne
  go_wp2
  go_ret
  refine ⟨rfl, _, ⟨?_, ?_, ?_, ?_⟩, ?_, Hat.out⟩
  · exact block_setCell Hb1.out _
  · have := own_keep (S := fun k => k = p) Ho.out ((Fr.refl _ _).setCell ⟨p, 1, none⟩ (.slice (some ⟨g, 0, none⟩) (bs.length + 1) cap') (.inl rfl)) (by simp [Value.ownBlock]; exact fun e => Hne.out e.symm)
    rw [bytesV_append]
    simpa [bytesV, Hx.out] using this
  · simp [Value.ownBlock]; exact fun e => Hne.out e.symm
  · have := Hm.out; simp; omega
  · exact HF.out.setCell _ _ (.inl (.inl rfl))

set_option maxRecDepth 100000 in
theorem len_nil (w : World) : Calls Try.prog 20 #[.pointer none] w fun e w' => e = .returned (.int .i64 0) ∧ w = w' := by
  go_enter Try.func20, Try.ntmps20
  go_wp2
  go_ret
  exact ⟨rfl, rfl⟩
set_option maxRecDepth 100000 in
theorem win_len (p : Nat) (most : Int) (bs : List UInt8) (v : Value) (w : World) (h : WinAt w p most bs v) :
    Calls Try.prog 20 #[.pointer (some ⟨p, 0, none⟩)] w fun e w' => e = .returned (.int .i64 bs.length) ∧ w = w' := by
  have c1 : w.cell? ⟨p, 1, none⟩ = some v := cell_of h.blk 1
  obtain ⟨a, cap, rfl⟩ := own_any h.own
  clear h
  go_enter Try.func20, Try.ntmps20
  go_wp2
  go_ret
  exact ⟨rfl, rfl⟩

set_option maxRecDepth 100000 in
theorem text_nil (w : World) : Calls Try.prog 18 #[.pointer none] w fun e w' => e = .returned (.string ⟨#[]⟩) ∧ w = w' := by
  go_enter Try.func18, Try.ntmps18
  go_wp2
  go_ret
  exact ⟨rfl, rfl⟩

theorem own_text {w : World} {B n : Nat} {v : Value} {bs : List UInt8} (h : w.ownsRow B 5 1 v n (bytesV bs)) : (convert 29 9 v).run Try.prog w = .ok (.string ⟨bs.toArray⟩) w := by
  have hl : bs.length = n := by have := h.1; simp [bytesV] at this; exact this
  have e : strOfNums (bs.map fun b => (b.toNat : Int)) = ⟨bs.toArray⟩ := by
    unfold strOfNums
    congr 2
    rw [List.map_map]
    conv => rhs; rw [← List.map_id bs]
    exact List.map_congr_left (fun b _ => by simp)
  rw [← e]
  rcases h.2 with ⟨rfl, rfl⟩ | ⟨g, cap, cur, rfl, _⟩
  · obtain rfl : bs = [] := List.eq_nil_of_length_eq_zero hl
    exact run_convert_bytes_nil w 29 5 Try.underlying29 Try.underlying5 0 0 9 Try.underlying9
  · refine run_convert_bytes_arg w 29 5 Try.underlying29 Try.underlying5 g 0 n cap _ (by simpa using hl) (fun i hi => ?_) 9 Try.underlying9
    have hc := h.cells (g := g) rfl i (.int .u8 ((bs.map fun b => (b.toNat : Int)).getD i 0)) (by simp [bytesV, List.getD, List.getElem?_eq_getElem (show i < bs.length by omega)])
    have hplain : (⟨g, 0, none⟩ : Addr).add i = ⟨g, 0 + i, none⟩ := by unfold Addr.add; split <;> simp_all
    rw [hplain] at hc
    exact hc

set_option maxRecDepth 100000 in
theorem win_text (p : Nat) (most : Int) (bs : List UInt8) (v : Value) (w : World) (h : WinAt w p most bs v) :
    Calls Try.prog 18 #[.pointer (some ⟨p, 0, none⟩)] w fun e w' => e = .returned (.string ⟨bs.toArray⟩) ∧ w = w' := by
  have c1 : w.cell? ⟨p, 1, none⟩ = some v := cell_of h.blk 1
  have hc := own_text h.own
  obtain ⟨a, cap, rfl⟩ := own_any h.own
  clear h
  go_enter Try.func18, Try.ntmps18
  go_wp2
  go_ret
  exact ⟨rfl, rfl⟩

set_option maxRecDepth 100000 in
theorem at_nil (d : Int) (w : World) : Calls Try.prog 19 #[.pointer none, .int .i64 d] w fun e w' => e = .returned (.tuple #[.int .u8 0, .bool false]) ∧ w = w' := by
  go_enter Try.func19, Try.ntmps19
  go_wp2
  go_ret2
  exact ⟨rfl, rfl⟩
set_option maxRecDepth 100000 in
theorem at_false (p : Nat) (most d : Int) (bs : List UInt8) (v : Value) (w : World) (h : WinAt w p most bs v) (hd : d < 1 ∨ (bs.length : Int) < d) :
    Calls Try.prog 19 #[.pointer (some ⟨p, 0, none⟩), .int .i64 d] w fun e w' => e = .returned (.tuple #[.int .u8 0, .bool false]) ∧ w = w' := by
  have c1 : w.cell? ⟨p, 1, none⟩ = some v := cell_of h.blk 1
  obtain ⟨a, cap, rfl⟩ := own_any h.own
  clear h
  by_cases h1 : d < 1
  · clear hd
    go_enter Try.func19, Try.ntmps19
    go_wp2
    go_ret2
    exact ⟨rfl, rfl⟩
  · have h2 : (bs.length : Int) < d := by omega
    clear hd
    go_enter Try.func19, Try.ntmps19
    go_wp2
    go_ret2
    exact ⟨rfl, rfl⟩
theorem own_byte {w : World} {B g cap n : Nat} {bs : List UInt8} (h : w.ownsRow B 5 1 (.slice (some ⟨g, 0, none⟩) n cap) bs.length (bytesV bs)) (q : Nat) (hq : q < bs.length) :
    w.cell? ⟨g, q, none⟩ = some (.int .u8 ((bs.getD q 0).toNat : Int)) := by
  have hc := h.cells (g := g) rfl q (.int .u8 ((bs.getD q 0).toNat : Int)) (by simp [bytesV, List.getD, List.getElem?_eq_getElem hq])
  have hplain : (⟨g, 0, none⟩ : Addr).add q = ⟨g, 0 + q, none⟩ := by unfold Addr.add; split <;> simp_all
  rw [hplain, Nat.zero_add] at hc
  exact hc

set_option maxRecDepth 100000 in
theorem at_true (p : Nat) (most : Int) (d : Nat) (bs : List UInt8) (v : Value) (w : World) (h : WinAt w p most bs v) (h1 : 1 ≤ d) (h2 : d ≤ bs.length) :
    Calls Try.prog 19 #[.pointer (some ⟨p, 0, none⟩), .int .i64 (d : Int)] w fun e w' => e = .returned (.tuple #[.int .u8 ((bs.getD (bs.length - d) 0).toNat : Int), .bool true]) ∧ Dr w w' := by
  have c1 : w.cell? ⟨p, 1, none⟩ = some v := cell_of h.blk 1
  have hown := h.own
  have hlen := h.len
  clear h
  obtain ⟨g, cap, rfl⟩ := own_slice hown (by omega)
  have hc := own_byte hown (bs.length - d) (by omega)
  have hi : (bs.length : Int) - (d : Int) = ((bs.length - d : Nat) : Int) := by omega
  generalize hq : bs.length - d = q at *
  have hq0 : (0 : Int) ≤ (q : Int) := by omega
  have hq1 : (q : Int) < (bs.length : Int) := by omega
  have hw : IntKind.i64.wrap (q : Int) = (q : Int) := IntWalk.i64_in _ (by omega)
  generalize (bs.getD q 0).toNat = B at *
  have Hq := Lib.hid hq
  have h1' : ¬ (d : Int) < 1 := by omega
  have h2' : ¬ (bs.length : Int) < (d : Int) := by omega
  clear hown hq hlen
  go_enter Try.func19, Try.ntmps19
  go_wp2
  go_quiet (fail)
  go_wp2
  go_ret2
  exact ⟨rfl, _, rfl⟩
end Go.Proofs.Ytfmoagdhajfngaa
