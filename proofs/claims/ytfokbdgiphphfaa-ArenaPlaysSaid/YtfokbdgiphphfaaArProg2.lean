/- The program's arena: Cut, Words, Check, Fill, Alloc. No condition beyond the hypotheses. -/
import Derived.Test.YtfokbdgiphphfaaArProg
namespace Go.Proofs.Ytfokbdgiphphfaa
open Go Go.Abs Go.RowKit

theorem scalar_slice {σ : AS} {v : Value} {ws : List Int} (h : Rd 1 σ v (u64s ws)) : v.cells = #[v] ∧ flat v = true := by
  obtain ⟨base, cap, rfl⟩ := rd_shape h
  exact ⟨rfl, rfl⟩

/-- Another slice of words is put into an arena. -/
theorem Arn.set {prog : Bool} {σ : AS} {A : Nat} {v v' : Value} {ws' : List Int} {max : Int} (h : σ.heap.get A = some (.cells (bif prog then [v, .int .i64 max] else [.int .i64 max, v]) 0 false)) (hs : Sl 1 σ v' (u64s ws')) (hu : ∀ w ∈ ws', U64 w) (hl : (ws'.length : Int) ≤ max) (hm : max ≤ 65536) (ha : slBase v' ≠ some A) :
    ∃ o, aStore Try.prog 22 v' (.pointer (some ⟨A, bif prog then 0 else 1, none⟩)) σ = some (undef, σ.put A o) ∧ Arn prog (σ.put A o) A v' ws' max := by
  obtain ⟨h1, h2⟩ := scalar_slice hs.rd
  cases prog with
  | true =>
    refine ⟨.cells [v', .int .i64 max] 0 false, aStore_cell (by kernel_rfl) h1 h2 h (by show 0 < 2; omega), AS.get_put_same _ _ _, hs.of_get fun b hb => AS.get_put_ne _ _ (fun hh => ha (by rw [hb, hh])), hu, hl, hm, ha⟩
  | false =>
    refine ⟨.cells [.int .i64 max, v'] 0 false, aStore_cell (by kernel_rfl) h1 h2 h (by show 1 < 2; omega), AS.get_put_same _ _ _, hs.of_get fun b hb => AS.get_put_ne _ _ (fun hh => ha (by rw [hb, hh])), hu, hl, hm, ha⟩

def cutF (ws : List Int) (x : Int) : Option (Int × Int) := if 0 ≤ x ∧ x ≤ ws.length then none else some (23, x)
def cutW (ws : List Int) (x : Int) : List Int := if 0 ≤ x ∧ x ≤ ws.length then ws.take x.toNat else ws

theorem u64s_take (ws : List Int) (n : Nat) : (u64s ws).take n = u64s (ws.take n) := by simp [u64s]

theorem cut_ok (n : Nat) (σ : AS) {A : Nat} {v : Value} {ws : List Int} {max : Int} (hw : Wf σ) (h : Arn true σ A v ws max) (x : Int) :
    ∃ e v' σ', acall Try.prog (n + 2) (.func 14) #[ptrTo A, .int .i64 x] σ = some (e, σ') ∧ ErrOf σ' e (cutF ws x) ∧ Arn true σ' A v' (cutW ws x) max ∧ Fr (foot A v) σ σ' ∧ Moved σ v v' := by
  obtain ⟨base, cap, rfl⟩ := h.shape
  have toF : ∀ {τ}, Fr Nil σ τ → Fr (foot A (.slice base ws.length cap)) σ τ := fun hf => hf.mono fun _ h => h.elim
  by_cases h0 : x < 0
  · obtain ⟨e, τ, t1, t2, t3, _⟩ := fault_prog n (σ.up 19) 23 x (hw.up 19)
    exact ⟨e, _, τ, run (.yes h0 <| .up t1 .nil) (by kernel_rfl), by rw [cutF, if_neg (by omega)]; exact t2, by rw [cutW, if_neg (by omega)]; exact (h.up 19).nil t3, toF t3.start, Or.inl rfl⟩
  · have l1 := (h.up 16).load_words
    by_cases h1 : ((ws.length : Nat) : Int) < x
    · obtain ⟨e, τ, t1, t2, t3, _⟩ := fault_prog n (σ.up 19) 23 x (hw.up 19)
      exact ⟨e, _, τ, run (.no h0 <| .val l1 <| .yes h1 <| .up t1 .nil) (by kernel_rfl), by rw [cutF, if_neg (by omega)]; exact t2, by rw [cutW, if_neg (by omega)]; exact (h.up 19).nil t3, toF t3.start, Or.inl rfl⟩
    · have l2 := (h.up 26).load_words
      have hA := hw.lt h.obj
      have hmem : ∀ w ∈ ws.take x.toNat, U64 w := fun w hw' => h.words w (List.mem_of_mem_take hw')
      have hlen : ((ws.take x.toNat).length : Int) ≤ max := by rw [List.length_take]; have := h.le; omega
      obtain ⟨k, rfl⟩ : ∃ k : Nat, x = (k : Int) := ⟨x.toNat, by omega⟩
      cases base with
      | none =>
        have hws : ws = [] ∧ cap = 0 := by
          rcases h.sl with ⟨h1, h2⟩ | ⟨b, len, cap, c, room, h1, _⟩
          · simp only [Value.slice.injEq, true_and] at h1
            exact ⟨by simpa [u64s] using h2, h1.2⟩
          · cases h1
        obtain ⟨rfl, rfl⟩ := hws
        have hk : k = 0 := by simp at h1; omega
        subst hk
        have hs : Sl 1 (σ.up 26) (.slice none 0 0) (u64s []) := Or.inl ⟨rfl, rfl⟩
        obtain ⟨o, t1, t2⟩ := Arn.set (h.up 26).obj hs (fun w hw' => by cases hw') (by have := h.le; simpa using this) h.mx (by simp [slBase])
        refine ⟨.nilIface, _, ((σ.up 26).put A o).up 1, run (.val l1 <| .val l2 <| .auto <| .up t1 .nil) (by kernel_rfl), by rfl, by exact t2.up 1, ((((Fr.refl hw).up 26).put _ (by rw [AS.next_up]; omega) (Or.inl (Or.inl rfl)) hw).up 1), Or.inl rfl⟩
      | some a =>
        obtain ⟨ab, ao, asp⟩ := a
        have ha : ao = 0 ∧ asp = none := by
          rcases h.sl with ⟨h1, _⟩ | ⟨b, len, cap, c, room, h1, _⟩
          · cases h1
          · cases h1; exact ⟨rfl, rfl⟩
        obtain ⟨rfl, rfl⟩ := ha
        obtain ⟨t1, t2⟩ := Sl.head (P := Try.prog) (t := 22) (e := 29) (id := σ.next + 22) (j := .i64) (by kernel_rfl) (h.up 26).sl (x := k) (by omega)
        rw [Nat.mul_one, u64s_take] at t2
        obtain ⟨o, t3, t4⟩ := Arn.set (h.up 26).obj t2 (by simpa using hmem) (by simpa using hlen) h.mx h.apart
        have h0' : ¬ ((k : Int) < 0) := h0
        refine ⟨.nilIface, .slice (some ⟨ab, 0, none⟩) k cap, ((σ.up 26).put A o).up 1, run (.no h0' <| .val l1 <| .no h1 <| .val l2 <| .up t1 <| .up t3 .nil) (by kernel_rfl), by rw [cutF, if_pos (by omega)]; rfl, ?_, ((((Fr.refl hw).up 26).put _ (by rw [AS.next_up]; omega) (Or.inl (Or.inl rfl)) hw).up 1), Or.inl rfl⟩
        rw [cutW, if_pos (by omega), Int.toNat_natCast]
        exact t4.up 1

theorem words_ok (n : Nat) (σ : AS) {A : Nat} {v : Value} {ws : List Int} {max : Int} (hw : Wf σ) (h : Arn true σ A v ws max) :
    ∃ v' σ', acall Try.prog (n + 2) (.func 13) #[ptrTo A] σ = some (v', σ') ∧ Sl 1 σ' v' (u64s ws) ∧ Fr Nil σ σ' ∧ (∀ b, slBase v' = some b → σ.next ≤ b) := by
  obtain ⟨base, cap, rfl⟩ := h.shape
  have l1 := (h.up 9).load_words
  obtain ⟨v', τ, t1, t2, t3, t4⟩ := clone_ok n (σ.up 9) _ ws (hw.up 9) (h.up 9).sl.rd (by have := h.le; have := h.mx; omega)
  exact ⟨v', τ, run (.val l1 <| .up t1 .nil) (by kernel_rfl), t2, t3.start, fun b hb => by have := t4 b hb; rw [AS.next_up] at this; omega⟩

theorem arn_check_ok (n : Nat) (σ : AS) {A : Nat} {v : Value} {ws : List Int} {max : Int} (hw : Wf σ) (h : Arn true σ A v ws max) (hn : 65536 < n) :
    ∃ e σ', acall Try.prog (n + 7) (.func 19) #[ptrTo A] σ = some (e, σ') ∧ ErrOf σ' e (bads ws) ∧ Fr Nil σ σ' := by
  obtain ⟨base, cap, rfl⟩ := h.shape
  have l1 := (h.up 9).load_words
  have hl : ws.length ≤ 65536 := by have := h.le; have := h.mx; omega
  obtain ⟨e, τ, t1, t2, t3⟩ := check_prog n (σ.up 9) _ ws (hw.up 9) (h.up 9).sl.rd h.words (by omega) (by omega)
  exact ⟨e, τ, run (.val l1 <| .up t1 .nil) (by kernel_rfl), t2, t3.start⟩

def fillF (max : Int) (xs : List Int) : Option (Int × Int) := if max < xs.length then some (22, (xs.length : Int)) else bads xs
def fillW (max : Int) (ws xs : List Int) : List Int := if fillF max xs = none then xs else ws

theorem fill_ok (n : Nat) (σ : AS) {A : Nat} {v : Value} {ws : List Int} {max : Int} (hw : Wf σ) (h : Arn true σ A v ws max) (x : Value) (xs : List Int) (hx : Rd 1 σ x (u64s xs)) (hxu : ∀ w ∈ xs, U64 w) (hn : 65536 < n) :
    ∃ e v' σ', acall Try.prog (n + 7) (.func 11) #[ptrTo A, x] σ = some (e, σ') ∧ ErrOf σ' e (fillF max xs) ∧ Arn true σ' A v' (fillW max ws xs) max ∧ Fr (foot A v) σ σ' ∧ Moved σ v v' := by
  obtain ⟨base, cap, rfl⟩ := rd_shape hx
  have toF : ∀ {τ}, Fr Nil σ τ → Fr (foot A v) σ τ := fun hf => hf.mono fun _ h => h.elim
  have l1 := (h.up 10).load_max
  by_cases h1 : max < ((xs.length : Nat) : Int)
  · obtain ⟨e, τ, t1, t2, t3, _⟩ := fault_prog (n + 5) (σ.up 14) 22 (xs.length : Nat) (hw.up 14)
    have hF : fillF max xs = some (22, (xs.length : Int)) := by rw [fillF, if_pos h1]
    exact ⟨e, v, τ, run (.val l1 <| .yes h1 <| .up t1 .nil) (by kernel_rfl), by rw [hF]; exact t2, by rw [fillW, hF, if_neg (by simp)]; exact (h.up 14).nil t3, toF t3.start, Or.inl rfl⟩
  · have hl : xs.length ≤ 65536 := by have := h.mx; omega
    have hF : fillF max xs = bads xs := by rw [fillF, if_neg h1]
    obtain ⟨e, τ, t1, t2, t3⟩ := check_prog n (σ.up 13) _ xs (hw.up 13) (hx.of_get fun _ _ => rfl) hxu (by omega) (by omega)
    cases hb : bads xs with
    | some ca =>
      obtain ⟨c, a⟩ := ca
      rw [hb] at t2
      obtain ⟨b, rfl, hb2⟩ := t2
      refine ⟨_, v, τ.up 4, run (.val l1 <| .no h1 <| .up t1 .nil) (by kernel_rfl), by rw [hF, hb]; exact ⟨b, rfl, hb2⟩, ?_, toF (t3.start.up 4), Or.inl rfl⟩
      rw [fillW, hF, hb, if_neg (by simp)]
      exact ((h.up 13).nil t3).up 4
    | none =>
      rw [hb] at t2
      cases t2
      have hx' : Rd 1 (τ.up 8) (.slice base xs.length cap) (u64s xs) := hx.fr (t3.start.up 8) fun _ _ h => h
      obtain ⟨u, τ2, t4, t5, t6, t7⟩ := clone_ok (n + 5) (τ.up 8) _ xs (t3.wf.up 8) hx' (by omega)
      have hh := (((h.up 13).nil t3).up 8).nil t6
      have hA := hw.lt h.obj
      have hle := t3.le
      rw [AS.next_up] at hle
      obtain ⟨o, t8, t9⟩ := Arn.set hh.obj t5 hxu (by omega) h.mx (fun hb => by have := t7 A hb; rw [AS.next_up] at this; omega)
      have hle2 := t6.le
      rw [AS.next_up] at hle2
      refine ⟨.nilIface, u, (τ2.put A o).up 1, run (.val l1 <| .no h1 <| .up t1 <| .up t4 <| .up t8 .nil) (by kernel_rfl), by rw [hF, hb]; rfl, by rw [fillW, hF, hb, if_pos rfl]; exact t9.up 1, ?_, Or.inr fun b hb => by have := t7 b hb; rw [AS.next_up] at this; omega⟩
      exact ((toF ((t3.start.up 8).then t6)).put _ (by omega) (Or.inl (Or.inl rfl)) hw).up 1

/-! ## Alloc -/

def fresh (len n : Nat) : List Int := (List.range n).map fun i => 8 * ((len + i : Nat) : Int)
theorem fresh_succ (len n : Nat) : fresh len (n + 1) = fresh len n ++ [8 * ((len + n : Nat) : Int)] := by simp [fresh, List.range_succ]
theorem fresh_length (len n : Nat) : (fresh len n).length = n := by simp [fresh]

def allocF (max : Int) (len : Nat) (x : Int) : Option (Int × Int) := if x < 1 then some (21, x) else if max - len < x then some (22, x) else none
def allocV (max : Int) (len : Nat) (x : Int) : Int := if allocF max len x = none then len else 0
def allocW (max : Int) (ws : List Int) (x : Int) : List Int := if allocF max ws.length x = none then ws ++ fresh ws.length x.toNat else ws

theorem shl_u64 {d : Int} (h0 : 0 ≤ d) (h1 : d < 65536) : orI .u64 (shlI .u64 (IntKind.wrap .u64 d) 3) (IntKind.wrap .u64 0) = 8 * d := by
  have e1 : shlI .u64 (IntKind.wrap .u64 d) 3 = 8 * d := by
    rw [wrap_u64 (by unfold U64; omega)]
    show IntKind.wrap .u64 (d * 2 ^ 3) = _
    rw [wrap_u64 (by unfold U64; omega)]
    omega
  rw [e1, wrap_u64 (n := 0) (by unfold U64; omega)]
  show IntKind.wrap .u64 ((BitVec.ofInt 64 (8 * d) ||| BitVec.ofInt 64 0).toNat : Int) = _
  have e2 : (BitVec.ofInt 64 (8 * d) ||| BitVec.ofInt 64 0).toNat = (8 * d).toNat := by
    have : BitVec.ofInt 64 0 = 0#64 := by decide
    rw [this, BitVec.or_zero, BitVec.toNat_ofInt, Int.emod_eq_of_lt (by omega) (by simp; omega)]
  rw [e2, wrap_u64 (by unfold U64; omega)]
  omega

theorem pack_ok (n : Nat) (σ : AS) (d : Int) (h0 : 0 ≤ d) (h1 : d < 65536) : ∃ k, acall Try.prog (n + 2) (.func 29) #[.int .i64 0, .int .i64 d] σ = some (.tuple #[.int .u64 (8 * d), .nilIface], σ.up k) := by
  obtain ⟨k, t1⟩ := fits_prog n (σ.up 12) 0 d (by unfold I64; omega)
  have : fitsB 0 d = true := by simp [fitsB, h0, h1]
  rw [this] at t1
  rw [← shl_u64 h0 h1]
  exact ⟨12 + k + 13, by simp only [← up_up]; exact run (.up t1 .nil) (by kernel_rfl)⟩

theorem alloc_ok (n : Nat) (σ : AS) {A : Nat} {v : Value} {ws : List Int} {max : Int} (hw : Wf σ) (h : Arn true σ A v ws max) (x : Int) (hn : 65536 < n) :
    ∃ e v' σ', acall Try.prog (n + 4) (.func 15) #[ptrTo A, .int .i64 x] σ = some (.tuple #[.int .i64 (allocV max ws.length x), e], σ') ∧ ErrOf σ' e (allocF max ws.length x) ∧ Arn true σ' A v' (allocW max ws x) max ∧ Fr (foot A v) σ σ' ∧ Moved σ v v' := by
  have toF : ∀ {τ}, Fr Nil σ τ → Fr (foot A v) σ τ := fun hf => hf.mono fun _ h => h.elim
  have hle := h.le
  have hmx := h.mx
  by_cases h0 : x < 1
  · obtain ⟨e, τ, t1, t2, t3, _⟩ := fault_prog (n + 2) (σ.up 12) 21 x (hw.up 12)
    have hF : allocF max ws.length x = some (21, x) := by rw [allocF, if_pos h0]
    refine ⟨e, v, τ, ?_, by rw [hF]; exact t2, by rw [allocW, hF, if_neg (by simp)]; exact (h.up 12).nil t3, toF t3.start, Or.inl rfl⟩
    rw [allocV, hF, if_neg (by simp)]
    exact run (.yes h0 <| .up t1 .nil) (by kernel_rfl)
  · have l1 := (h.up 21).load_max
    have l2 := (h.up 21).load_words
    obtain ⟨base, cap, rfl⟩ := h.shape
    have t0 : IntKind.wrap .i64 (max - ((ws.length : Nat) : Int)) = max - ((ws.length : Nat) : Int) := wrap_i64 (by unfold I64; omega)
    by_cases h1 : max - ((ws.length : Nat) : Int) < x
    · obtain ⟨e, τ, t1, t2, t3, _⟩ := fault_prog (n + 2) (σ.up 25) 22 x (hw.up 25)
      have hF : allocF max ws.length x = some (22, x) := by rw [allocF, if_neg h0, if_pos h1]
      refine ⟨e, _, τ, ?_, by rw [hF]; exact t2, by rw [allocW, hF, if_neg (by simp)]; exact (h.up 25).nil t3, toF t3.start, Or.inl rfl⟩
      rw [allocV, hF, if_neg (by simp)]
      exact run (.no h0 <| .val l1 <| .val l2 <| .num t0 <| .yes h1 <| .up t1 .nil) (by kernel_rfl)
    · have hF : allocF max ws.length x = none := by rw [allocF, if_neg h0, if_neg h1]
      have l3 := (h.up 27).load_words
      obtain ⟨m, rfl⟩ : ∃ m : Nat, x = (m : Int) := ⟨x.toNat, by omega⟩
      have hloop := loop_block (P := Try.prog) (n := n + 3) (f := 15) (id := 1) (slots := [0, 5, 6, 39, 40])
        (fun j vals τ => ∃ (i : Nat) (v' : Value), i + j = m ∧ vals = [ptrTo A, .nilIface, .int .i64 (ws.length : Nat), .int .i64 (m : Int), .int .i64 i] ∧ Arn true τ A v' (ws ++ fresh ws.length i) max ∧ Fr (foot A (.slice base ws.length cap)) σ τ ∧ Moved σ (.slice base ws.length cap) v')
        (fun e vals τ => ∃ v', e = .normal ∧ vals = [ptrTo A, .nilIface, .int .i64 (ws.length : Nat), .int .i64 (m : Int), .int .i64 (m : Int)] ∧ Arn true τ A v' (ws ++ fresh ws.length m) max ∧ Fr (foot A (.slice base ws.length cap)) σ τ ∧ Moved σ (.slice base ws.length cap) v')
        (by
          rintro j vals τ ⟨i, v', hij, rfl, ha, hf, hm⟩
          by_cases hi : i < m
          · have s1 : ((i : Nat) : Int) < (m : Int) := by omega
            have s2 : IntKind.wrap .i64 (((ws.length : Nat) : Int) + (i : Int)) = ((ws.length + i : Nat) : Int) := by rw [wrap_i64 (by unfold I64; omega)]; omega
            obtain ⟨k, s3⟩ := pack_ok (n + 1) (τ.up 12) ((ws.length + i : Nat) : Int) (by omega) (by omega)
            have hb := ((ha.up 12).up k).up 13
            have hfb := ((hf.up 12).up k).up 13
            obtain ⟨base', cap', rfl⟩ := ha.shape
            have s4 := hb.load_words
            have hA := hw.lt h.obj
            have hAτ := hf.wf.lt ha.obj
            have s5 : FreshAt (((τ.up 12).up k).up 13) (((τ.up 12).up k).next + 8) := ⟨hf.wf.none (by simp only [AS.next_up]; omega), by simp only [AS.next_up]; omega⟩
            have hf6 : Fr Nil (((τ.up 12).up k).up 13) ((((τ.up 12).up k).up 13).put (((τ.up 12).up k).next + 8) (.cells [.int .u64 (8 * ((ws.length + i : Nat) : Int))] 0 false)) := (Fr.refl hfb.wf).put _ s5.2 (Or.inr (Or.inr s5.1)) hfb.wf
            have hx : Rd 1 ((((τ.up 12).up k).up 13).put (((τ.up 12).up k).next + 8) (.cells [.int .u64 (8 * ((ws.length + i : Nat) : Int))] 0 false)) (.slice (some ⟨((τ.up 12).up k).next + 8, 0, none⟩) 1 1) (u64s [8 * ((ws.length + i : Nat) : Int)]) :=
              Or.inr (Or.inr ⟨⟨_, 0, none⟩, 1, 1, _, 0, false, rfl, rfl, AS.get_put_same _ _ _, rfl, by simp, rfl⟩)
            have s6' : FreshAt ((((τ.up 12).up k).up 13).put (((τ.up 12).up k).next + 8) (.cells [.int .u64 (8 * ((ws.length + i : Nat) : Int))] 0 false)) (((τ.up 12).up k).next + 9) := ⟨by rw [AS.get_put_ne _ _ (by omega)]; exact hf.wf.none (by simp only [AS.next_up]; omega), by simp only [AS.next_put, AS.next_up]; omega⟩
            have hlen : (ws ++ fresh ws.length i).length = ws.length + i := by rw [List.length_append, fresh_length]
            obtain ⟨u, τ2, s6, s7, s8, s9⟩ := append_ok (hb.nil hf6).sl hx (by rw [hlen]; simp; omega) s6' hf6.wf
            have hobj := s8.same _ _ (hb.nil hf6).obj (fun hh => by
              rcases hh with hh | hh
              · exact ha.apart hh
              · simp only [AS.next_up] at hh; omega)
            rw [List.append_assoc, ← fresh_succ] at s7
            have hle8 := s8.le
            simp only [AS.next_put, AS.next_up] at hle8
            have hua : slBase u ≠ some A := by
              rcases s9 with s9 | s9
              · rw [s9]; exact ha.apart
              · rw [s9]; intro hh; simp only [Option.some.injEq, AS.next_up] at hh; omega
            obtain ⟨o, s10, s11⟩ := Arn.set hobj s7 (fun w hw' => by
              rcases List.mem_append.1 hw' with hh | hh
              · exact h.words w hh
              · obtain ⟨q, hq, rfl⟩ := List.mem_map.1 hh
                have := List.mem_range.1 hq
                unfold U64
                omega) (by rw [List.length_append, fresh_length]; omega) hmx hua
            have s12 : IntKind.wrap .i64 ((i : Int) + 1) = ((i + 1 : Nat) : Int) := by rw [wrap_i64 (by unfold I64; omega)]; omega
            have hle0 := hf.le
            refine ⟨.normal, _, (τ2.put A o).up 2, round (.yes s1 <| .num s2 <| .up s3 <| .val s4 <| .new s5 <| .up s6 <| .up s10 <| .num s12 .nil) (by kernel_rfl), Or.inl ⟨rfl, j - 1, by omega, i + 1, u, by omega, rfl, s11.up 2, ?_, ?_⟩⟩
            · refine ((Fr.trans (S := foot A (.slice base ws.length cap)) (hfb.then (hf6.mono fun _ h => h.elim)) s8 (fun q hq => ?_) hw).put _ (by omega) (Or.inl (Or.inl rfl)) hw).up 2
              rcases hq with hq | hq
              · rcases hm with hm | hm
                · left; right; rw [← hm]; exact hq
                · right; exact hm q hq
              · right; simp only [AS.next_up] at hq; omega
            · rcases s9 with s9 | s9
              · rcases hm with hm | hm
                · left; rw [s9]; exact hm
                · right; intro b hb; rw [s9] at hb; exact hm b hb
              · right; intro b hb; rw [s9] at hb; simp only [Option.some.injEq, AS.next_up] at hb; omega
          · have hie : i = m := by omega
            subst hie
            have s1 : ¬ ((i : Nat) : Int) < (i : Int) := by omega
            exact ⟨.exit 1, _, τ.up 1, round (.no s1 .nil) (by kernel_rfl), Or.inr ⟨by simp, v', rfl, rfl, ha.up 1, hf.up 1, hm⟩⟩)
        (j := m) (vals := [ptrTo A, .nilIface, .int .i64 (ws.length : Nat), .int .i64 (m : Int), .int .i64 0]) (σ := σ.up 29)
        ⟨0, _, by omega, rfl, by simpa [fresh] using h.up 29, (Fr.refl hw).up 29, Or.inl rfl⟩ (by omega)
      obtain ⟨e, vals', τ, hblock, v', rfl, rfl, ha, hf, hm⟩ := hloop
      refine ⟨.nilIface, v', τ.up 3, ?_, by rw [hF]; rfl, by rw [allocW, hF, if_pos rfl]; simpa using ha.up 3, hf.up 3, hm⟩
      rw [allocV, hF, if_pos rfl]
      exact run (.no h0 <| .val l1 <| .val l2 <| .num t0 <| .no h1 <| .val l3 <| .block hblock .nil) (by kernel_rfl)

end Go.Proofs.Ytfokbdgiphphfaa
