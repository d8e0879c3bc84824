/-
  Contracts: find and FindIn, of the program.
-/
import Derived.Test.YtejieacdfjpfnaaGreatStoreOk6
namespace Go.Proofs.YtejieacdfjpfnaaGreat
set_option maxRecDepth 100000
open Go.ChangeShapes Go.WideShapes Go.ChangeAt Go.RowKit Go.Deep

def findS (s : StoreD) (name : List UInt8) : Nat → Int → Int × Int
  | 0, _ => (-1, -1)
  | f + 1, e => if e < 0 then (-1, -1) else match s.envs[e.toNat]? with
    | none => (-1, -1)
    | some x => if 0 ≤ findB x.names name then (e, findB x.names name) else findS s name f x.parent
def findIn (s : StoreD) (e : Int) (name : List UInt8) : Int × Int := if (storeOk s && envU s e) = true then findS s name (s.envs.length + 1) e else (-1, -1)
def RetII (p : Int × Int) (w : World) (e : Ending) (w' : World) : Prop := e = .returned (.tuple #[.int .i64 p.1, .int .i64 p.2]) ∧ Below w.heap.size w w'
theorem findS_neg {s : StoreD} {name : List UInt8} {f : Nat} {e : Int} (h : e < 0) : findS s name f e = (-1, -1) := by
  cases f with
  | zero => rfl
  | succ f => rw [findS, if_pos h]
theorem findS_hit {s : StoreD} {name : List UInt8} {f k : Nat} (hk : k < s.envs.length) (h : 0 ≤ findB s.envs[k].names name) : findS s name (f + 1) k = ((k : Int), findB s.envs[k].names name) := by
  rw [findS, if_neg (by omega), Int.toNat_natCast, List.getElem?_eq_getElem hk]
  simp only [if_pos h]
theorem findS_go {s : StoreD} {name : List UInt8} {f k : Nat} (hk : k < s.envs.length) (h : ¬ 0 ≤ findB s.envs[k].names name) : findS s name (f + 1) k = findS s name f s.envs[k].parent := by
  rw [findS, if_neg (by omega), Int.toNat_natCast, List.getElem?_eq_getElem hk]
  simp only [if_neg h]
theorem envU_lt {s : StoreD} {e : Int} (h : envU s e = true) : 0 ≤ e ∧ e < s.envs.length := by
  refine ⟨?_, ?_⟩
  · by_cases h0 : 0 ≤ e
    · exact h0
    · rw [envU_neg h0] at h; cases h
  · by_cases h0 : e < s.envs.length
    · exact h0
    · rw [envU_big h0] at h; cases h
theorem env_parent {s : StoreD} (h : storeOk s = true) (k : Nat) (hk : k < s.envs.length) (hu : envU s k = true) : -1 ≤ s.envs[k].parent ∧ s.envs[k].parent < k ∧ (s.envs[k].parent < 0 ∨ envU s s.envs[k].parent = true) := by
  have h1 : envsOk s = true := by unfold storeOk at h; simp only [Bool.and_eq_true] at h; exact h.1.2
  have h2 : envOk s k s.envs[k] = true := of_decide_eq_true h1 k hk
  rw [envU_at k hk] at hu
  unfold envOk at h2
  rw [if_pos hu] at h2
  have h3 : enA s k s.envs[k] = true := by rw [Bool.and_eq_true] at h2; exact h2.1
  have h4 := @envU_lt s s.envs[k].parent
  grind [enA]

set_option maxHeartbeats 2000000 in
theorem impl_find (s : StoreD) (name : List UInt8) (g : Nat) (env : Int) (E0 : Option Addr) (e0 : Nat) (E1 : Option Addr) (e1 : Nat) (w : World) (hs : StoreR w [.slice E0 s.envs.length e0, .slice E1 s.promises.length e1] s) (hok : storeOk s = true) (hu : envU s env = true) (x0 : w.cell? ⟨g, 0, none⟩ = some (.slice E0 s.envs.length e0)) :
    Calls Tryz.prog 109 #[.pointer (some ⟨g, 0, none⟩), .int .i64 env, .string (str name)] w fun e w' => e = .returned (.tuple #[.int .i64 (findS s name (s.envs.length + 1) env).1, .int .i64 (findS s name (s.envs.length + 1) env).2]) ∧ w = w' := by
  obtain ⟨F0, f0, F1, f1, he, l0, l1, HE, HP⟩ := hs.open_
  simp only [List.cons.injEq, Value.slice.injEq, and_true, true_and] at he
  obtain ⟨⟨rfl, rfl⟩, rfl, rfl⟩ := he
  have HOK := Lib.hid hok
  have hrange := envU_lt hu
  have HU := Lib.hid hu
  generalize hR : findS s name (s.envs.length + 1) env = R
  have HR := Lib.hid hR
  clear hR hok hu hs
  go_enter Tryz.func109, Tryz.ntmps109
  go_wp2_with fail
  go_loop [8, 9] (fun x _ => ∃ (f : Nat) (e : Int), x = .int .i64 e ∧ -1 ≤ e ∧ e < s.envs.length ∧ Hid (e < f) ∧ Hid (e < 0 ∨ envU s e = true) ∧ Hid (findS s name f e = R)) (fun x _ => (intOf x + 1).toNat)
  case atStart => exact ⟨s.envs.length + 1, env, rfl, by omega, by omega, by show env < _; omega, .inr HU.out, HR.out⟩
  case round =>
    obtain ⟨f, e, rfl, he1, he2, hf, hu', hr⟩ := hrel
    by_cases h0 : 0 ≤ e
    · obtain ⟨k, rfl⟩ := Int.eq_ofNat_of_zero_le h0
      have hlt : k < s.envs.length := by omega
      have hpu : envU s k = true := by rcases hu'.out with h | h; omega; exact h
      obtain ⟨p1, p2, p3⟩ := env_parent HOK.out k hlt hpu
      have HP3 := Lib.hid p3
      clear hpu p3 h0
      obtain ⟨b, off, cs, rfl, hbl, _, hat, hr2⟩ := HE.out k hlt
      obtain ⟨N, n, M, m, rfl, k0, m1, m2, HN, HM⟩ := hr2.open_
      clear hr2
      have y1 : w.cell? ⟨b, off + k * 4 + 1, none⟩ = some (.int .i64 s.envs[k].parent) := by simpa using hat 1 _ rfl
      have y2 : w.cell? ⟨b, off + k * 4 + 2, none⟩ = some (.slice N s.envs[k].names.length n) := by simpa using hat 2 _ rfl
      clear hat
      obtain ⟨f', hff⟩ : ∃ f', f = f' + 1 := ⟨f - 1, by have := hf.out; omega⟩
      have HFF := Lib.hid hff
      clear hff
      by_cases hh : 0 ≤ findB s.envs[k].names name
      · have HH := Lib.hid (show R = ((k : Int), findB s.envs[k].names name) by rw [← hr.out, HFF.out]; exact findS_hit hlt hh)
        go_wp2_with (go_at_call 123; refine (impl_textIndex s.envs[k].names name _ _ HN.out).mono ?_; rintro e w' ⟨rfl, rfl⟩)
        go_ret2
        exact ⟨by rw [HH.out]; rfl, rfl⟩
      · have HH := Lib.hid (show findS s name f' s.envs[k].parent = R by rw [← hr.out, HFF.out]; exact (findS_go hlt hh).symm)
        have hh' : findB s.envs[k].names name < 0 := by omega
        go_wp2_with (go_at_call 123; refine (impl_textIndex s.envs[k].names name _ _ HN.out).mono ?_; rintro e w' ⟨rfl, rfl⟩)
        go_round
        case rel => exact ⟨f', s.envs[k].parent, rfl, p1, by omega, by show _ < _; have := hf.out; have := HFF.out; omega, HP3.out, HH.out⟩
        case measure => simp [intOf]; omega
    · have HH := Lib.hid (show R = (-1, -1) by rw [← hr.out]; exact findS_neg (by omega))
      go_wp2_with fail
      go_ret2
      exact ⟨by rw [HH.out]; rfl, rfl⟩

set_option maxHeartbeats 1000000 in
theorem impl_FindIn (s : StoreD) (env : Int) (name : List UInt8) (ss : List Value) (w : World) (hs : StoreR w ss s) (hz : szStore s ≤ 1000000000000) :
    Calls Tryz.prog 58 #[.agg ss.toArray, .int .i64 env, .string (str name)] w (RetII (findIn s env name) w) := by
  have HS := Lib.hid hs
  obtain ⟨E0, e0, E1, e1, rfl, l0, l1, _⟩ := hs.open_
  clear hs
  have HX0 := Lib.hid (show ExL w w.heap.size [(w.heap.size, 33, [.slice E0 s.envs.length e0, .slice E1 s.promises.length e1])] (w.alloc (.cells #[.slice E0 s.envs.length e0, .slice E1 s.promises.length e1] 33)) from (ExL.start w).push 33 [.slice E0 s.envs.length e0, .slice E1 s.promises.length e1])
  go_enter Tryz.func58, Tryz.ntmps58
  go_wp2_with fail
  refine abs_w (ExL w w.heap.size [(w.heap.size, 33, [.slice E0 s.envs.length e0, .slice E1 s.promises.length e1])]) HX0.out ?_
  rintro W0 hX
  refine (impl_IsStore s _ W0 (HS.out.below hX.2.1) hz).mono ?_
  rintro e w1 ⟨rfl, hb⟩
  have HX1 := Lib.hid (hX.below hb)
  clear hb hX
  cases hok : storeOk s
  · have HQ := Lib.hid (show findIn s env name = (-1, -1) by simp [findIn, hok])
    go_wp2_with fail
    go_ret2
    exact ⟨by rw [HQ.out]; rfl, HX1.out.2.1⟩
  have HOK := Lib.hid hok
  clear hok
  have s0 := HX1.out.b0.cell 0 _ rfl
  have s1 := HX1.out.b0.cell 1 _ rfl
  go_wp2_with fail
  refine (impl_envUsed s env _ _ (HS.out.below HX1.out.2.1)).mono ?_
  rintro e w2 ⟨rfl, hb⟩
  have HX2 := Lib.hid (HX1.out.below hb)
  clear hb s0 s1
  cases hu : envU s env
  · have HQ := Lib.hid (show findIn s env name = (-1, -1) by simp [findIn, hu])
    go_wp2_with fail
    go_ret2
    exact ⟨by rw [HQ.out]; rfl, HX2.out.2.1⟩
  have HU := Lib.hid hu
  have HQ := Lib.hid (show findIn s env name = findS s name (s.envs.length + 1) env by simp [findIn, hu, HOK.out])
  clear hu
  go_wp2_with fail
  refine (impl_find s name w.heap.size env E0 e0 E1 e1 _ (HS.out.below HX2.out.2.1) HOK.out HU.out (HX2.out.b0.cell 0 _ rfl)).mono ?_
  rintro e w3 ⟨rfl, rfl⟩
  go_wp2_with fail
  go_ret2
  exact ⟨by rw [HQ.out]; rfl, HX2.out.2.1⟩

end Go.Proofs.YtejieacdfjpfnaaGreat
