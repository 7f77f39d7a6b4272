/- A row of ints that a call has made, as it is read; what a region that draws its order holds on to. -/
import Derived.Test.YtdilfdjhablnpaaPlain
namespace Go.Proofs.Ytdilfdjhablnpaa
open Go.RowKit Go.Shelf

theorem keep_of_own {W : World} {base : Nat} {v : Value} {m : Nat} (x : Int) (hm : m ≤ 100000) (h1 : -9223372036854775808 ≤ x) (h2 : x ≤ 9223372036854775807) (h : W.ownsRow base 3 1 v m (List.replicate m (.int .i64 x))) :
    ∃ A c, v = .slice A m c ∧ KeepIn W A m (List.replicate m x) := by
  have hlen : (List.replicate m x).length = m := List.length_replicate
  have hget : ∀ k, k < m → (List.replicate m x).getD k 0 = x := fun k hk => by simp [List.getD, hk]
  obtain ⟨_, ho⟩ := h
  rcases ho with ⟨rfl, hn⟩ | ⟨g, cap, cur, rfl, hb, hg, hc, _, hs, ht⟩
  · have hm0 : m = 0 := hn
    subst hm0
    exact ⟨none, 0, rfl, rfl, by omega, IntRow.nil _ _, fun k hk => by simp at hk⟩
  · refine ⟨some ⟨g, 0, none⟩, cap, rfl, hlen.symm, by omega, fun k hk => ⟨g, 0, rfl, ?_⟩, fun k hk => ?_⟩
    · rw [hlen] at hk
      rw [hget k hk]
      have hl : (List.replicate m (Value.int .i64 x))[k]? = some (.int .i64 x) := by simp [hk]
      rw [← ht, List.getElem?_take] at hl
      split at hl
      · simp only [World.cell?, hg, Nat.zero_add]
        simpa using hl
      · cases hl
    · rw [hlen] at hk
      rw [hget k hk]
      exact ⟨h1, h2⟩

theorem fits_nil (n : Nat) : Fits n [] := fun x hx => by simp [idxs] at hx
theorem short_nil : ∀ x, x ∈ idxs [] → x.2.s.size ≤ 140737488351232 := fun x hx => by simp [idxs] at hx

theorem right_true (z : Int) (Ak Aw : Option Addr) (n ck m cw : Nat) (off : Bool) (kept : List ByteArray) (ws : List Wr) (w : World) (h : Hid (DiskIn w Ak Aw n m kept ws)) (hR : Hid (RightD z kept ws)) :
    Calls Try.prog 17 #[.agg #[.int .i64 z, .slice Ak n ck, .slice Aw m cw, .bool off]] w fun e w' => e = .returned (.bool true) ∧ Below w.heap.size w w' := by
  have hn := h.out.n_eq
  have h1 := hR.out.n1
  have h2 := hR.out.n2
  refine (right_calls z Ak Aw n ck m cw off kept ws w h hR.out.z1 hR.out.z2 (by omega) (by omega)).mono ?_
  rintro e w' ⟨v, rfl, hv, hb⟩
  have hv1 : v = true := hv.2 hR.out
  subst hv1
  exact ⟨rfl, hb⟩

/-- What is known in DiskKeeps of all rows. -/
structure KF (w : World) (Ak Aw A3 A4 A5 A6 A7 : Option Addr) (n m : Nat) (kept I C : List ByteArray) (ws : List Wr) (W : World) : Prop where
  b : Below w.heap.size w W
  d : DiskIn W Ak Aw n m kept ws
  s : DiskIn W A3 none n 0 I []
  c : DiskIn W A7 none n 0 C []
  all : KeepIn W A4 m (List.replicate m 1099511627776)
  ra : StrRow W A5 I
  rb : StrRow W A6 I

theorem KF.below {w : World} {Ak Aw A3 A4 A5 A6 A7 : Option Addr} {n m : Nat} {kept I C : List ByteArray} {ws : List Wr} {W W' : World} (h : KF w Ak Aw A3 A4 A5 A6 A7 n m kept I C ws W) (hb : Below W.heap.size W W') : KF w Ak Aw A3 A4 A5 A6 A7 n m kept I C ws W' :=
  ⟨h.b.trans (hb.mono h.b.size), h.d.below hb, h.s.below hb, h.c.below hb, h.all.below hb, h.ra.below hb, h.rb.below hb⟩

theorem held_below {w : World} {Ak Aw A3 A4 A5 A6 A7 : Option Addr} {n m : Nat} {kept I C : List ByteArray} {ws : List Wr} {W W' : World} {x1 x2 x3 x4 x5 x6 x7 x8 x9 x10 x11 x12 x13 x14 : Addr} {v1 v2 v3 v4 v5 v6 v7 v8 v9 v10 v11 v12 v13 v14 : Value}
    (hb : Below W.heap.size W W')
    (h : W.cell? x1 = some v1 ∧ W.cell? x2 = some v2 ∧ W.cell? x3 = some v3 ∧ W.cell? x4 = some v4 ∧ W.cell? x5 = some v5 ∧ W.cell? x6 = some v6 ∧ W.cell? x7 = some v7 ∧ W.cell? x8 = some v8 ∧ W.cell? x9 = some v9 ∧ W.cell? x10 = some v10 ∧ W.cell? x11 = some v11 ∧ W.cell? x12 = some v12 ∧ W.cell? x13 = some v13 ∧ W.cell? x14 = some v14 ∧ Hid (KF w Ak Aw A3 A4 A5 A6 A7 n m kept I C ws W)) :
    W'.cell? x1 = some v1 ∧ W'.cell? x2 = some v2 ∧ W'.cell? x3 = some v3 ∧ W'.cell? x4 = some v4 ∧ W'.cell? x5 = some v5 ∧ W'.cell? x6 = some v6 ∧ W'.cell? x7 = some v7 ∧ W'.cell? x8 = some v8 ∧ W'.cell? x9 = some v9 ∧ W'.cell? x10 = some v10 ∧ W'.cell? x11 = some v11 ∧ W'.cell? x12 = some v12 ∧ W'.cell? x13 = some v13 ∧ W'.cell? x14 = some v14 ∧ Hid (KF w Ak Aw A3 A4 A5 A6 A7 n m kept I C ws W') := by
  obtain ⟨h1, h2, h3, h4, h5, h6, h7, h8, h9, h10, h11, h12, h13, h14, h15⟩ := h
  exact ⟨cell_below hb h1, cell_below hb h2, cell_below hb h3, cell_below hb h4, cell_below hb h5, cell_below hb h6, cell_below hb h7, cell_below hb h8, cell_below hb h9, cell_below hb h10, cell_below hb h11, cell_below hb h12, cell_below hb h13, cell_below hb h14, Lib.hid (h15.out.below hb)⟩
end Go.Proofs.Ytdilfdjhablnpaa
