/-
  slices.SortStableFunc at the closure of Order, at any length up to 300.
-/
import Derived.Test.YtbihcdjamdkinaaSx
import Derived.Test.YtbihcdjamdkinaaSz
namespace Go.Proofs.Ytbihcdjamdkinaa
open Go.RowKit Go.Lib
attribute [local go_sem ↓] Go.wp_at_zero Go.wp_at_succ

theorem merge_all {w0 : World} {g c n bx : Nat} {a : Option Addr} {len cap : Nat} {xs : List Int} (hn : n ≤ 1000000) : ∀ (N lo m hi : Nat), hi - lo ≤ N → lo < m → m < hi → hi ≤ n → Merges w0 g c n bx a len cap xs lo m hi
  | 0, lo, m, hi, h, h1, h2, _ => by omega
  | N + 1, lo, m, hi, h, h1, h2, h3 => fun w es hS hs1 hs2 hc => by
    by_cases c1 : m = lo + 1
    · subst c1; exact merge_up hS lo hi (by omega) h3 hn hs2 hc
    · by_cases c2 : hi = m + 1
      · subst c2; exact merge_down hS lo m (by omega) h3 hn hs1 hc
      · by_cases hm : (lo + hi) / 2 < m
        · exact merge_step lo m hi (by omega) (by omega) h3 hn (fun lo' m' hi' a1 a2 a3 a4 => merge_all hn N lo' m' hi' (by omega) a1 a2 a3) hS hs1 hs2 hc ((lo + hi) / 2) ((lo + hi) / 2 + m) ((lo + hi) / 2 + m - 1) ((lo + hi) / 2 + m - hi) ((lo + hi) / 2) rfl rfl rfl (.inl ⟨hm, rfl, rfl⟩)
        · exact merge_step lo m hi (by omega) (by omega) h3 hn (fun lo' m' hi' a1 a2 a3 a4 => merge_all hn N lo' m' hi' (by omega) a1 a2 a3) hS hs1 hs2 hc ((lo + hi) / 2) ((lo + hi) / 2 + m) ((lo + hi) / 2 + m - 1) lo m rfl rfl rfl (.inr ⟨by omega, rfl, rfl⟩)

set_option maxRecDepth 100000 in
set_option maxHeartbeats 4000000 in
theorem stable_any {w0 w : World} {g c n bx : Nat} {a : Option Addr} {len cap : Nat} {xs : List Int} (h : SAt w0 w g c n bx a len cap xs (upI n)) (hn : n ≤ 100000) :
    Calls Try.prog 46 #[.slice (some ⟨g, 0, none⟩) n c, .int .i64 n, .func (.func 31) #[] #[.pointer (some ⟨bx, 0, none⟩)]] w fun e w' => e = .returned (.tuple #[]) ∧ ∃ es', Ordered xs n es' ∧ SAt w0 w' g c n bx a len cap xs es' := by
  have H := Lib.hid h
  clear h
  go_enter Try.func46, Try.ntmps46
  go_wp2_with fail
  go_loopw [7, 8] (fun va vb wr => ∃ (t : Nat) (ek : List Int), va = .int .i64 ((t * 20 : Nat) : Int) ∧ vb = .int .i64 ((t * 20 + 20 : Nat) : Int) ∧ t * 20 ≤ n ∧ Hid (SAt w0 wr g c n bx a len cap xs ek) ∧ Hid (ek.Perm (upI n)) ∧ Hid (SrtTo xs ek n 20 (t * 20)) ∧ Hid (CutsFrom ek n 20 0) ∧ Hid (∀ j, t * 20 ≤ j → j < n → ek.getD j 0 = j)) (fun va _ _ => n - (intOf va).toNat)
  case atStart => exact ⟨0, upI n, rfl, rfl, by omega, H, Lib.hid (.refl _), Lib.hid (fun t ht => by omega), Lib.hid (fun t _ _ => cut_upI n _), Lib.hid (fun j _ hj => upI_getD hj)⟩
  case round =>
    obtain ⟨t, ek, rfl, rfl, htn, HK, HP, HT, HC, HU⟩ := hrel
    clear H
    obtain ⟨x, hx⟩ : ∃ x, t * 20 = x := ⟨_, rfl⟩
    obtain ⟨y, hy⟩ : ∃ y, x + 20 = y := ⟨_, rfl⟩
    rw [hx] at htn HT HU ⊢
    rw [hy]
    have e1 : IntKind.i64.wrap ((y : Int) + 20) = ((y + 20 : Nat) : Int) := wrap_nat (by omega) (by omega)
    have hlen := HK.out.hn
    by_cases hlt : y ≤ n
    · have INS := ins_range xs (es := ek) (lo := x) (hi := y) (by omega) (by omega) (fun p q a1 a2 a3 => by rw [HU.out p (by omega) (by omega), HU.out q (by omega) (by omega)]; omega)
      have C := Lib.hid (insertion_any HK.out x y (by omega) hlt (by omega))
      have ST := Lib.hid (first_step (t := t) (.inl (by omega)) (by rw [hx]; exact HT.out) HC.out (hi := y) (by omega) (by omega) (by rw [hx]; exact INS.2) (by rw [hx]; exact INS.1))
      have HU2 : Hid (∀ j, y ≤ j → j < n → (insOut xs x (y - (x + 1)) (x + 1) ek).getD j 0 = j) := Lib.hid fun j j1 j2 => by rw [INS.2.out j (by omega)]; exact HU.out j (by omega) j2
      have HP2 := Lib.hid (INS.2.perm.trans HP.out)
      have HXY := Lib.hid (And.intro hx hy)
      clear INS HT HC HU HP HK
      have hle : ((y : Int) ≤ (n : Int)) := by omega
      clear hx hy hlen
      go_wp2_with (go_at_call 52; refine C.out.mono ?_; rintro e w3 ⟨rfl, s3⟩; have S3 := Lib.hid s3; clear s3)
      go_roundw
      case rel =>
        have h1 := HXY.out.1
        have h2 := HXY.out.2
        refine ⟨t + 1, _, by congr 2; omega, by congr 2; omega, by omega, S3, HP2, ?_, Lib.hid ST.out.2, ?_⟩
        · have := ST.out.1
          rw [show (t + 1) * 20 = t * 20 + 20 from by omega]; exact Lib.hid this
        · rw [show (t + 1) * 20 = y from by omega]; exact HU2
      case measure => have h2 := HXY.out.2; simp [intOf]; omega
    · have INS := ins_range xs (es := ek) (lo := x) (hi := n) htn (by omega) (fun p q a1 a2 a3 => by rw [HU.out p (by omega) (by omega), HU.out q (by omega) (by omega)]; omega)
      have C := Lib.hid (insertion_any HK.out x n htn (Nat.le_refl _) (by omega))
      have ST := first_step (t := t) (.inr (by omega)) (by rw [hx]; exact HT.out) HC.out (hi := n) (by omega) (by omega) (by rw [hx]; exact INS.2) (by rw [hx]; exact INS.1)
      have HP2 := Lib.hid (INS.2.perm.trans HP.out)
      have hnl : decide (y ≤ n) = false := by simpa using hlt
      have G0 : Hid (SrtFrom xs (insOut xs x (n - (x + 1)) (x + 1) ek) n 20 0) := Lib.hid (by
        intro q _
        by_cases e : q ≤ t
        · have := mul_le (b := 20) e
          exact ST.1 q (by omega)
        · intro i j a1 a2 a3; omega)
      have C0 := Lib.hid ST.2
      generalize insOut xs x (n - (x + 1)) (x + 1) ek = e0 at *
      clear INS HT HC HU HP HK ST hx hlt
      go_wp2_with (go_at_call 52; refine C.out.mono ?_; rintro e w3 ⟨rfl, s3⟩; have S3 := Lib.hid s3; clear s3)
      clear hnl hlen
      go_loopw [6] (fun vb wr => ∃ (bs : Nat) (ek : List Int), vb = .int .i64 bs ∧ 20 ≤ bs ∧ bs ≤ 2 * n + 20 ∧ Hid (SAt w0 wr g c n bx a len cap xs ek) ∧ Hid (ek.Perm (upI n)) ∧ Hid (SrtFrom xs ek n bs 0) ∧ Hid (CutsFrom ek n bs 0)) (fun vb _ => 2 * n + 21 - (intOf vb).toNat)
      case atStart => exact ⟨20, e0, rfl, by omega, by omega, S3, HP2, G0, C0⟩
      case round =>
        obtain ⟨bs, ek, rfl, hb1, hb2, HK, HP, HF, HC⟩ := hrel
        clear S3 HP2 G0 C0
        obtain ⟨b2, hb2'⟩ : ∃ b2, 2 * bs = b2 := ⟨_, rfl⟩
        have f1 : IntKind.i64.wrap (2 * (bs : Int)) = (b2 : Int) := wrap_nat (by omega) (by omega)
        have f1' : 2 * (bs : Int) = (b2 : Int) := by omega
        have f2 : IntKind.i64.wrap ((bs : Int) * 2) = (b2 : Int) := wrap_nat (by omega) (by omega)
        have f2' : (bs : Int) * 2 = (b2 : Int) := by omega
        by_cases hlt : bs < n
        · have HB := Lib.hid hb2'
          clear hb2'
          go_wp2_with fail
          go_loopw [7, 8] (fun va vb wr => ∃ (u q : Nat) (ej : List Int), va = .int .i64 q ∧ vb = .int .i64 ((q + b2 : Nat) : Int) ∧ Hid (q = u * (2 * bs)) ∧ q ≤ n ∧ Hid (SAt w0 wr g c n bx a len cap xs ej) ∧ Hid (ej.Perm (upI n)) ∧ Hid (CutsFrom ej n (2 * bs) 0) ∧ Hid (CutsFrom ej n bs q) ∧ Hid (SrtTo xs ej n (2 * bs) q) ∧ Hid (SrtFrom xs ej n bs q)) (fun va _ _ => n - (intOf va).toNat)
          case atStart => exact ⟨0, 0, ek, rfl, by go_num, Lib.hid (by omega), Nat.zero_le _, HK, HP, Lib.hid (cuts_double HC.out), HC, Lib.hid (fun t ht => by omega), HF⟩
          case round =>
            obtain ⟨u, q, ej, rfl, rfl, hu, hqn, HK2, HP2, HC2, HC1, HT, HF2⟩ := hrel
            clear HK HP HF HC
            obtain ⟨x1, hx1⟩ : ∃ x1, q + bs = x1 := ⟨_, rfl⟩
            obtain ⟨y1, hy1⟩ : ∃ y1, q + b2 = y1 := ⟨_, rfl⟩
            rw [hy1]
            have hb := HB.out
            have g1 : IntKind.i64.wrap ((q : Int) + bs) = (x1 : Int) := wrap_nat (by omega) (by omega)
            have g1' : (q : Int) + bs = (x1 : Int) := by omega
            obtain ⟨z1, hz1⟩ : ∃ z1, y1 + b2 = z1 := ⟨_, rfl⟩
            have g2 : IntKind.i64.wrap ((y1 : Int) + b2) = (z1 : Int) := wrap_nat (by omega) (by omega)
            have g2' : (y1 : Int) + b2 = (z1 : Int) := by omega
            by_cases hin : y1 ≤ n
            · have hpre := st_pre hu.out HC1.out HF2.out (by omega)
              rw [hx1] at hpre
              have C := Lib.hid (merge_all (by omega) n q x1 y1 (by omega) (by omega) (by omega) hin wr ej HK2.out hpre.1 (hpre.2.1.mono (Nat.le_refl _) (by omega)) (hpre.2.2.cr hin))
              have ST : Hid (∀ es', Srt xs es' q y1 → Perm' ej es' q y1 → CutsFrom es' n (2 * bs) 0 ∧ CutsFrom es' n bs y1 ∧ SrtTo xs es' n (2 * bs) y1 ∧ SrtFrom xs es' n bs y1) := Lib.hid fun es' t1 t2 => by
                have e : y1 = q + 2 * bs := by omega
                rw [e] at t1 t2 ⊢
                exact st_step hu.out (by omega) HC2.out HC1.out HT.out HF2.out t2 t1
              have HZ : Hid (q + 2 * bs = y1 ∧ y1 + b2 = z1) := Lib.hid (by omega)
              clear hpre HC2 HC1 HT HF2 HK2 hx1 hy1 hz1 hb
              go_wp2_with (go_at_call 53; with_reducible refine Calls.mono C.out ?_; rintro e w5 ⟨rfl, es1, t1, p1, s1⟩; have S1 := Lib.hid s1; have PP := Lib.hid (p1.perm.trans HP2.out); have S4 := Lib.hid (ST.out _ t1 p1); clear t1 p1 s1)
              go_roundw
              case rel => exact ⟨u + 1, y1, es1, rfl, by have := HZ.out.2; rw [this], Lib.hid (by have h1 := HZ.out.1; have h2 := hu.out; rw [Nat.add_mul, Nat.one_mul, ← h2]; omega), hin, S1, PP, Lib.hid S4.out.1, Lib.hid S4.out.2.1, Lib.hid S4.out.2.2.1, Lib.hid S4.out.2.2.2⟩
              case measure => have := HZ.out.1; simp [intOf]; omega
            · have hnl : decide (y1 ≤ n) = false := by simpa using hin
              by_cases hm : x1 < n
              · have hpre := st_pre hu.out HC1.out HF2.out (by omega)
                rw [hx1] at hpre
                have C := Lib.hid (merge_all (by omega) n q x1 n (by omega) (by omega) hm (Nat.le_refl _) wr ej HK2.out hpre.1 (hpre.2.1.mono (Nat.le_refl _) (by omega)) (hpre.2.2.cr (Nat.le_refl _)))
                have ST : Hid (∀ es', Srt xs es' q n → Perm' ej es' q n → CutsFrom es' n (2 * bs) 0 ∧ SrtFrom xs es' n (2 * bs) 0) := Lib.hid fun es' t1 t2 =>
                  st_end hu.out (by omega) HC2.out HT.out t2 t1
                clear hpre HC2 HC1 HT HF2 HK2 hx1 hy1 hz1 hb hin
                go_wp2_with (go_at_call 53; with_reducible refine Calls.mono C.out ?_; rintro e w5 ⟨rfl, es1, t1, p1, s1⟩; have S1 := Lib.hid s1; have PP := Lib.hid (p1.perm.trans HP2.out); have S4 := Lib.hid (ST.out _ t1 p1); clear t1 p1 s1)
                go_roundw
                case rel => exact ⟨2 * bs, es1, by rw [HB.out], by omega, by omega, S1, PP, Lib.hid S4.out.2, Lib.hid S4.out.1⟩
                case measure => have := HB.out; simp [intOf]; omega
              · have S4 := Lib.hid (st_end hu.out (by omega) HC2.out HT.out (Perm'.refl _ _ _) (st_last hu.out HF2.out (by omega)))
                have hnm : decide (x1 < n) = false := by simpa using hm
                clear HC2 HC1 HT HF2 hx1 hy1 hz1 hb hin
                go_wp2_with fail
                go_roundw
                case rel => exact ⟨2 * bs, ej, by rw [HB.out], by omega, by omega, HK2, HP2, Lib.hid S4.out.2, Lib.hid S4.out.1⟩
                case measure => have := HB.out; simp [intOf]; omega
        · have hnl : decide (bs < n) = false := by simpa using hlt
          have FIN : Hid (Ordered xs n ek) := Lib.hid ⟨HP.out, by
            have := HF.out 0 (Nat.zero_le _)
            rw [Nat.zero_mul] at this
            exact this.mono (Nat.le_refl _) (by omega)⟩
          go_wp2_with fail
          go_end0
          exact ⟨rfl, ek, FIN.out, HK.out⟩

theorem sort_any {w0 w : World} {g c n bx : Nat} {a : Option Addr} {len cap : Nat} {xs : List Int} (h : SAt w0 w g c n bx a len cap xs (upI n)) (hn : n ≤ 100000) :
    Calls Try.prog 30 #[.slice (some ⟨g, 0, none⟩) n c, .func (.func 31) #[] #[.pointer (some ⟨bx, 0, none⟩)]] w fun e w' => e = .returned (.tuple #[]) ∧ ∃ es', Ordered xs n es' ∧ SAt w0 w' g c n bx a len cap xs es' := by
  have C := Lib.hid (stable_any h hn)
  clear h
  go_enter Try.func30, Try.ntmps30
  go_wp2_with (go_at_call 46; refine C.out.mono ?_; rintro e w' ⟨rfl, es1, o1, s1⟩; have O1 := Lib.hid o1; have S1 := Lib.hid s1; clear o1 s1)
  go_end0
  exact ⟨rfl, es1, O1.out, S1.out⟩

/-- Order, whatever its length. -/
theorem Order_any (a : Option Addr) (len cap : Nat) (xs : List Int) (w : World) (hl : len ≤ 100000) (hx : IsU w a len xs) :
    Calls Try.prog 10 #[.slice a len cap] w fun e w' => ∃ v es', e = .returned v ∧ Ordered xs len es' ∧ OwnI w' w.heap.size v es' ∧ es'.length = len ∧ Below w.heap.size w w' :=
  Order_of (Ordered xs len) a len cap xs w hl hx (fun h => by subst h; exact ⟨.refl _, fun i j _ _ c => by omega⟩) (fun w0 w g c bx _ hs => sort_any hs hl)
end Go.Proofs.Ytbihcdjamdkinaa
