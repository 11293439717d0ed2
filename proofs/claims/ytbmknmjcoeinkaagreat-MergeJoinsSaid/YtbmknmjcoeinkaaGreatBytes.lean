/- Plain laws of bytes: what a Reader takes off bytes that lie ahead. No program. -/
import Derived.Test.YtbmknmjcoeinkaaGreatOctet1
namespace Go.Proofs.YtbmknmjcoeinkaaGreat.Oct
theorem takeR_app (a r : ByteArray) (n : Int) (hn : n = a.size) : takeR (a ++ r) false n = (a, r, false) := by
  unfold takeR
  have hs : (a ++ r).size = a.size + r.size := ByteArray.size_append
  rw [if_pos ⟨rfl, by omega, by omega⟩, hn, Int.toNat_natCast]
  refine Prod.ext ?_ (Prod.ext ?_ rfl)
  · exact ByteArray.extract_append_eq_left rfl
  · exact ByteArray.extract_append_eq_right rfl hs
theorem takeR_short (r : ByteArray) (b : Bool) (n : Int) (h : (r.size : Int) < n) : takeR r b n = (⟨#[]⟩, ⟨#[]⟩, true) := by
  unfold takeR
  rw [if_neg]
  rintro ⟨_, _, h3⟩
  omega
theorem val_le32 (n : Nat) (h : n < 4294967296) : val (le32 n) = n := by
  unfold le32 val val val val val
  simp only [UInt8.toNat_ofNat']
  omega
theorem bytes_app (l m : List UInt8) : (⟨(l ++ m).toArray⟩ : ByteArray) = ⟨l.toArray⟩ ++ ⟨m.toArray⟩ := by
  apply ByteArray.ext
  apply Array.ext'
  simp
theorem bytes_of (s : ByteArray) : (⟨s.data.toList.toArray⟩ : ByteArray) = s := by
  apply ByteArray.ext
  apply Array.ext'
  simp
theorem num_app (n : Nat) (r : ByteArray) : takeR (⟨(le32 n).toArray⟩ ++ r) false 4 = (⟨(le32 n).toArray⟩, r, false) := takeR_app _ r 4 rfl
theorem textR_app (s r : ByteArray) (most : Int) (h : (s.size : Int) ≤ most) (h32 : s.size < 4294967296) : textR (⟨(txt s.data.toList).toArray⟩ ++ r) false most = (s, r, false) := by
  have hl : s.data.toList.length = s.size := rfl
  have hm : s.size % 4294967296 = s.size := Nat.mod_eq_of_lt h32
  have e : (⟨(txt s.data.toList).toArray⟩ ++ r : ByteArray) = ⟨(le32 s.size).toArray⟩ ++ (s ++ r) := by
    unfold txt
    rw [hl, hm, bytes_app, bytes_of, ByteArray.append_assoc]
  rw [e]
  unfold textR
  have hv : val (takeR (⟨(le32 s.size).toArray⟩ ++ (s ++ r)) false 4).1.data.toList = s.size := by
    rw [num_app s.size]
    exact val_le32 _ h32
  rw [hv, if_neg (by omega), num_app s.size]
  exact takeR_app s r _ rfl
end Go.Proofs.YtbmknmjcoeinkaaGreat.Oct
