/- Plain facts: the ways through the reference's order. -/
import Derived.Test.YtjbpodpnefboiaaFpc
namespace FP
open Ieee

theorem key_zero_word : key 0 = 0 := by decide +kernel
theorem nan_zero : isNaN 0 = false := by decide +kernel

theorem ord_zero (a : Nat) : (double.order a 0 == some .eq) = (!isNaN a && decide (key a = 0)) := by
  rw [eq_eq, nan_zero, key_zero_word]; simp

theorem lr1 {a b : Nat} (h : (double.order a a != some .eq) = true) : false = ltB a b := by
  rw [ordne_self] at h
  rw [← lessRef_eq]; simp [lessRef, h]
theorem lr2 {a b : Nat} (h : (double.order a a != some .eq) = false) (h' : (double.order b b != some .eq) = true) : true = ltB a b := by
  rw [ordne_self] at h h'
  rw [← lessRef_eq]; simp [lessRef, h, h']
theorem lr3 {a b : Nat} (h : (double.order a a != some .eq) = false) (h' : (double.order b b != some .eq) = false) (ha : double.order a 0 = some .eq) (hb : (double.order b 0 == some .eq) = true) :
    (sgn a && !sgn b) = ltB a b := by
  rw [ordne_self] at h h'
  have ha' : (double.order a 0 == some .eq) = true := by rw [ha]; rfl
  rw [ord_zero] at ha' hb
  simp [h, h'] at ha' hb
  rw [← lessRef_eq]; simp [lessRef, h, h', ha', hb]
theorem lr4 {a b : Nat} (h : (double.order a a != some .eq) = false) (h' : (double.order b b != some .eq) = false) (hb : (double.order b 0 == some .eq) = false) :
    (double.order a b == some .lt) = ltB a b := by
  rw [ordne_self] at h h'
  rw [ord_zero] at hb
  simp [h'] at hb
  rw [← lessRef_eq, lt_eq]; simp [lessRef, h, h', hb]
theorem lr5 {a b : Nat} (h : (double.order a a != some .eq) = false) (h' : (double.order b b != some .eq) = false) (ha : ¬ double.order a 0 = some .eq) :
    (double.order a b == some .lt) = ltB a b := by
  rw [ordne_self] at h h'
  have ha' : (double.order a 0 == some .eq) = false := by simpa using ha
  rw [ord_zero] at ha'
  simp [h] at ha'
  rw [← lessRef_eq, lt_eq]; simp [lessRef, h, h', ha']
theorem sgn_and {a b : Nat} {v : Bool} (h : sgn a = true) (hv : (sgn a && !sgn b) = v) : (!sgn b) = v := by rw [← hv, h]; simp
theorem sgn_and' {a b : Nat} {v : Bool} (h : sgn a = false) (hv : (sgn a && !sgn b) = v) : false = v := by rw [← hv, h]; simp
end FP
